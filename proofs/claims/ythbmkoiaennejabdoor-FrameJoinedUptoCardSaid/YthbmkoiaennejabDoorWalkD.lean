/- What odysseyref05.Scan and frame.Scan compute: the same list in memory of the call's own. -/
import Derived.Test.YthbmkoiaennejabDoorWalkC
import Derived.Deep.LoopGhost
namespace Go.Proofs.YthbmkoiaennejabDoor
open Go.RowKit Go.ChangeShapes Go.WideShapes Go.ChangeAt
theorem info9 : (Tryd.prog.info? 9).map (fun i => (i.zero, i.size, i.bytes)) = some (some (.string ⟨#[]⟩), 1, 16) := by kernel_rfl
/-- a slice of texts in memory of the call's own -/
def OwnS (w : World) (base : Nat) (v : Value) (L : List ByteArray) : Prop := w.ownsRow base 9 1 v L.length (L.map Value.string)
theorem OwnS.nil (w : World) (base : Nat) : OwnS w base (.slice none 0 0) [] := World.ownsRow_nil w base 9 1
theorem OwnS.below {w w' : World} {base : Nat} {v : Value} {L : List ByteArray} (h : OwnS w base v L) (hb : Below w.heap.size w w') : OwnS w' base v L := by
  obtain ⟨h1, h2⟩ := h
  refine ⟨h1, h2.imp id ?_⟩
  rintro ⟨g, cap, cur, e1, e2, e3, e4⟩
  have hg : g < w.heap.size := by
    rcases Nat.lt_or_ge g w.heap.size with h' | h'
    · exact h'
    · simp [Array.getElem?_eq_none h'] at e3
  exact ⟨g, cap, cur, e1, e2, (hb.block g hg).trans e3, e4⟩
theorem OwnS.slice {w : World} {base : Nat} {v : Value} {L : List ByteArray} (h : OwnS w base v L) : (v = .slice none 0 0 ∧ L = []) ∨ ∃ g cap, v = .slice (some ⟨g, 0, none⟩) L.length cap ∧ base ≤ g ∧ g < w.heap.size ∧ L.length ≤ cap ∧ cap ≤ maxLen := by
  obtain ⟨h1, ⟨rfl, h2⟩ | ⟨g, cap, cur, e1, e2, e3, e4, e5, e6⟩⟩ := h
  · exact .inl ⟨rfl, List.eq_nil_of_length_eq_zero h2⟩
  · have hg : g < w.heap.size := by
      rcases Nat.lt_or_ge g w.heap.size with h' | h'
      · exact h'
      · simp [Array.getElem?_eq_none h'] at e3
    exact .inr ⟨g, cap, e1, e2, hg, e4, e5⟩
theorem OwnS.blocks {w : World} {base : Nat} {v : Value} {L : List ByteArray} (h : OwnS w base v L) : ∀ k, v.ownBlock = some k → base ≤ k := by
  intro k hk
  rcases h.slice with ⟨rfl, _⟩ | ⟨g, cap, rfl, hg, _⟩
  · simp [Value.ownBlock] at hk
  · simp [Value.ownBlock] at hk; omega
/-- one text more, behind the others -/
theorem app_str {w : World} {ops : Array Oper} {rest : List Oper} {o : Oper} {a : Act} {Q : Exit → Act → World → Prop} (hgd : o.guard = none) (s x : Operand)
    (ho : o.op = .call { callee := .builtin .append, args := #[s, x], argTypes := #[27, 27] }) {base : Nat} {v : Value} {L : List ByteArray} (y : ByteArray) (hs : a.eval s = v) (hown : OwnS w base v L) (hb : base ≤ w.heap.size)
    (hx : a.eval x = .slice (some ⟨w.heap.size, 0, none⟩) 1 1) (hL : (L.length + 1) * 16 ≤ 140737488355328)
    (h : ∀ v' w', OwnS w' base v' (L ++ [y]) → (w.alloc (.cells #[.string y] 9)).grownBy w' v.ownBlock → wpList Tryd.prog ops Q rest (a.put o.dst v') w') : wpList Tryd.prog ops Q (o :: rest) a (w.alloc (.cells #[.string y] 9)) := by
  obtain ⟨i0, hi, hz0, hz1, hz2⟩ := info_parts info9
  refine wpList_append_own (w.alloc (.cells #[.string y] 9)) hgd s x 27 ho base 9 i0 (.string ⟨#[]⟩) 1 16 Tryd.underlying27 hi hz0 hz1 hz2 rfl (by decide) v L.length (L.map Value.string) hs (World.ownsRow.alloc hown _)
    ⟨w.heap.size, 0, none⟩ 1 1 [.string y] hx rfl ?_ ?_ (by unfold maxLen; omega) hL ?_ ?_
  · intro j u hj
    cases j with
    | zero => simp at hj; subst hj; simp [World.cell?, World.alloc, -World.alloc_eq, Addr.add]
    | succ j => simp at hj
  · intro u hu; simp at hu; subst hu; rfl
  · simp [World.alloc, -World.alloc_eq]; omega
  · intro v' w' h1 h2 _
    refine h v' w' ?_ h2
    unfold OwnS
    rw [List.length_append, List.map_append]
    exact h1
set_option maxHeartbeats 800000 in
theorem rscan_any (s : ByteArray) (w : World) (hs : s.size ≤ 35184372088832) :
    Calls Tryd.prog 13 #[.string s] w fun e w' => ∃ v L, e = .returned (.tuple #[v, .int .i64 (((FrM.scanL (bytesOf s)).2 : Nat) : Int)]) ∧ L.map bytesOf = (FrM.scanL (bytesOf s)).1 ∧ OwnS w' w.heap.size v L ∧ Below w.heap.size w w' := by
  go_enter Tryd.func13, Tryd.ntmps13
  go_wp2_with fail
  go_loopw [4, 5] (fun v at_ wr => ∃ (a : Nat) (L : List ByteArray), a ≤ s.size ∧ at_ = .int .i64 (a : Int) ∧ OwnS wr w.heap.size v L ∧ Below w.heap.size w wr ∧ L.length * 8 ≤ a ∧
    (L.map bytesOf ++ (FrM.scanL (restOf s a)).1, a + (FrM.scanL (restOf s a)).2) = FrM.scanL (bytesOf s)) (fun _ at_ _ => s.size - (intOf at_).toNat)
  case atStart => exact ⟨0, [], Nat.zero_le _, rfl, OwnS.nil _ _, Below.refl _ _, by simp, by simp [restOf]⟩
  case round =>
    obtain ⟨a, L, ha, rfl, hown, hbel, hL8, heq⟩ := hrel
    have HE := Lib.hid heq
    have HO := Lib.hid hown
    clear heq hown
    by_cases hlt : a < s.size
    · go_wp2_with fail
      refine (size_any s a _ (by omega) ha).mono ?_
      rintro e w1 ⟨rfl, hb1⟩
      by_cases hz : FrM.size (restOf s a) = 0
      · have HZ : Hid (FrM.scanL (restOf s a) = ([], 0)) := FrM.scanL_none hz
        rw [hz]
        clear hz
        go_wp2
        go_ret2
        rw [HZ.out] at HE
        refine ⟨u4, L, ?_, ?_, OwnS.below HO hb1, below_step hbel hb1⟩
        · rw [← HE.out]; simp
        · rw [← HE.out]; simp
      · have hz8 := FrM.size_ge hz
        have hzl := FrM.size_le (restOf s a)
        rw [rest_length] at hzl
        have HE2 : Hid (FrM.scanL (restOf s a) = (((restOf s a).drop 8).take (FrM.size (restOf s a) - 8) :: (FrM.scanL (restOf s (a + FrM.size (restOf s a)))).1, FrM.size (restOf s a) + (FrM.scanL (restOf s (a + FrM.size (restOf s a)))).2)) := by
          show _ = _
          have e : (restOf s a).drop (FrM.size (restOf s a)) = restOf s (a + FrM.size (restOf s a)) := by unfold restOf; rw [List.drop_drop]
          rw [FrM.scanL_step hz, e]
        generalize FrM.size (restOf s a) = z at *
        have t1 : ((z : Int) == 0) = false := by rw [beq_eq_false_iff_ne]; omega
        have HO1 : Hid (OwnS w1 w.heap.size u4 L) := OwnS.below HO hb1
        have d1 : (a : Int) + 8 ≤ (a : Int) + (z : Int) := by omega
        have d2 : (a : Int) + (z : Int) ≤ (s.size : Int) := by omega
        have p8 : 0 ≤ (a : Int) + 8 := by omega
        have p9 : 0 ≤ (a : Int) + (z : Int) := by omega
        have r8 : ((a : Int) + 8).toNat = a + 8 := by omega
        have r9 : ((a : Int) + (z : Int)).toNat = a + z := by omega
        have hbs : w.heap.size ≤ w1.heap.size := Nat.le_trans hbel.size hb1.size
        have h16 : (L.length + 1) * 16 ≤ 140737488355328 := by omega
        have HR : Hid (∀ k, u4.ownBlock = some k → w.heap.size ≤ k) := OwnS.blocks HO1.out
        have HB : Hid (Below w.heap.size w w1) := below_step hbel hb1
        go_wp2_with (at_builtin; refine app_str rfl _ _ rfl (s.extract (a + 8) (a + z)) rfl HO1.out hbs rfl h16 ?_; intro v2 w2 ho2 hg2; have HO2 := Lib.hid ho2; have HG := Lib.hid hg2; clear ho2 hg2)
        go_roundw
        case rel =>
          refine ⟨a + z, L ++ [s.extract (a + 8) (a + z)], by omega, by go_num, HO2, (HB.out.alloc (Nat.le_trans hbel.size hb1.size) _).grown HG.out (by simp [World.alloc, -World.alloc_eq]; omega) HR.out, by simp; omega, ?_⟩
          rw [← HE.out, HE2.out, List.map_append, List.append_assoc]
          simp only [List.map_cons, List.map_nil, List.singleton_append, bytes_extract, Nat.add_assoc]
          unfold restOf
          rw [List.drop_drop, show a + z - (a + 8) = z - 8 by omega]
        case measure => simp [intOf]; omega
    · obtain rfl : a = s.size := by omega
      have HZ : Hid (FrM.scanL (restOf s s.size) = ([], 0)) := FrM.scanL_none (by have := FrM.size_le (restOf s s.size); rw [rest_length] at this; omega)
      go_wp2
      go_ret2
      rw [HZ.out] at HE
      refine ⟨u4, L, ?_, ?_, HO, hbel⟩
      · rw [← HE.out]; simp
      · rw [← HE.out]; simp
end Go.Proofs.YthbmkoiaennejabDoor
