/- What frame.Scan computes, and odysseylaw05.same. -/
import Derived.Test.YthbmkoiaennejabDoorWalkE
import Derived.WalkSpells
namespace Go.Proofs.YthbmkoiaennejabDoor
open Go.RowKit Go.ChangeShapes Go.WideShapes Go.ChangeAt
theorem heap_new (w : World) (o : Obj) : (w.alloc o).heap[w.heap.size]? = some o := by simp [World.alloc, -World.alloc_eq]
theorem cell_new {w : World} {b t : Nat} {v : Value} (h : w.heap[b]? = some (.cells #[v] t)) : w.cell? ⟨b, 0, none⟩ = some v := by simp [World.cell?, h]
theorem free_new {w : World} {b t : Nat} {cs : Array Value} (h : w.heap[b]? = some (.cells cs t)) : w.frozen? ⟨b, 0, none⟩ = false := by simp [World.frozen?, h]
theorem OwnS.mono {w : World} {base base' : Nat} {v : Value} {L : List ByteArray} (h : OwnS w base' v L) (hb : base ≤ base') : OwnS w base v L := by
  obtain ⟨h1, h2⟩ := h
  refine ⟨h1, h2.imp id ?_⟩
  rintro ⟨g, cap, cur, e1, e2, e3⟩
  exact ⟨g, cap, cur, e1, by omega, e3⟩
set_option maxHeartbeats 800000 in
theorem scan_any (s : ByteArray) (w : World) (hs : s.size ≤ 35184372088832) (hT : Table w) :
    Calls Tryd.prog 12 #[.string s] w fun e w' => ∃ v L, e = .returned (.tuple #[v, .int .i64 (((FrM.scanL (bytesOf s)).2 : Nat) : Int)]) ∧ L.map bytesOf = (FrM.scanL (bytesOf s)).1 ∧ OwnS w' w.heap.size v L ∧ Below w.heap.size w w' := by
  have HT := Lib.hid hT
  clear hT
  go_enter Tryd.func12, Tryd.ntmps12
  go_wp2_with fail
  go_loopg [] s.size (fun kq wr => ∃ (a : Nat) (v : Value) (L : List ByteArray), kq = s.size - a ∧ a ≤ s.size ∧ L.length * 8 ≤ a ∧ St wr w.heap.size s a v L ∧ Below w.heap.size w wr ∧
    (L.map bytesOf ++ (FrM.scanL (restOf s a)).1, a + (FrM.scanL (restOf s a)).2) = FrM.scanL (bytesOf s))
  case atStart =>
    have e0 : ((((w.alloc (.cells #[.string s] 9)).alloc (.cells #[.slice none 0 0] 27)).alloc (.cells #[.int .i64 0] 3))).heap[w.heap.size]? = some (.cells #[.string s] 9) := by
      rw [Below.heap_alloc _ _ _ (by simp; omega), Below.heap_alloc _ _ _ (by simp), heap_new]
    have e1 : ((((w.alloc (.cells #[.string s] 9)).alloc (.cells #[.slice none 0 0] 27)).alloc (.cells #[.int .i64 0] 3))).heap[w.heap.size + 1]? = some (.cells #[.slice none 0 0] 27) := by
      rw [Below.heap_alloc _ _ _ (by simp)]
      have := heap_new (w.alloc (.cells #[.string s] 9)) (.cells #[.slice none 0 0] 27)
      simpa using this
    have e2 : ((((w.alloc (.cells #[.string s] 9)).alloc (.cells #[.slice none 0 0] 27)).alloc (.cells #[.int .i64 0] 3))).heap[w.heap.size + 2]? = some (.cells #[.int .i64 0] 3) := by
      have := heap_new ((w.alloc (.cells #[.string s] 9)).alloc (.cells #[.slice none 0 0] 27)) (.cells #[.int .i64 0] 3)
      simpa using this
    refine ⟨0, .slice none 0 0, [], by omega, Nat.zero_le _, by simp, ⟨cell_new e0, cell_new e1, free_new e1, cell_new e2, free_new e2, OwnS.nil _ _, by simp⟩, ((((Below.refl _ w).alloc (Nat.le_refl _) _).alloc (by simp) _).alloc (by simp; omega) _), by simp [restOf]⟩
  case round =>
    obtain ⟨a, v, L, rfl, ha, hL8, hst, hbel, heq⟩ := hrel
    have HE := Lib.hid heq
    have HST := Lib.hid hst
    clear heq hst
    have HTR : Hid (Table wr) := HT.out.below HT.out.pos hbel
    go_wp2_with fail
    refine (next_any w.heap.size s a v L wr hs ha hL8 HST HTR).mono ?_
    rintro e w1 ⟨v1, rfl, hst1, hb1⟩
    have HB : Hid (Below w.heap.size w w1) := hbel.trans hb1
    by_cases hz : FrM.size (restOf s a) = 0
    · have HZ : Hid (FrM.scanL (restOf s a) = ([], 0)) := FrM.scanL_none hz
      rw [hz, if_pos rfl, Nat.add_zero] at hst1
      rw [hz]
      clear hz
      obtain ⟨hcs, hcv, hfv, hca, hfa, ho, hbig⟩ := hst1
      have HO := Lib.hid ho
      clear ho hb1
      go_wp2_with fail
      go_quiet (fail)
      go_wp2
      go_ret2
      rw [HZ.out] at HE
      refine ⟨v1, L, ?_, ?_, ?_, below_drewN HB.out _⟩
      · rw [← HE.out]; simp
      · rw [← HE.out]; simp
      · exact OwnS.mono (w := w1) HO.out (by omega)
    · have hz8 := FrM.size_ge hz
      have hzl := FrM.size_le (restOf s a)
      rw [rest_length] at hzl
      have HE2 : Hid (FrM.scanL (restOf s a) = (((restOf s a).drop 8).take (FrM.size (restOf s a) - 8) :: (FrM.scanL (restOf s (a + FrM.size (restOf s a)))).1, FrM.size (restOf s a) + (FrM.scanL (restOf s (a + FrM.size (restOf s a)))).2)) := by
        show _ = _
        have e : (restOf s a).drop (FrM.size (restOf s a)) = restOf s (a + FrM.size (restOf s a)) := by unfold restOf; rw [List.drop_drop]
        rw [FrM.scanL_step hz, e]
      rw [if_neg hz] at hst1
      have ht : (!(FrM.size (restOf s a) == 0)) = true := by simp [hz]
      rw [ht]
      generalize FrM.size (restOf s a) = z at *
      have HST1 := Lib.hid hst1
      clear hst1 hb1 hz ht
      go_wp2_with fail
      go_roundg (s.size - (a + z))
      case measure => omega
      case rel =>
        refine ⟨a + z, v1, _, rfl, by omega, by simp; omega, HST1.out, HB.out, ?_⟩
        rw [← HE.out, HE2.out, List.map_append, List.append_assoc]
        simp only [List.map_cons, List.map_nil, List.singleton_append, bytes_extract, Nat.add_assoc]
        unfold restOf
        rw [List.drop_drop, show a + z - (a + 8) = z - 8 by omega]
end Go.Proofs.YthbmkoiaennejabDoor
