/- The walk of the law PoolOrder. -/
import Derived.Test.YtmkbehdfchjeoaaPH
namespace Go.Proofs.Ytmkbehdfchjeoaa
open Go.RowKit Go.ChangeShapes Go.WideShapes Go.ChangeAt
def one (s : ByteArray) : List Value := [.string s]
theorem read9 {H : Type} {enc : TypeId × Value → H} {W : World} {base fuel : Nat} {spare : Nat → Bool} {held : Bool} {cs : List Value} {x : DataW H × List MemPlace}
    (h : DataW.trod enc Try.prog W base spare held fuel 9 cs = some x) : ∃ o : ByteArray, cs = one o := by
  obtain ⟨k2, e2, _⟩ := DataW.trod_string Try.underlying9 h
  exact ⟨k2, e2⟩
theorem open22 {H : Type} {enc : TypeId × Value → H} {W : World} {base : Nat} {spare : Nat → Bool} {held : Bool} {A : Option Addr} {n c : Nat} {d : DataW H} {ps : List MemPlace} (h : DataW.Trod enc Try.prog W base spare held 22 (.slice A n c) d ps) :
    ∃ M : List ByteArray, Elems W (.slice A n c) 1 (M.map one) ∧ (n = 0 ∨ ∃ ys rs, d = .slice ys rs ∧ ys.length = n) := by
  obtain ⟨L, ys, rs, hE, hy, hd, hL⟩ := elems_of Try.underlying22 (show Try.prog.cellsOf 9 = 1 by kernel_rfl) (by decide) h
  obtain ⟨M, rfl⟩ := map_of L (vs := one) (fun i hi => by
    obtain ⟨f, p, hr⟩ := hL i hi
    exact read9 hr)
  have hn := hE.at_.1
  refine ⟨M, hE, ?_⟩
  rcases hd with ⟨e, _⟩ | e
  · left; rw [hn, e]; rfl
  · right; exact ⟨ys, rs, e, by rw [hy, hn]⟩
theorem old_cell {w w' : World} {p : Addr} {v : Value} (hb : Below w.heap.size w w') (h : w.cell? p = some v) : w'.cell? p = some v := (hb.cell (World.block_lt_of_cell? w _ h)).trans h
def OrdRel (w : World) (p : Nat) (room : Int) (N : Nat) (v i : Value) (wr : World) : Prop :=
  ∃ (k : Nat) (I : List ByteArray) (A : Option Addr) (c : Nat), k ≤ N ∧ i = .int .i64 k ∧ v = .slice A I.length c ∧ I.length ≤ room ∧ Sat w wr [Row 9 1 A I.length c (strs I), PoolC p 70 room I, Old w]
def OrdRel2 (w : World) (p : Nat) (room : Int) (I : List ByteArray) (A : Option Addr) (c : Nat) (i : Value) (wr : World) : Prop :=
  ∃ (k : Nat), k ≤ I.length ∧ i = .int .i64 k ∧ Sat w wr [PoolC p 70 room (I.drop k), Row 9 1 A I.length c (strs I), Old w]
set_option maxRecDepth 100000 in
set_option maxHeartbeats 3200000 in
theorem poolOrder_walk (a0 : Int) (A : Option Addr) (n c : Nat) (M : List ByteArray) (w : World) (w0 : (Lit.int .i64 a0).wf = true) (w1 : Elems w (.slice A n c) 1 (M.map one)) (y1 : n * 16 ≤ 140737488351232) :
    Calls Try.prog 3 #[.int .i64 a0, .slice A n c] w fun e w' => e = .returned (.bool true) ∧ Below w.heap.size w w' := by
  have HE := Lib.hid w1
  obtain ⟨hn, _, _⟩ := w1.at_
  rw [List.length_map] at hn
  subst hn
  obtain ⟨hi1, hi2⟩ := i64_of w0
  obtain ⟨ii, hi, hz, hsz, hby⟩ := info_parts info9
  clear w0 w1
  go_enter Try.func3, Try.ntmps3
  go_wp2_with fail
  refine (pick_any a0 200 _ hi1 hi2 (by decide) (by decide)).mono ?_
  rintro e w' ⟨pk, hp1, hp2, rfl, rfl⟩
  clear hi1 hi2
  go_wp2_with fail
  obtain ⟨room, hroom⟩ : ∃ room, room = 1 + pk := ⟨_, rfl⟩
  rw [← hroom]
  have hr1 : 1 ≤ room := by omega
  have hr2 : room ≤ 200 := by omega
  clear hroom hp1 hp2
  refine (pnew_ok room w' _ _ (Sat.start w') hr1 hr2).mono ?_
  rintro e w1 ⟨rfl, hS1⟩
  go_wp2_with fail
  refine (plive_any _).mono ?_
  rintro e w2 ⟨rfl, hb⟩
  have hS2 := (hS1.below hb).nilRow 9 1
  clear hS1 hb
  go_wp2_with fail
  go_loopw [7, 8] (OrdRel w' w'.heap.size room M.length) (fun _ i _ => M.length - (intOf i).toNat)
  case atStart => exact ⟨0, [], none, 0, Nat.zero_le _, rfl, rfl, by simp; omega, hS2⟩
  case round =>
    obtain ⟨k, I, B, cB, hk, rfl, rfl, hL, hT⟩ := hrel
    clear hS2
    by_cases hlt : k < M.length
    · obtain ⟨b, of, rfl, hc⟩ := HE.out.at_.2.2 (by rw [List.length_map]; omega)
      have hc' := hc k (by rw [List.length_map]; exact hlt) 0 (by decide)
      have hx : (M.map one).getD k [] = one (M[k]) := by simp [List.getD, hlt]
      rw [hx] at hc'
      obtain ⟨s, hM⟩ : ∃ x, M[k] = x := ⟨_, rfl⟩
      rw [hM] at hc'
      have ew : Hid (w'.cell? ⟨b, of + k, none⟩ = some (.string s)) := by show _ = _; simpa [one] using hc'
      have e0 := old_cell (hT.old (by simp)) ew.out
      clear hc hc' hx hM
      by_cases h1 : 2000 < s.size
      · have t1 : decide (s.size ≤ 2000) = false := decide_eq_false (by omega)
        go_wp2_with fail
        refine (send_long _ s _ h1).mono ?_
        rintro e v1 ⟨rfl, rfl⟩
        go_wp2_with fail
        go_roundw
        case rel => exact ⟨k + 1, I, B, cB, by omega, by go_num, rfl, hL, hT⟩
        case measure => simp [intOf]; omega
      · have t1 : decide (s.size ≤ 2000) = true := decide_eq_true (by omega)
        by_cases h2 : room ≤ I.length
        · have t2 : decide ((I.length : Int) < room) = false := decide_eq_false (by omega)
          go_wp2_with fail
          refine (send_full _ room I s w' _ _ hT.r2 h1 h2).mono ?_
          rintro e v1 ⟨rfl, m, rfl⟩
          go_wp2_with fail
          go_roundw
          case rel => exact ⟨k + 1, I, B, cB, by omega, by go_num, rfl, hL, hT.drewN m⟩
          case measure => simp [intOf]; omega
        · have t2 : decide ((I.length : Int) < room) = true := decide_eq_true (by omega)
          have h4 : I.length + 1 ≤ maxLen := by unfold maxLen; omega
          have h5 : (I.length + 1) * 16 ≤ 140737488355328 := by omega
          go_wp2_with fail
          refine (send_ok _ room I s w' _ _ hT.r2 h1 (by omega) hr2).mono ?_
          rintro e v1 ⟨rfl, hT2⟩
          have e1 : v1.cell? ⟨b, of + k, none⟩ = some (.string s) := old_cell (hT2.old (by simp)) ew.out
          go_wp2_with (at_builtin; refine wpList_app1 rfl (.tmp 60) (.tmp 65) 22 rfl 9 ii (.string ⟨#[]⟩) 1 16 Try.underlying22 hi hz hsz hby rfl (by decide) rfl (hT2.r2.new #[.string s] 9) (by rfl) rfl (strs_one [s]) h4 h5 ?_; intro A' c' w3 hT3; clear e0 e1)
          go_roundw
          case rel => exact ⟨k + 1, I ++ [s], A', c', by omega, by go_num, by simp, by simp; omega, by simpa [strs] using hT3⟩
          case measure => simp [intOf]; omega
    · go_wp2_with fail
      go_loopw [10] (OrdRel2 w' w'.heap.size room I B cB) (fun i _ => I.length - (intOf i).toNat)
      case atStart => exact ⟨0, Nat.zero_le _, rfl, hT.r2⟩
      case round =>
        obtain ⟨q, hq, rfl, hU⟩ := hrel
        by_cases hqlt : q < I.length
        · have hdl : 0 < (I.drop q).length := by simp; omega
          obtain ⟨b, rfl, hc, _⟩ := hU.r2.rowCell (by intro e; rw [strs, List.map_eq_nil_iff] at e; subst e; simp at hqlt)
          have HD : Hid ((I.drop q)[0] = I[q]) := by show _ = _; simp
          have HD2 : Hid ((I.drop q).eraseIdx 0 = I.drop (q + 1)) := by show _ = _; simp
          clear hc
          go_wp2_with fail
          refine (take_ok _ room (I.drop q) 0 w' _ _ hU hdl (by simp; omega)).mono ?_
          rintro e v1 ⟨rfl, hU2⟩
          rw [HD.out]
          rw [HD2.out] at hU2
          obtain ⟨b', e, hc, _⟩ := hU2.r2.rowCell (by intro e; rw [strs, List.map_eq_nil_iff] at e; subst e; simp at hqlt)
          cases e
          have d := hc q (by rw [strs_len]; exact hqlt)
          rw [strs, List.getElem?_map, List.getElem?_eq_getElem hqlt, Option.map_some] at d
          clear hc
          go_wp2_with fail
          go_roundw
          case rel => exact ⟨q + 1, by omega, by go_num, hU2⟩
          case measure => simp [intOf]; omega
        · have HD : Hid (I.drop q = []) := by show _ = _; simp; omega
          rw [HD.out] at hU
          go_wp2_with fail
          refine (take_none _ room [] 0 w' _ _ hU (by simp)).mono ?_
          rintro e v1 ⟨rfl, rfl⟩
          go_wp2_with fail
          refine (plen_any _ room [] w' _ _ hU).mono ?_
          rintro e v2 ⟨rfl, rfl⟩
          go_wp2
          go_ret
          exact ⟨rfl, hU.old (by simp)⟩
end Go.Proofs.Ytmkbehdfchjeoaa
