/- The laws' own functions: pick, same, filled; lists of numbers. -/
import Derived.Test.YtnjhnchjlecdoaaWI
set_option linter.unusedVariables false
set_option linter.unusedSimpArgs false
set_option linter.unnecessarySimpa false
set_option maxRecDepth 100000
namespace Go.Proofs.Ytnjhnchjlecdoaa
open Go.RowKit Go.ChangeShapes Go.WideShapes Go.ChangeAt
def wf64 (n : Int) : Prop := -9223372036854775808 ≤ n ∧ n ≤ 9223372036854775807
def pickN (c : Int) (n : Nat) : Nat := (if c < 0 then -(c + 1) else c).toNat % n
theorem pickN_lt (c : Int) (n : Nat) (h : 0 < n) : pickN c n < n := Nat.mod_lt _ h
theorem pick_any (c : Int) (n : Nat) (w : World) (hc : wf64 c) (hn : 0 < n) (hn2 : n ≤ 1048576) : Calls Try.prog 9 #[.int .i64 c, .int .i64 n] w fun e w' => e = .returned (.int .i64 (pickN c n : Nat)) ∧ w' = w := by
  unfold wf64 at hc
  have t0 : ((n : Int) == 0) = false := by rw [beq_eq_false_iff_ne]; omega
  have t1 : ¬ (n : Int) = 0 := by omega
  by_cases h : c < 0
  · obtain ⟨m, hm⟩ : ∃ m : Nat, -(c + 1) = (m : Int) := ⟨(-(c + 1)).toNat, by omega⟩
    have HX : Hid (pickN c n = m % n) := by show _ = _; unfold pickN; rw [if_pos h, hm, Int.toNat_natCast]
    have sw1 : IntKind.i64.wrap (c + 1) = c + 1 := IntWalk.i64_in _ (by omega)
    have sw2 : IntKind.i64.wrap (-(c + 1)) = (m : Int) := by rw [IntWalk.i64_in _ (by omega)]; exact hm
    have t2 : decide (c < 0) = true := decide_eq_true h
    go_enter Try.func9, Try.ntmps9
    go_wp2
    go_ret
    exact ⟨by rw [HX.out]; first | rfl | exact congrArg (fun x => Ending.returned (Value.int .i64 x)) (by omega), rfl⟩
  · obtain ⟨m, rfl⟩ : ∃ m : Nat, c = (m : Int) := ⟨c.toNat, by omega⟩
    have HX : Hid (pickN (m : Int) n = m % n) := by show _ = _; unfold pickN; rw [if_neg h, Int.toNat_natCast]
    have t2 : decide ((m : Int) < 0) = false := decide_eq_false h
    go_enter Try.func9, Try.ntmps9
    go_wp2
    go_ret
    exact ⟨by rw [HX.out]; first | rfl | exact congrArg (fun x => Ending.returned (Value.int .i64 x)) (by omega), rfl⟩
/-- numbers as cells -/
def nums (L : List Int) : List Value := L.map fun x => .int .i64 x
theorem nums_len (L : List Int) : (nums L).length = L.length := by simp [nums]
theorem ids_nums (L : List Tm) : ids L = nums (L.map (·.1)) := by unfold ids nums; rw [List.map_map]; rfl
section
variable {w0 w : World} {F : List HP} {A B : Option Addr} {c e : Nat} {L K : List Int}
theorem num_cells (hS : Sat w0 w (Row 3 1 A L.length c (nums L) :: F)) (h0 : 0 < L.length) : ∃ g, A = some ⟨g, 0, none⟩ ∧ ∀ k (hk : k < L.length), w.cell? ⟨g, k, none⟩ = some (.int .i64 L[k]) := by
  obtain ⟨g, rfl, hc, _⟩ := hS.rowCell (by intro e; have := nums_len L; rw [e] at this; simp at this; omega)
  refine ⟨g, rfl, fun k hk => ?_⟩
  rw [hc _ (by rw [nums_len]; exact hk)]
  simp [nums, hk]
def SmRel (w0 : World) (G : List HP) (L K : List Int) (i : Value) (wr : World) : Prop := ∃ k : Nat, k ≤ L.length ∧ i = .int .i64 k ∧ Sat w0 wr G
/-- two rows of the same numbers -/
theorem same_yes (hS : Sat w0 w (Row 3 1 A L.length c (nums L) :: Row 3 1 B L.length e (nums L) :: F)) (hl : L.length ≤ 1000000) :
    Calls Try.prog 14 #[.slice A L.length c, .slice B L.length e] w fun en w' => en = .returned (.bool true) ∧ Sat w0 w' (Row 3 1 A L.length c (nums L) :: Row 3 1 B L.length e (nums L) :: F) := by
  have HS := Lib.hid hS
  clear hS
  go_enter Try.func14, Try.ntmps14
  go_wp2_with fail
  go_loopw [5] (SmRel w0 (Row 3 1 A L.length c (nums L) :: Row 3 1 B L.length e (nums L) :: F) L L) (fun i _ => L.length - (intOf i).toNat)
  case atStart => exact ⟨0, Nat.zero_le _, rfl, HS.out⟩
  case round =>
    obtain ⟨k, hk, rfl, hT⟩ := hrel
    clear HS
    by_cases hlt : k < L.length
    · obtain ⟨a, rfl, hc⟩ := num_cells hT (by omega)
      obtain ⟨b, rfl, hd⟩ := num_cells hT.r2 (by omega)
      have e1 := hc k hlt
      have e2 := hd k hlt
      obtain ⟨y, hy⟩ : ∃ y, L[k] = y := ⟨_, rfl⟩
      rw [hy] at e1 e2
      have HT := Lib.hid hT
      clear hc hd hy hT
      go_wp2_with fail
      go_quiet (fail)
      go_wp2_with fail
      go_roundw
      case rel => exact ⟨k + 1, by omega, by go_num, HT.out.drewN _⟩
      case measure => simp [intOf]; omega
    · go_wp2_with fail
      go_ret
      exact ⟨rfl, hT⟩
def FlRel (w0 : World) (F : List HP) (A : Option Addr) (c n : Nat) (i : Value) (wr : World) : Prop :=
  ∃ (k : Nat) (K : List Value), K.length = n ∧ k ≤ n ∧ i = .int .i64 k ∧ Sat w0 wr (Row 3 1 A n c K :: F)
theorem filled_last {A' : Option Addr} {c' n : Nat} {K : List Value} (hKL : K.length = n) (hT2 : Sat w0 w (Row 3 1 A' (n + 2) c' (K ++ [.int .i64 (-9), .int .i64 (-9)]) :: F)) :
    ∃ g', w.cell? ⟨g', n + 1, none⟩ = some (.int .i64 (-9)) ∧ w.frozen? ⟨g', n + 1, none⟩ = false ∧ Hid (Sat w0 (w.setCell ⟨g', n + 1, none⟩ (.int .i64 (-8))) F) ∧ A' = some ⟨g', 0, none⟩ := by
  obtain ⟨g', rfl, hc', hfr'⟩ := hT2.rowCell (by simp)
  refine ⟨g', ?_, hfr' _, Lib.hid (hT2.rowSet (n + 1) (.int .i64 (-8))).tail, rfl⟩
  rw [hc' (n + 1) (by simp [hKL]), List.getElem?_append_right (by omega)]
  simp [hKL]
set_option maxHeartbeats 800000 in
theorem filled_any {n : Nat} {xs : List Value} (hS : Sat w0 w (Row 3 1 A n c xs :: F)) (hl : n ≤ 1000000) :
    Calls Try.prog 20 #[.slice A n c] w fun e w' => e = .returned (.tuple #[]) ∧ Sat w0 w' F := by
  obtain ⟨ii, hi, hz, hsz9, hby⟩ := info_parts info3
  have hxl := hS.rowLen
  go_enter Try.func20, Try.ntmps20
  go_wp2_with fail
  go_loopw [2] (FlRel w0 F A c n) (fun i _ => n - (intOf i).toNat)
  case atStart => exact ⟨0, xs, by omega, by omega, rfl, hS⟩
  case round =>
    obtain ⟨k, K, hKL, hk, rfl, hT⟩ := hrel
    clear hS hxl
    by_cases hlt : k < n
    · obtain ⟨g, rfl, hc, hfr⟩ := hT.rowCell (by intro e; rw [e] at hKL; simp at hKL; omega)
      have x := hc k (by omega)
      rw [List.getElem?_eq_getElem (by omega)] at x
      have f := hfr k
      have hT2 := Lib.hid (hT.rowSet k (.int .i64 (-7 - k)))
      clear hc hfr
      go_wp2_with fail
      go_roundw
      case rel => exact ⟨k + 1, K.set k (.int .i64 (-7 - k)), by simp [hKL], by omega, by go_num, hT2.out⟩
      case measure => simp [intOf]; omega
    · have hm1 : n + 2 ≤ maxLen := by unfold maxLen; omega
      have hm2 : (n + 2) * 8 ≤ 140737488355328 := by omega
      have hNB := hT.new #[.int .i64 (-9), .int .i64 (-9)] 3
      go_wp2_with (at_builtin; refine wpList_appS rfl (.tmp 14) (.tmp 15) 33 rfl 3 ii (.int .i64 0) 1 8 Try.underlying33 hi hz hsz9 hby rfl (by decide) (by rfl) hNB.tail (by rfl) (hNB.rdBlk 2 1 (by simp)) (by intro u hu; simp at hu; subst hu; rfl) hm1 hm2 ?_; intro A' c' w' hT2; obtain ⟨g', x, f, HT3, rfl⟩ := filled_last hKL hT2; clear hT2 hNB)
      go_end0
      exact ⟨rfl, HT3.out⟩
end
end Go.Proofs.Ytnjhnchjlecdoaa
