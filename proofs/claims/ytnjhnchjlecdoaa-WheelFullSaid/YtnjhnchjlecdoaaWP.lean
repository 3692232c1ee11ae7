/- The laws' own functions: set; wheels in which timers are set. -/
import Derived.Test.YtnjhnchjlecdoaaWN
set_option linter.unusedVariables false
set_option linter.unusedSimpArgs false
set_option linter.unnecessarySimpa false
set_option maxRecDepth 100000
namespace Go.Proofs.Ytnjhnchjlecdoaa
open Go.RowKit Go.ChangeShapes Go.WideShapes Go.ChangeAt
theorem nodup_le : ∀ (R L : List Int), L.Nodup → (∀ x ∈ L, x ∈ R) → L.length ≤ R.length
  | [], L, _, h => by
    cases L with
    | nil => exact Nat.le_refl _
    | cons x l => exact absurd (h x (by simp)) (by simp)
  | r :: R, L, hn, h => by
    have h1 : ∀ x ∈ L.erase r, x ∈ R := fun x hx => by
      have hm := List.mem_of_mem_erase hx
      have hne : x ≠ r := fun e => by subst e; exact (List.Nodup.not_mem_erase hn) hx
      rcases List.mem_cons.1 (h x hm) with e | e
      · exact absurd e hne
      · exact e
    have ih := nodup_le R (L.erase r) (hn.sublist List.erase_sublist) h1
    have : L.length ≤ (L.erase r).length + 1 := by
      rw [List.length_erase]
      split <;> omega
    simp only [List.length_cons]
    omega
/-- the ids that laws use -/
def lowIds : List Int := 900000 :: 900001 :: (List.range 150).map fun (k : Nat) => Int.ofNat k
theorem low_len : lowIds.length = 152 := by unfold lowIds; simp
theorem low_mem (k : Nat) (h : k < 150) : (k : Int) ∈ lowIds := by
  unfold lowIds
  refine List.mem_cons_of_mem _ (List.mem_cons_of_mem _ ?_)
  exact List.mem_map.2 ⟨k, List.mem_range.2 h, rfl⟩
structure Small (L : List Tm) : Prop where
  fine : Fine L
  low : ∀ x ∈ L, x.1 ∈ lowIds
section
variable {L : List Tm}
theorem Small.len (h : Small L) : L.length ≤ 152 := by
  have := nodup_le lowIds (L.map (·.1)) h.fine.nodup (fun x hx => by
    obtain ⟨y, hy, rfl⟩ := List.mem_map.1 hx
    exact h.low y hy)
  rw [low_len, List.length_map] at this
  exact this
theorem beg_small : Small begL := ⟨beg_fine, by
  intro x hx
  unfold begL at hx
  simp only [List.mem_cons, List.not_mem_nil, or_false] at hx
  rcases hx with rfl | rfl
  · exact List.mem_cons_self
  · exact List.mem_cons_of_mem _ List.mem_cons_self⟩
theorem Small.code (h : Small L) (k t : Nat) (ht : t < 1000) : setC L (k : Int) (t : Int) = 0 := by
  have := h.len
  unfold setC
  rw [if_pos ⟨by omega, by omega, by omega⟩, if_neg]
  rintro ⟨_, e⟩
  omega
theorem Small.putL_eq (h : Small L) (k t : Nat) (ht : t < 1000) : setL L (k : Int) (t : Int) = putL (stopL L k) ((k : Int), (t : Int)) := by
  have := h.len
  unfold setL
  rw [if_pos ⟨by omega, by omega, by omega⟩, if_neg]
  rintro ⟨_, e⟩
  omega
theorem Small.set (h : Small L) (k t : Nat) (hk : k < 150) (ht : t < 1000) : Small (setL L (k : Int) (t : Int)) := by
  refine ⟨h.fine.set _ _, fun x hx => ?_⟩
  rw [h.putL_eq k t ht] at hx
  rcases List.mem_cons.1 ((putL_perm _ _).mem_iff.1 hx) with rfl | hx
  · exact low_mem k hk
  · exact h.low x ((List.eraseIdx_sublist _ _).subset hx)
end
def idxOf (n : Nat) (back : Bool) (i : Nat) : Nat := if back = true then n - 1 - i else i
def setsL (l : List TOp) (back : Bool) : Nat → List Tm
  | 0 => begL
  | i + 1 => if h : idxOf l.length back i < l.length then setL (setsL l back i) ((idxOf l.length back i % 150 : Nat) : Int) ((pickN l[idxOf l.length back i].at_ 1000 : Nat) : Int) else setsL l back i
theorem sets_next (l : List TOp) (back : Bool) (i : Nat) (h : idxOf l.length back i < l.length) : setsL l back (i + 1) = setL (setsL l back i) ((idxOf l.length back i % 150 : Nat) : Int) ((pickN l[idxOf l.length back i].at_ 1000 : Nat) : Int) := by
  rw [setsL, dif_pos h]
theorem sets_small (l : List TOp) (back : Bool) : ∀ i, Small (setsL l back i)
  | 0 => beg_small
  | i + 1 => by
    unfold setsL
    split
    · exact (sets_small l back i).set _ _ (Nat.mod_lt _ (by decide)) (pickN_lt _ _ (by decide))
    · exact sets_small l back i
def StRel (w0 : World) (F : List HP) (g : Nat) (l : List TOp) (back : Bool) (i : Value) (wr : World) : Prop := ∃ k : Nat, k ≤ l.length ∧ i = .int .i64 k ∧ Sat w0 wr (WheelC g 48 50 (setsL l back k) :: F)
section
variable {w0 w : World} {F : List HP}
set_option maxHeartbeats 1600000 in
theorem set_any (A : Option Addr) (n c : Nat) (l : List TOp) (back : Bool) (hS : Sat w0 w F) (hO : Old w0 ∈ F) (hI : OpsAt w0 A n c l) :
    Calls Try.prog 12 #[.slice A n c, .bool back] w fun e w' => ∃ g, e = .returned (.pointer (some ⟨g, 0, none⟩)) ∧ Sat w0 w' (WheelC g 48 50 (setsL l back l.length) :: F) := by
  obtain ⟨hn, hml, _⟩ := hI.1.at_
  rw [List.length_map] at hn hml
  subst hn
  unfold maxLen at hml
  have HE := Lib.hid hI.1
  have HW := Lib.hid hI.2
  have HB := Lib.hid (begun_any hS)
  clear hI hS
  cases back
  all_goals
    go_enter Try.func12, Try.ntmps12
    go_wp2_with fail
    refine HB.out.mono ?_
    rintro e w1 ⟨g, rfl, h1⟩
    have H1 := Lib.hid h1
    clear h1 HB
    go_wp2_with fail
  · go_loopw [6] (StRel w0 F g l false) (fun i _ => l.length - (intOf i).toNat)
    case atStart => exact ⟨0, Nat.zero_le _, rfl, H1.out⟩
    case round =>
      obtain ⟨k, hk, rfl, hT⟩ := hrel
      clear H1
      by_cases hlt0 : k < l.length
      · have hlt := hlt0
        have hix : idxOf l.length false k = k := by unfold idxOf; rw [if_neg (by decide)]
        obtain ⟨b, of, rfl⟩ := op_addr HE.out (by omega)
        obtain ⟨_, _, e2⟩ := op_cells HE.out (hT.old (by simp [hO])) k hlt
        have hnx := sets_next l false k (by rw [hix]; exact hlt)
        have hsm := sets_small l false k
        obtain ⟨_, _, hwf⟩ := HW.out _ (List.getElem_mem hlt)
        simp only [hix] at hnx
        have hpl := pickN_lt l[k].at_ 1000 (by decide)
        have HP := Lib.hid (pick_any l[k].at_ 1000 wr hwf (by decide) (by decide))
        obtain ⟨p, hp⟩ : ∃ p, pickN l[k].at_ 1000 = p := ⟨_, rfl⟩
        rw [hp] at hnx HP hpl
        have hcd := hsm.code (k % 150) p hpl
        have HS := Lib.hid (wset_any ((k % 150 : Nat) : Int) (p : Int) hT hsm.fine.len)
        rw [hcd, ← hnx] at HS
        obtain ⟨y, hy⟩ : ∃ y, l[k].at_ = y := ⟨_, rfl⟩
        rw [hy] at e2 HP
        have hcast : ((k : Nat) : Int).tmod 150 = ((k % 150 : Nat) : Int) := by rw [Int.tmod_eq_emod_of_nonneg (by omega)]; rfl
        obtain ⟨q, hq⟩ : ∃ q, k % 150 = q := ⟨_, rfl⟩
        rw [hq] at HS hcast
        clear hy hp hnx hsm hcd hwf hT hq hix
        go_wp2_with fail
        refine HP.out.mono ?_
        rintro e w2 ⟨rfl, rfl⟩
        go_wp2_with fail
        refine HS.out.mono ?_
        rintro e w3 ⟨rfl, h3⟩
        clear HP HS e2
        go_wp2_with fail
        go_roundw
        case rel => exact ⟨k + 1, by omega, by go_num, h3⟩
        case measure => simp [intOf]; omega
      · obtain rfl : k = l.length := by omega
        go_wp2_with fail
        go_ret
        exact ⟨g, rfl, hT⟩
  · go_loopw [6] (StRel w0 F g l true) (fun i _ => l.length - (intOf i).toNat)
    case atStart => exact ⟨0, Nat.zero_le _, rfl, H1.out⟩
    case round =>
      obtain ⟨k, hk, rfl, hT⟩ := hrel
      clear H1
      by_cases hlt0 : k < l.length
      · obtain ⟨j, hj⟩ : ∃ j, l.length - 1 - k = j := ⟨_, rfl⟩
        have hix : idxOf l.length true k = j := by unfold idxOf; rw [if_pos rfl, hj]
        have hlt : j < l.length := by omega
        have hcj : (l.length : Int) - 1 - (k : Int) = (j : Int) := by omega
        have hcw : IntKind.i64.wrap ((l.length : Int) - 1) = (l.length : Int) - 1 := IntWalk.i64_in _ (by omega)
        clear hj
        obtain ⟨b, of, rfl⟩ := op_addr HE.out (by omega)
        obtain ⟨_, _, e2⟩ := op_cells HE.out (hT.old (by simp [hO])) j hlt
        have hnx := sets_next l true k (by rw [hix]; exact hlt)
        have hsm := sets_small l true k
        obtain ⟨_, _, hwf⟩ := HW.out _ (List.getElem_mem hlt)
        simp only [hix] at hnx
        have hpl := pickN_lt l[j].at_ 1000 (by decide)
        have HP := Lib.hid (pick_any l[j].at_ 1000 wr hwf (by decide) (by decide))
        obtain ⟨p, hp⟩ : ∃ p, pickN l[j].at_ 1000 = p := ⟨_, rfl⟩
        rw [hp] at hnx HP hpl
        have hcd := hsm.code (j % 150) p hpl
        have HS := Lib.hid (wset_any ((j % 150 : Nat) : Int) (p : Int) hT hsm.fine.len)
        rw [hcd, ← hnx] at HS
        obtain ⟨y, hy⟩ : ∃ y, l[j].at_ = y := ⟨_, rfl⟩
        rw [hy] at e2 HP
        have hcast : ((j : Nat) : Int).tmod 150 = ((j % 150 : Nat) : Int) := by rw [Int.tmod_eq_emod_of_nonneg (by omega)]; rfl
        obtain ⟨q, hq⟩ : ∃ q, j % 150 = q := ⟨_, rfl⟩
        rw [hq] at HS hcast
        clear hy hp hnx hsm hcd hwf hT hq hix
        go_wp2_with fail
        refine HP.out.mono ?_
        rintro e w2 ⟨rfl, rfl⟩
        go_wp2_with fail
        refine HS.out.mono ?_
        rintro e w3 ⟨rfl, h3⟩
        clear HP HS e2
        go_wp2_with fail
        go_roundw
        case rel => exact ⟨k + 1, by omega, by go_num, h3⟩
        case measure => simp [intOf]; omega
      · obtain rfl : k = l.length := by omega
        go_wp2_with fail
        go_ret
        exact ⟨g, rfl, hT⟩
end
end Go.Proofs.Ytnjhnchjlecdoaa
