/- The definition that stands at the head of each play. -/
import Derived.Test.YtpmoanjeoaeabaaDoorRJ
set_option linter.unusedVariables false
set_option linter.unusedSimpArgs false
set_option linter.unnecessarySimpa false
set_option maxRecDepth 100000
namespace Go.Proofs.YtpmoanjeoaeabaaDoor
open Go.RowKit Go.ChangeShapes Go.WideShapes Go.ChangeAt
def sA : ByteArray := ⟨#[97]⟩
def oneS1 (a : Nat) : St := ⟨⟨#[97]⟩, 1, 1, [sA], [], some ⟨a + 1, 0, none⟩, 1, none, 0⟩
def oneS2 (a : Nat) : St := ⟨⟨#[98]⟩, 1, 0, [], [0], none, 0, some ⟨a + 1 + 1, 0, none⟩, 1⟩
def oneD (a : Nat) : Df := ⟨⟨#[122, 122]⟩, [oneS1 a, oneS2 a], some ⟨a + 1 + 1 + 1, 0, none⟩, 2⟩
theorem one_mem {a : Nat} {s : St} (h : s ∈ (oneD a).steps) : s = oneS1 a ∨ s = oneS2 a := by simpa [oneD] using h
theorem one_at {w : World} {a : Nat} (hk : At w (a + 1) 9 [.string sA]) (hn : At w (a + 1 + 1) 3 [.int .i64 0]) (hs : At w (a + 1 + 1 + 1) 35 ((oneS1 a).vs ++ (oneS2 a).vs)) : DefAt w (oneD a) := by
  refine ⟨?_, fun s hm => ?_, by show 2 ≤ 9223372036854775807; decide⟩
  · have h : At w (a + 1 + 1 + 1) 35 ([(oneS1 a).vs, (oneS2 a).vs].flatten) := by simpa using hs
    exact elems_blk (c := 2) (L := [(oneS1 a).vs, (oneS2 a).vs]) h (by simp [St.vs]) (Nat.le_refl 2) (by unfold maxLen; omega)
  · rcases one_mem hm with rfl | rfl
    · refine ⟨?_, elems_nil w 1, by show wf64 1; unfold wf64; decide, by show wf64 1; unfold wf64; decide, fun n hn => absurd hn (List.not_mem_nil), by show 1 ≤ 9223372036854775807; decide, fun k hk => ?_⟩
      · have h : At w (a + 1) 9 ([[Value.string sA]].flatten) := by simpa using hk
        exact elems_blk (c := 1) (L := [[Value.string sA]]) h (by simp) (Nat.le_refl 1) (by unfold maxLen; omega)
      · have e : k = sA := by simpa [oneS1] using hk
        subst e; decide
    · refine ⟨elems_nil w 1, ?_, by show wf64 1; unfold wf64; decide, by show wf64 0; unfold wf64; decide, fun n hn => ?_, by show 1 ≤ 9223372036854775807; decide, fun k hk => absurd hk (List.not_mem_nil)⟩
      · have h : At w (a + 1 + 1) 3 ([[Value.int .i64 0]].flatten) := by simpa using hn
        exact elems_blk (c := 1) (L := [[Value.int .i64 0]]) h (by simp) (Nat.le_refl 1) (by unfold maxLen; omega)
      · have e : n = 0 := by simpa [oneS2] using hn
        subst e; unfold wf64; decide
theorem one_fits (a : Nat) : Fits (oneD a) := by
  refine ⟨by show 2 ≤ _; decide, fun s h => ?_, fun s h k hk => ?_, fun s h => ?_, fun s h => ?_, by show 2 * 80 ≤ _; decide⟩
  · rcases one_mem h with rfl | rfl <;> (show 1 ≤ _; decide)
  · rcases one_mem h with rfl | rfl
    · have e : k = sA := by simpa [oneS1] using hk
      subst e; decide
    · exact absurd hk (List.not_mem_nil)
  · rcases one_mem h with rfl | rfl
    · exact Nat.zero_le _
    · show 1 * 8 ≤ _; decide
  · rcases one_mem h with rfl | rfl
    · show 1 * 16 ≤ _; decide
    · exact Nat.zero_le _
set_option maxHeartbeats 1600000 in
theorem one_any {w w0 : World} {F : List HP} (hS : Sat w0 w F) : Calls Tryd.prog 32 #[] w fun e w' => ∃ a : Nat, e = .returned (oneD a).v ∧ Sat w0 w' (Blk (a + 1 + 1 + 1) 35 ((oneS1 a).vs ++ (oneS2 a).vs) :: Blk (a + 1 + 1) 3 [.int .i64 0] :: Blk (a + 1) 9 [.string sA] :: F) := by
  obtain ⟨a, ha⟩ : ∃ a, w.heap.size = a := ⟨_, rfl⟩
  have key : ∀ (W : World) (n : Nat) (L : List HP) (cs : Array Value) (t : Nat), W.heap.size = n → Sat w0 W L → (W.alloc (.cells cs t)).heap.size = n + 1 ∧ Sat w0 (W.alloc (.cells cs t)) (Blk n t cs.toList :: L) := fun W n L cs t hn h => ⟨by simp [hn], by have h2 := h.new cs t; rw [hn] at h2; exact h2⟩
  obtain ⟨s1, h1⟩ := key w a _ #[.string ⟨#[122, 122]⟩, .slice (some ⟨a + 1 + 1 + 1, 0, none⟩) 2 2] 24 ha hS
  obtain ⟨s2, h2⟩ := key _ _ _ #[.string ⟨#[97]⟩] 9 s1 h1
  obtain ⟨s3, h3⟩ := key _ _ _ #[.int .i64 0] 3 s2 h2
  have h4 := (key _ _ _ #[.string ⟨#[97]⟩, .int .i64 1, .int .i64 1, .slice (some ⟨a + 1, 0, none⟩) 1 1, .slice none 0 0, .string ⟨#[98]⟩, .int .i64 1, .int .i64 0, .slice none 0 0, .slice (some ⟨a + 1 + 1, 0, none⟩) 1 1] 35 s3 h3).2
  have H4 := Lib.hid h4
  clear h1 h2 h3 h4 s1 s2 s3 key hS
  go_enter Tryd.func32, Tryd.ntmps32
  go_wp2_with fail
  try simp only [ha]
  refine bodyPost_ret (results_cell_row (by rfl) _ _ a 24 #[.string ⟨#[122, 122]⟩, .slice (some ⟨a + 1 + 1 + 1, 0, none⟩) 2 2] (0, 0) _ (by rfl) H4.out.r4.blk u24 d24 i24) rfl ?_
  exact ⟨a, rfl, H4.out.r4.tail⟩
theorem isN_zz : isN ⟨#[122, 122]⟩ = true := by kernel_rfl
theorem isN_sA : isN sA = true := by kernel_rfl
theorem own_sA : ownN sA = 1 := by kernel_rfl
theorem one_good (a : Nat) : checkN (oneD a) = (-1, 0) := by
  have hlen : (oneD a).steps.length = 2 := rfl
  have e0 : aloneE (oneD a) 0 = 0 := by
    have e1 : nameAt (oneD a) 0 = ⟨#[97]⟩ := rfl
    have e2 : twiceB (oneD a) 0 = false := decide_eq_false (by rintro ⟨k, hk, _⟩; exact absurd hk (Nat.not_lt_zero _))
    have e3 : kindAt (oneD a) 0 = 1 := rfl
    have e4 : partAt (oneD a) 0 = 1 := rfl
    have e5 : keysAt (oneD a) 0 = [sA] := rfl
    have e6 : needsAt (oneD a) 0 = [] := rfl
    have e7 : keysB [sA] 1 = true := decide_eq_true ⟨by decide, fun k hk => by
      have e : k = 0 := by simpa using hk
      subst e
      refine ⟨isN_sA, ?_, fun g => absurd g (by decide)⟩
      rw [show keyAt [sA] 0 = sA from rfl, own_sA]
      rfl⟩
    have e8 : needsB [] 0 (oneD a).steps.length = true := decide_eq_true fun k hk => absurd hk (Nat.not_lt_zero _)
    unfold aloneE
    rw [e1, show isN ⟨#[97]⟩ = true from isN_a, e2, e3, e4, e5, e6, e7, e8, if_neg (by decide), if_neg (by decide), if_neg (by decide), if_neg (by decide), if_neg (by decide), if_neg (by decide)]
  have e1 : aloneE (oneD a) 1 = 0 := by
    have e1 : nameAt (oneD a) 1 = ⟨#[98]⟩ := rfl
    have e2 : twiceB (oneD a) 1 = false := decide_eq_false (by
      rintro ⟨k, hk, e⟩
      obtain rfl : k = 0 := by omega
      exact absurd e (by show ¬ (⟨#[97]⟩ : ByteArray) = ⟨#[98]⟩; decide))
    have e3 : kindAt (oneD a) 1 = 1 := rfl
    have e4 : partAt (oneD a) 1 = 0 := rfl
    have e5 : keysAt (oneD a) 1 = [] := rfl
    have e6 : needsAt (oneD a) 1 = [0] := rfl
    have e7 : keysB [] 0 = true := decide_eq_true ⟨Nat.zero_le _, fun k hk => absurd hk (Nat.not_lt_zero _)⟩
    have e8 : needsB [0] 1 (oneD a).steps.length = true := by rw [hlen]; decide
    unfold aloneE
    rw [e1, show isN ⟨#[98]⟩ = true from isN_b, e2, e3, e4, e5, e6, e7, e8, if_neg (by decide), if_neg (by decide), if_neg (by decide), if_neg (by decide), if_neg (by decide), if_neg (by decide)]
  have hj0 : ∀ j, j < (oneD a).steps.length → j = 0 ∨ j = 1 := fun j hj => by rw [hlen] at hj; omega
  have hb : ∀ j, j < (oneD a).steps.length → badB (oneD a) j = false := fun j hj => by
    rcases hj0 j hj with rfl | rfl
    · exact decide_eq_false (by rw [e0]; decide)
    · exact decide_eq_false (by rw [e1]; decide)
  rw [check_all (d := oneD a) isN_zz ⟨by rw [hlen]; decide, by rw [hlen]; decide⟩ hb]
  refine tog_ok (fun j hj => ?_) (fun j hj => ?_) (fun j hj => ?_) (fun j hj => ?_)
  · rcases hj0 j hj with rfl | rfl <;> rfl
  · rcases hj0 j hj with rfl | rfl
    · exact decide_eq_false (by rintro ⟨_, m, hm, _⟩; cases hm)
    · refine decide_eq_false ?_
      rintro ⟨_, m, hm, hk⟩
      have e : m = 0 := by
        have h : m ∈ ([0] : List Int) := hm
        simpa using h
      subst e
      exact hk rfl
  · rcases hj0 j hj with rfl | rfl <;> rfl
  · rcases hj0 j hj with rfl | rfl
    · exact loose_no fun h => absurd h (by show ¬ (1 : Int) = 3; decide)
    · exact loose_no fun h => absurd h (by show ¬ (1 : Int) = 3; decide)
end Go.Proofs.YtpmoanjeoaeabaaDoor
