/- Rows and blocks read as slices of records; the law's live. -/
import Derived.Test.YtpmoanjeoaeabaaDoorCZ
import Derived.Test.YtpmoanjeoaeabaaDoorSLP
set_option linter.unusedVariables false
set_option linter.unusedSimpArgs false
set_option linter.unnecessarySimpa false
set_option maxRecDepth 100000
namespace Go.Proofs.YtpmoanjeoaeabaaDoor
open Go.RowKit Go.ChangeShapes Go.WideShapes Go.ChangeAt
theorem flat_get {sz : Nat} : ∀ (L : List (List Value)) (i j : Nat), (∀ x ∈ L, x.length = sz) → i < L.length → j < sz → L.flatten[i * sz + j]? = (L.getD i [])[j]?
  | [], i, j, _, hi, _ => absurd hi (Nat.not_lt_zero _)
  | x :: L, 0, j, h, _, hj => by
    have hx := h x (by simp)
    rw [Nat.zero_mul, Nat.zero_add, List.flatten_cons, List.getElem?_append_left (by omega)]
    rfl
  | x :: L, i + 1, j, h, hi, hj => by
    have hx := h x (by simp)
    have ih := flat_get L i j (fun y hy => h y (by simp [hy])) (by simpa using hi) hj
    have e : (i + 1) * sz + j = x.length + (i * sz + j) := by rw [hx, Nat.succ_mul]; omega
    rw [List.flatten_cons, e, List.getElem?_append_right (by omega), Nat.add_sub_cancel_left, ih]
    rfl
theorem flat_len {sz : Nat} : ∀ (L : List (List Value)), (∀ x ∈ L, x.length = sz) → L.flatten.length = L.length * sz
  | [], _ => by simp
  | x :: L, h => by
    have hx := h x (by simp)
    have ih := flat_len L (fun y hy => h y (by simp [hy]))
    rw [List.flatten_cons, List.length_append, ih, hx, List.length_cons, Nat.succ_mul]
    omega
section
variable {w0 w : World} {F : List HP} {E sz n c : Nat} {A : Option Addr}
theorem elems_row {xs : List Value} (h : Sat w0 w (Row E sz A n c xs :: F)) (L : List (List Value)) (hx : xs = L.flatten) (hl : L.length = n) (hs : ∀ x ∈ L, x.length = sz) (h0 : 0 < sz) : Elems w (.slice A n c) sz L := by
  obtain ⟨hc1, hc2⟩ := h.rowCap
  refine ⟨A, c, by rw [hl], by omega, hc2, hs, ?_⟩
  by_cases he : L = []
  · exact .inl he
  · have hp : 0 < L.length := List.length_pos_iff.2 he
    have hfl := flat_len L hs
    have hm : 0 < L.length * sz := Nat.mul_pos hp h0
    have hne : xs ≠ [] := by rintro rfl; rw [← hx] at hfl; simp at hfl; omega
    obtain ⟨g, rfl, hc, _⟩ := h.rowCell hne
    refine .inr ⟨g, 0, rfl, fun i hi j hj => ?_⟩
    have hlt : i * sz + j < xs.length := by
      rw [hx, hfl]
      have : (i + 1) * sz ≤ L.length * sz := Nat.mul_le_mul_right _ (by omega)
      rw [Nat.succ_mul] at this
      omega
    rw [Nat.zero_add, hc _ hlt, hx, flat_get L i j hs hi hj]
theorem elems_blk {g t c : Nat} {L : List (List Value)} (h : At w g t L.flatten) (hs : ∀ x ∈ L, x.length = sz) (hc : L.length ≤ c) (hm : c ≤ maxLen) : Elems w (.slice (some ⟨g, 0, none⟩) L.length c) sz L := by
  refine ⟨some ⟨g, 0, none⟩, c, rfl, hc, hm, hs, .inr ⟨g, 0, rfl, fun i hi j hj => ?_⟩⟩
  rw [Nat.zero_add, h.cell, flat_get L i j hs hi hj]
theorem elems_nil (w : World) (sz : Nat) : Elems w (.slice none 0 0) sz [] := ⟨none, 0, rfl, Nat.le_refl _, Nat.zero_le _, by simp, .inl rfl⟩
end
/-- the definitions of the law's live -/
def roomB : ByteArray := ⟨#[114, 111, 111, 109]⟩
def liveS (kb : Nat) (part : Int) : St := ⟨⟨#[98]⟩, 1, part, [roomB], [], some ⟨kb, 0, none⟩, 1, none, 0⟩
def liveD (kb sb : Nat) (part : Int) : Df := ⟨⟨#[97]⟩, [liveS kb part], some ⟨sb, 0, none⟩, 1⟩
theorem live_at {w : World} {kb sb : Nat} {part : Int} (hk : At w kb 9 [.string roomB]) (hs : At w sb 35 (liveS kb part).vs) (hp : wf64 part) : DefAt w (liveD kb sb part) := by
  refine ⟨?_, fun s hm => ?_, by show 1 ≤ 9223372036854775807; decide⟩
  · have h : At w sb 35 ([(liveS kb part).vs].flatten) := by simpa using hs
    exact elems_blk (c := 1) (L := [(liveS kb part).vs]) h (by simp [St.vs]) (Nat.le_refl 1) (by unfold maxLen; omega)
  · have e : s = liveS kb part := by simpa [liveD] using hm
    subst e
    refine ⟨?_, elems_nil w 1, by show wf64 1; unfold wf64; decide, hp, fun n hn => absurd hn (List.not_mem_nil), by show 1 ≤ 9223372036854775807; decide, fun k hk => ?_⟩
    · have h : At w kb 9 ([[Value.string roomB]].flatten) := by simpa using hk
      exact elems_blk (c := 1) (L := [[Value.string roomB]]) h (by simp) (Nat.le_refl 1) (by unfold maxLen; omega)
    · have e : k = roomB := by simpa [liveS] using hk
      subst e; decide
theorem live_sized (kb sb : Nat) (part : Int) : Sized (liveD kb sb part) := by
  have hm : ∀ s ∈ (liveD kb sb part).steps, s = liveS kb part := fun s h => by simpa [liveD] using h
  refine ⟨by show 1 ≤ _; decide, fun s h => ?_, fun s h k hk => ?_, fun s h => ?_, fun s h => ?_, by show 1 ≤ _; decide⟩
  · rw [hm s h]; show 1 ≤ _; decide
  · rw [hm s h] at hk
    have e : k = roomB := by simpa [liveS] using hk
    subst e; show 4 ≤ _; decide
  · rw [hm s h]; exact Nat.zero_le _
  · rw [hm s h]; show 1 ≤ _; decide
theorem isN_a : isN ⟨#[97]⟩ = true := by kernel_rfl
theorem isN_b : isN ⟨#[98]⟩ = true := by kernel_rfl
theorem isN_room : isN roomB = true := by kernel_rfl
theorem own_room : ownN roomB = 1 := by kernel_rfl
theorem live_keys (part : Int) : keysB [roomB] part = decide (part = 1) := by
  unfold keysB
  apply decide_eq_decide.2
  constructor
  · rintro ⟨_, h⟩
    have := (h 0 (by decide)).2.1
    rw [show keyAt [roomB] 0 = roomB from rfl, own_room] at this
    omega
  · intro h
    refine ⟨by decide, fun k hk => ?_⟩
    have e : k = 0 := by simpa using hk
    subst e
    refine ⟨isN_room, ?_, fun g => absurd g (by decide)⟩
    rw [show keyAt [roomB] 0 = roomB from rfl, own_room, h]
    rfl
theorem live_alone (kb sb : Nat) (part : Int) (h1 : 0 ≤ part) (h2 : part ≤ 3) : aloneE (liveD kb sb part) 0 = if part = 1 then 0 else 115 := by
  have e1 : nameAt (liveD kb sb part) 0 = ⟨#[98]⟩ := rfl
  have e2 : twiceB (liveD kb sb part) 0 = false := decide_eq_false (by rintro ⟨k, hk, _⟩; exact absurd hk (Nat.not_lt_zero _))
  have e3 : kindAt (liveD kb sb part) 0 = 1 := rfl
  have e4 : partAt (liveD kb sb part) 0 = part := rfl
  have e5 : keysAt (liveD kb sb part) 0 = [roomB] := rfl
  have e6 : needsAt (liveD kb sb part) 0 = [] := rfl
  unfold aloneE
  rw [e1, isN_b, e2, e3, e4, e5, e6, live_keys]
  rw [if_neg (by decide), if_neg (by decide), if_neg (by omega), if_neg (by omega)]
  by_cases h : part = 1
  · rw [if_pos h, if_neg (by rw [decide_eq_true h]; decide), if_neg (by simp [needsB])]
  · rw [if_neg h, if_pos (decide_eq_false h)]
theorem live_good (kb sb : Nat) : checkN (liveD kb sb 1) = (-1, 0) := by
  have hb : ∀ j, j < (liveD kb sb 1).steps.length → badB (liveD kb sb 1) j = false := fun j hj => by
    have e : j = 0 := by have : j < 1 := hj; omega
    subst e
    exact decide_eq_false (by rw [live_alone kb sb 1 (by decide) (by decide)]; decide)
  rw [check_all (d := liveD kb sb 1) isN_a ⟨Nat.le_refl 1, by show 1 ≤ 8; decide⟩ hb]
  have hj0 : ∀ j, j < (liveD kb sb 1).steps.length → j = 0 := fun j hj => by have : j < 1 := hj; omega
  refine tog_ok (fun j hj => ?_) (fun j hj => ?_) (fun j hj => ?_) (fun j hj => ?_)
  · rw [hj0 j hj]; rfl
  · rw [hj0 j hj]
    exact decide_eq_false (by rintro ⟨_, m, hm, _⟩; cases hm)
  · rw [hj0 j hj]; rfl
  · rw [hj0 j hj]
    exact loose_no fun h => absurd h (by show ¬ (1 : Int) = 3; decide)
theorem live_bad (kb sb : Nat) : checkN (liveD kb sb 0) = (0, 115) := by
  have h0 := live_alone kb sb 0 (by decide) (by decide)
  have h := check_alone (d := liveD kb sb 0) (k := 0) isN_a ⟨Nat.le_refl 1, by show 1 ≤ 8; decide⟩ (by show 0 < 1; decide) (decide_eq_true (by rw [h0]; decide)) (fun j hj => absurd hj (Nat.not_lt_zero _))
  rw [h, h0]
  rfl
theorem live_check {w : World} {kb sb : Nat} {part : Int} {r e : Int} (hk : At w kb 9 [.string roomB]) (hs : At w sb 35 (liveS kb part).vs) (hp : wf64 part) (hT : Lib.Utf8Tabs 0 1 w) (h : checkN (liveD kb sb part) = (r, e)) :
    Calls Tryd.prog 12 #[.agg #[.string ⟨#[97]⟩, .slice (some ⟨sb, 0, none⟩) 1 1]] w fun e' w' => e' = .returned (.tuple #[.int .i64 r, .int .i64 e]) ∧ Below w.heap.size w w' := by
  have h1 := check_any (liveD kb sb part) (live_at hk hs hp) (live_sized kb sb part) hT
  rw [h] at h1
  exact h1
/-- what live lays in memory -/
def liveL (a : Nat) (w : World) : List HP := [Blk (a + 1 + 1 + 1 + 1 + 1) 24 [.string ⟨#[97]⟩, .slice (some ⟨a + 1 + 1 + 1 + 1, 0, none⟩) 1 1], Blk (a + 1 + 1 + 1 + 1) 35 (liveS (a + 1 + 1 + 1) 0).vs, Blk (a + 1 + 1 + 1) 9 [.string roomB],
  Blk (a + 1 + 1) 24 [.string ⟨#[97]⟩, .slice (some ⟨a + 1, 0, none⟩) 1 1], Blk (a + 1) 35 (liveS a 1).vs, Blk a 9 [.string roomB], Old w]
theorem live_sat (w : World) (a : Nat) (ha : w.heap.size = a) : Sat w ((((((w.alloc (.cells #[.string ⟨#[114, 111, 111, 109]⟩] 9)).alloc (.cells #[.string ⟨#[98]⟩, .int .i64 1, .int .i64 1, .slice (some ⟨a, 0, none⟩) 1 1, .slice none 0 0] 35)).alloc
    (.cells #[.string ⟨#[97]⟩, .slice (some ⟨a + 1, 0, none⟩) 1 1] 24)).alloc (.cells #[.string ⟨#[114, 111, 111, 109]⟩] 9)).alloc (.cells #[.string ⟨#[98]⟩, .int .i64 1, .int .i64 0, .slice (some ⟨a + 1 + 1 + 1, 0, none⟩) 1 1, .slice none 0 0] 35)).alloc
    (.cells #[.string ⟨#[97]⟩, .slice (some ⟨a + 1 + 1 + 1 + 1, 0, none⟩) 1 1] 24)) (liveL a w) := by
  have key : ∀ (W : World) (n : Nat) (L : List HP) (cs : Array Value) (t : Nat), W.heap.size = n → Sat w W L → (W.alloc (.cells cs t)).heap.size = n + 1 ∧ Sat w (W.alloc (.cells cs t)) (Blk n t cs.toList :: L) := fun W n L cs t hn h => ⟨by simp [hn], by have h2 := h.new cs t; rw [hn] at h2; exact h2⟩
  obtain ⟨s1, h1⟩ := key w a _ #[.string ⟨#[114, 111, 111, 109]⟩] 9 ha (Sat.start w)
  obtain ⟨s2, h2⟩ := key _ _ _ #[.string ⟨#[98]⟩, .int .i64 1, .int .i64 1, .slice (some ⟨a, 0, none⟩) 1 1, .slice none 0 0] 35 s1 h1
  obtain ⟨s3, h3⟩ := key _ _ _ #[.string ⟨#[97]⟩, .slice (some ⟨a + 1, 0, none⟩) 1 1] 24 s2 h2
  obtain ⟨s4, h4⟩ := key _ _ _ #[.string ⟨#[114, 111, 111, 109]⟩] 9 s3 h3
  obtain ⟨s5, h5⟩ := key _ _ _ #[.string ⟨#[98]⟩, .int .i64 1, .int .i64 0, .slice (some ⟨a + 1 + 1 + 1, 0, none⟩) 1 1, .slice none 0 0] 35 s4 h4
  exact (key _ _ _ #[.string ⟨#[97]⟩, .slice (some ⟨a + 1 + 1 + 1 + 1, 0, none⟩) 1 1] 24 s5 h5).2
set_option maxHeartbeats 3200000 in
theorem live_any (w : World) (hT : Lib.Utf8Tabs 0 1 w) : Calls Tryd.prog 15 #[] w (Quietly w (.bool true)) := by
  obtain ⟨a, ha⟩ : ∃ a, w.heap.size = a := ⟨_, rfl⟩
  have HS := Lib.hid (live_sat w a ha)
  have HT := Lib.hid hT
  unfold Quietly
  clear hT
  go_enter Tryd.func15, Tryd.ntmps15
  go_wp2_with fail
  try simp only [ha]
  refine (live_check (kb := a) (part := 1) HS.out.r6.blk HS.out.r5.blk (by unfold wf64; decide) (tabs_keep HT.out (HS.out.old (by simp [liveL]))) (live_good a (a + 1))).mono ?_
  rintro e w1 ⟨rfl, hb⟩
  have h2 := HS.out.below hb
  have u0 : w1.cell? ⟨a + 1 + 1 + 1 + 1 + 1, 0, none⟩ = some (.string ⟨#[97]⟩) := h2.blk.cell 0
  have u1 : w1.cell? ⟨a + 1 + 1 + 1 + 1 + 1, 1, none⟩ = some (.slice (some ⟨a + 1 + 1 + 1 + 1, 0, none⟩) 1 1) := h2.blk.cell 1
  have H2 := Lib.hid h2
  clear hb h2 HS
  go_wp2_with fail
  refine (live_check (kb := a + 1 + 1 + 1) (part := 0) H2.out.r3.blk H2.out.r2.blk (by unfold wf64; decide) (tabs_keep HT.out (H2.out.old (by simp [liveL]))) (live_bad _ _)).mono ?_
  rintro e w2 ⟨rfl, hb⟩
  have H3 := Lib.hid ((H2.out.below hb).old (by simp [liveL]))
  clear hb H2 u0 u1
  go_wp2_with fail
  go_ret
  exact ⟨rfl, by have h9 := H3.out; first | exact h9 | (rw [ha] at h9; exact h9)⟩
end Go.Proofs.YtpmoanjeoaeabaaDoor
