import Derived.Test.YtpmoanjeoaeabaaDoorA7
import Derived.Test.YtpmoanjeoaeabaaDoorA1
import Derived.Test.YtpmoanjeoaeabaaDoorA5
import Derived.Test.YtpmoanjeoaeabaaDoorA4
import Derived.SizedLaws
import Derived.Laws.ResultCell
section
/- Rows and blocks read as slices of records; the law's live. -/
set_option linter.unusedVariables false
set_option linter.unusedSimpArgs false
set_option linter.unnecessarySimpa false
set_option maxRecDepth 100000
namespace Go.Proofs.YtpmoanjeoaeabaaDoor
open Go.RowKit Go.ChangeShapes Go.WideShapes Go.ChangeAt
theorem flat_get {sz : Nat} : ∀ (L : List (List Value)) (i j : Nat), (∀ x ∈ L, x.length = sz) → i < L.length → j < sz → L.flatten[i * sz + j]? = (L.getD i [])[j]?
  | [], i, j, _, hi, _ => absurd hi (Nat.not_lt_zero _)
  | x :: L, 0, j, h, _, hj => by
    have hx := h x (by simp)
    rw [Nat.zero_mul, Nat.zero_add, List.flatten_cons, List.getElem?_append_left (by omega)]
    rfl
  | x :: L, i + 1, j, h, hi, hj => by
    have hx := h x (by simp)
    have ih := flat_get L i j (fun y hy => h y (by simp [hy])) (by simpa using hi) hj
    have e : (i + 1) * sz + j = x.length + (i * sz + j) := by rw [hx, Nat.succ_mul]; omega
    rw [List.flatten_cons, e, List.getElem?_append_right (by omega), Nat.add_sub_cancel_left, ih]
    rfl
theorem flat_len {sz : Nat} : ∀ (L : List (List Value)), (∀ x ∈ L, x.length = sz) → L.flatten.length = L.length * sz
  | [], _ => by simp
  | x :: L, h => by
    have hx := h x (by simp)
    have ih := flat_len L (fun y hy => h y (by simp [hy]))
    rw [List.flatten_cons, List.length_append, ih, hx, List.length_cons, Nat.succ_mul]
    omega
section
variable {w0 w : World} {F : List HP} {E sz n c : Nat} {A : Option Addr}
theorem elems_row {xs : List Value} (h : Sat w0 w (Row E sz A n c xs :: F)) (L : List (List Value)) (hx : xs = L.flatten) (hl : L.length = n) (hs : ∀ x ∈ L, x.length = sz) (h0 : 0 < sz) : Elems w (.slice A n c) sz L := by
  obtain ⟨hc1, hc2⟩ := h.rowCap
  refine ⟨A, c, by rw [hl], by omega, hc2, hs, ?_⟩
  by_cases he : L = []
  · exact .inl he
  · have hp : 0 < L.length := List.length_pos_iff.2 he
    have hfl := flat_len L hs
    have hm : 0 < L.length * sz := Nat.mul_pos hp h0
    have hne : xs ≠ [] := by rintro rfl; rw [← hx] at hfl; simp at hfl; omega
    obtain ⟨g, rfl, hc, _⟩ := h.rowCell hne
    refine .inr ⟨g, 0, rfl, fun i hi j hj => ?_⟩
    have hlt : i * sz + j < xs.length := by
      rw [hx, hfl]
      have : (i + 1) * sz ≤ L.length * sz := Nat.mul_le_mul_right _ (by omega)
      rw [Nat.succ_mul] at this
      omega
    rw [Nat.zero_add, hc _ hlt, hx, flat_get L i j hs hi hj]
theorem elems_blk {g t c : Nat} {L : List (List Value)} (h : At w g t L.flatten) (hs : ∀ x ∈ L, x.length = sz) (hc : L.length ≤ c) (hm : c ≤ maxLen) : Elems w (.slice (some ⟨g, 0, none⟩) L.length c) sz L := by
  refine ⟨some ⟨g, 0, none⟩, c, rfl, hc, hm, hs, .inr ⟨g, 0, rfl, fun i hi j hj => ?_⟩⟩
  rw [Nat.zero_add, h.cell, flat_get L i j hs hi hj]
theorem elems_nil (w : World) (sz : Nat) : Elems w (.slice none 0 0) sz [] := ⟨none, 0, rfl, Nat.le_refl _, Nat.zero_le _, by simp, .inl rfl⟩
end
/-- the definitions of the law's live -/
def roomB : ByteArray := ⟨#[114, 111, 111, 109]⟩
def liveS (kb : Nat) (part : Int) : St := ⟨⟨#[98]⟩, 1, part, [roomB], [], some ⟨kb, 0, none⟩, 1, none, 0⟩
def liveD (kb sb : Nat) (part : Int) : Df := ⟨⟨#[97]⟩, [liveS kb part], some ⟨sb, 0, none⟩, 1⟩
theorem live_at {w : World} {kb sb : Nat} {part : Int} (hk : At w kb 9 [.string roomB]) (hs : At w sb 35 (liveS kb part).vs) (hp : wf64 part) : DefAt w (liveD kb sb part) := by
  refine ⟨?_, fun s hm => ?_, by show 1 ≤ 9223372036854775807; decide⟩
  · have h : At w sb 35 ([(liveS kb part).vs].flatten) := by simpa using hs
    exact elems_blk (c := 1) (L := [(liveS kb part).vs]) h (by simp [St.vs]) (Nat.le_refl 1) (by unfold maxLen; omega)
  · have e : s = liveS kb part := by simpa [liveD] using hm
    subst e
    refine ⟨?_, elems_nil w 1, by show wf64 1; unfold wf64; decide, hp, fun n hn => absurd hn (List.not_mem_nil), by show 1 ≤ 9223372036854775807; decide, fun k hk => ?_⟩
    · have h : At w kb 9 ([[Value.string roomB]].flatten) := by simpa using hk
      exact elems_blk (c := 1) (L := [[Value.string roomB]]) h (by simp) (Nat.le_refl 1) (by unfold maxLen; omega)
    · have e : k = roomB := by simpa [liveS] using hk
      subst e; decide
theorem live_sized (kb sb : Nat) (part : Int) : Sized (liveD kb sb part) := by
  have hm : ∀ s ∈ (liveD kb sb part).steps, s = liveS kb part := fun s h => by simpa [liveD] using h
  refine ⟨by show 1 ≤ _; decide, fun s h => ?_, fun s h k hk => ?_, fun s h => ?_, fun s h => ?_, by show 1 ≤ _; decide⟩
  · rw [hm s h]; show 1 ≤ _; decide
  · rw [hm s h] at hk
    have e : k = roomB := by simpa [liveS] using hk
    subst e; show 4 ≤ _; decide
  · rw [hm s h]; exact Nat.zero_le _
  · rw [hm s h]; show 1 ≤ _; decide
theorem isN_a : isN ⟨#[97]⟩ = true := by kernel_rfl
theorem isN_b : isN ⟨#[98]⟩ = true := by kernel_rfl
theorem isN_room : isN roomB = true := by kernel_rfl
theorem own_room : ownN roomB = 1 := by kernel_rfl
theorem live_keys (part : Int) : keysB [roomB] part = decide (part = 1) := by
  unfold keysB
  apply decide_eq_decide.2
  constructor
  · rintro ⟨_, h⟩
    have := (h 0 (by decide)).2.1
    rw [show keyAt [roomB] 0 = roomB from rfl, own_room] at this
    omega
  · intro h
    refine ⟨by decide, fun k hk => ?_⟩
    have e : k = 0 := by simpa using hk
    subst e
    refine ⟨isN_room, ?_, fun g => absurd g (by decide)⟩
    rw [show keyAt [roomB] 0 = roomB from rfl, own_room, h]
    rfl
theorem live_alone (kb sb : Nat) (part : Int) (h1 : 0 ≤ part) (h2 : part ≤ 3) : aloneE (liveD kb sb part) 0 = if part = 1 then 0 else 115 := by
  have e1 : nameAt (liveD kb sb part) 0 = ⟨#[98]⟩ := rfl
  have e2 : twiceB (liveD kb sb part) 0 = false := decide_eq_false (by rintro ⟨k, hk, _⟩; exact absurd hk (Nat.not_lt_zero _))
  have e3 : kindAt (liveD kb sb part) 0 = 1 := rfl
  have e4 : partAt (liveD kb sb part) 0 = part := rfl
  have e5 : keysAt (liveD kb sb part) 0 = [roomB] := rfl
  have e6 : needsAt (liveD kb sb part) 0 = [] := rfl
  unfold aloneE
  rw [e1, isN_b, e2, e3, e4, e5, e6, live_keys]
  rw [if_neg (by decide), if_neg (by decide), if_neg (by omega), if_neg (by omega)]
  by_cases h : part = 1
  · rw [if_pos h, if_neg (by rw [decide_eq_true h]; decide), if_neg (by simp [needsB])]
  · rw [if_neg h, if_pos (decide_eq_false h)]
theorem live_good (kb sb : Nat) : checkN (liveD kb sb 1) = (-1, 0) := by
  have hb : ∀ j, j < (liveD kb sb 1).steps.length → badB (liveD kb sb 1) j = false := fun j hj => by
    have e : j = 0 := by have : j < 1 := hj; omega
    subst e
    exact decide_eq_false (by rw [live_alone kb sb 1 (by decide) (by decide)]; decide)
  rw [check_all (d := liveD kb sb 1) isN_a ⟨Nat.le_refl 1, by show 1 ≤ 8; decide⟩ hb]
  have hj0 : ∀ j, j < (liveD kb sb 1).steps.length → j = 0 := fun j hj => by have : j < 1 := hj; omega
  refine tog_ok (fun j hj => ?_) (fun j hj => ?_) (fun j hj => ?_) (fun j hj => ?_)
  · rw [hj0 j hj]; rfl
  · rw [hj0 j hj]
    exact decide_eq_false (by rintro ⟨_, m, hm, _⟩; cases hm)
  · rw [hj0 j hj]; rfl
  · rw [hj0 j hj]
    exact loose_no fun h => absurd h (by show ¬ (1 : Int) = 3; decide)
theorem live_bad (kb sb : Nat) : checkN (liveD kb sb 0) = (0, 115) := by
  have h0 := live_alone kb sb 0 (by decide) (by decide)
  have h := check_alone (d := liveD kb sb 0) (k := 0) isN_a ⟨Nat.le_refl 1, by show 1 ≤ 8; decide⟩ (by show 0 < 1; decide) (decide_eq_true (by rw [h0]; decide)) (fun j hj => absurd hj (Nat.not_lt_zero _))
  rw [h, h0]
  rfl
theorem live_check {w : World} {kb sb : Nat} {part : Int} {r e : Int} (hk : At w kb 9 [.string roomB]) (hs : At w sb 35 (liveS kb part).vs) (hp : wf64 part) (hT : Lib.Utf8Tabs 0 1 w) (h : checkN (liveD kb sb part) = (r, e)) :
    Calls Tryd.prog 12 #[.agg #[.string ⟨#[97]⟩, .slice (some ⟨sb, 0, none⟩) 1 1]] w fun e' w' => e' = .returned (.tuple #[.int .i64 r, .int .i64 e]) ∧ Below w.heap.size w w' := by
  have h1 := check_any (liveD kb sb part) (live_at hk hs hp) (live_sized kb sb part) hT
  rw [h] at h1
  exact h1
/-- what live lays in memory -/
def liveL (a : Nat) (w : World) : List HP := [Blk (a + 1 + 1 + 1 + 1 + 1) 24 [.string ⟨#[97]⟩, .slice (some ⟨a + 1 + 1 + 1 + 1, 0, none⟩) 1 1], Blk (a + 1 + 1 + 1 + 1) 35 (liveS (a + 1 + 1 + 1) 0).vs, Blk (a + 1 + 1 + 1) 9 [.string roomB],
  Blk (a + 1 + 1) 24 [.string ⟨#[97]⟩, .slice (some ⟨a + 1, 0, none⟩) 1 1], Blk (a + 1) 35 (liveS a 1).vs, Blk a 9 [.string roomB], Old w]
theorem live_sat (w : World) (a : Nat) (ha : w.heap.size = a) : Sat w ((((((w.alloc (.cells #[.string ⟨#[114, 111, 111, 109]⟩] 9)).alloc (.cells #[.string ⟨#[98]⟩, .int .i64 1, .int .i64 1, .slice (some ⟨a, 0, none⟩) 1 1, .slice none 0 0] 35)).alloc
    (.cells #[.string ⟨#[97]⟩, .slice (some ⟨a + 1, 0, none⟩) 1 1] 24)).alloc (.cells #[.string ⟨#[114, 111, 111, 109]⟩] 9)).alloc (.cells #[.string ⟨#[98]⟩, .int .i64 1, .int .i64 0, .slice (some ⟨a + 1 + 1 + 1, 0, none⟩) 1 1, .slice none 0 0] 35)).alloc
    (.cells #[.string ⟨#[97]⟩, .slice (some ⟨a + 1 + 1 + 1 + 1, 0, none⟩) 1 1] 24)) (liveL a w) := by
  have key : ∀ (W : World) (n : Nat) (L : List HP) (cs : Array Value) (t : Nat), W.heap.size = n → Sat w W L → (W.alloc (.cells cs t)).heap.size = n + 1 ∧ Sat w (W.alloc (.cells cs t)) (Blk n t cs.toList :: L) := fun W n L cs t hn h => ⟨by simp [hn], by have h2 := h.new cs t; rw [hn] at h2; exact h2⟩
  obtain ⟨s1, h1⟩ := key w a _ #[.string ⟨#[114, 111, 111, 109]⟩] 9 ha (Sat.start w)
  obtain ⟨s2, h2⟩ := key _ _ _ #[.string ⟨#[98]⟩, .int .i64 1, .int .i64 1, .slice (some ⟨a, 0, none⟩) 1 1, .slice none 0 0] 35 s1 h1
  obtain ⟨s3, h3⟩ := key _ _ _ #[.string ⟨#[97]⟩, .slice (some ⟨a + 1, 0, none⟩) 1 1] 24 s2 h2
  obtain ⟨s4, h4⟩ := key _ _ _ #[.string ⟨#[114, 111, 111, 109]⟩] 9 s3 h3
  obtain ⟨s5, h5⟩ := key _ _ _ #[.string ⟨#[98]⟩, .int .i64 1, .int .i64 0, .slice (some ⟨a + 1 + 1 + 1, 0, none⟩) 1 1, .slice none 0 0] 35 s4 h4
  exact (key _ _ _ #[.string ⟨#[97]⟩, .slice (some ⟨a + 1 + 1 + 1 + 1, 0, none⟩) 1 1] 24 s5 h5).2
set_option maxHeartbeats 3200000 in
theorem live_any (w : World) (hT : Lib.Utf8Tabs 0 1 w) : Calls Tryd.prog 15 #[] w (Quietly w (.bool true)) := by
  obtain ⟨a, ha⟩ : ∃ a, w.heap.size = a := ⟨_, rfl⟩
  have HS := Lib.hid (live_sat w a ha)
  have HT := Lib.hid hT
  unfold Quietly
  clear hT
  go_enter Tryd.func15, Tryd.ntmps15
  go_wp2_with fail
  try simp only [ha]
  refine (live_check (kb := a) (part := 1) HS.out.r6.blk HS.out.r5.blk (by unfold wf64; decide) (tabs_keep HT.out (HS.out.old (by simp [liveL]))) (live_good a (a + 1))).mono ?_
  rintro e w1 ⟨rfl, hb⟩
  have h2 := HS.out.below hb
  have u0 : w1.cell? ⟨a + 1 + 1 + 1 + 1 + 1, 0, none⟩ = some (.string ⟨#[97]⟩) := h2.blk.cell 0
  have u1 : w1.cell? ⟨a + 1 + 1 + 1 + 1 + 1, 1, none⟩ = some (.slice (some ⟨a + 1 + 1 + 1 + 1, 0, none⟩) 1 1) := h2.blk.cell 1
  have H2 := Lib.hid h2
  clear hb h2 HS
  go_wp2_with fail
  refine (live_check (kb := a + 1 + 1 + 1) (part := 0) H2.out.r3.blk H2.out.r2.blk (by unfold wf64; decide) (tabs_keep HT.out (H2.out.old (by simp [liveL]))) (live_bad _ _)).mono ?_
  rintro e w2 ⟨rfl, hb⟩
  have H3 := Lib.hid ((H2.out.below hb).old (by simp [liveL]))
  clear hb H2 u0 u1
  go_wp2_with fail
  go_ret
  exact ⟨rfl, by have h9 := H3.out; first | exact h9 | (rw [ha] at h9; exact h9)⟩
end Go.Proofs.YtpmoanjeoaeabaaDoor
end

section
/- Needs that go in no ring come to an end: the plain law of CheckSound's rounds. Plain Lean. -/
set_option linter.unusedVariables false
set_option linter.unusedSimpArgs false
set_option linter.unnecessarySimpa false
namespace Go.Proofs.YtpmoanjeoaeabaaDoor
open Classical in /-- of how many of the first n something holds -/ noncomputable def cn (p : Nat → Prop) : Nat → Nat
  | 0 => 0
  | k + 1 => cn p k + if p k then 1 else 0
theorem cn_le {p q : Nat → Prop} (h : ∀ x, p x → q x) : ∀ k, cn p k ≤ cn q k
  | 0 => Nat.le_refl _
  | k + 1 => by
    have ih := cn_le h k
    unfold cn
    by_cases h1 : p k
    · rw [if_pos h1, if_pos (h k h1)]; omega
    · rw [if_neg h1]; omega
theorem cn_lt {p q : Nat → Prop} (h : ∀ x, p x → q x) {n : Nat} (h0 : ¬ p n) (h1 : q n) : ∀ k, n < k → cn p k < cn q k
  | 0, hk => absurd hk (Nat.not_lt_zero _)
  | k + 1, hk => by
    have hle := cn_le h k
    unfold cn
    by_cases e : n = k
    · subst e
      rw [if_neg h0, if_pos h1]; omega
    · have ih := cn_lt h h0 h1 k (by omega)
      by_cases h2 : p k
      · rw [if_pos h2, if_pos (h k h2)]; omega
      · rw [if_neg h2]; omega
theorem cn_top (p : Nat → Prop) : ∀ k, cn p k ≤ k
  | 0 => Nat.le_refl _
  | k + 1 => by
    have ih := cn_top p k
    unfold cn
    split <;> omega
theorem cn_miss {p : Nat → Prop} {n : Nat} (h : ¬ p n) (k : Nat) (hk : n < k) : cn p k < k := by
  have h1 := cn_lt (p := p) (q := fun _ => True) (fun _ _ => trivial) h trivial k hk
  have h2 := cn_top (fun _ => True) k
  omega
def goneB (m : List Bool) (l : List Nat) : Bool := l.all fun x => metB m x
/-- one round, up to step k: what has all its needs gone, goes -/
def goTo (N : Nat → List Nat) (m : List Bool) : Nat → List Bool
  | 0 => m
  | k + 1 => (goTo N m k).set k (metB (goTo N m k) k || goneB (goTo N m k) (N k))
def goRounds (N : Nat → List Nat) (n : Nat) (m : List Bool) : Nat → List Bool
  | 0 => m
  | r + 1 => goTo N (goRounds N n m r) n
theorem met_setB (m : List Bool) (y x : Nat) (v : Bool) (hy : y < m.length) : metB (m.set y v) x = if y = x then v else metB m x := by
  unfold metB
  rw [List.getD_eq_getElem?_getD, List.getD_eq_getElem?_getD, List.getElem?_set]
  by_cases h : y = x
  · subst h
    rw [if_pos rfl, if_pos hy, if_pos rfl]
    rfl
  · rw [if_neg h, if_neg h]
section
variable {N : Nat → List Nat} {n : Nat}
theorem goTo_len (m : List Bool) : ∀ k, (goTo N m k).length = m.length
  | 0 => rfl
  | k + 1 => by
    show ((goTo N m k).set k _).length = _
    rw [List.length_set, goTo_len m k]
theorem goRounds_len (m : List Bool) : ∀ r, (goRounds N n m r).length = m.length
  | 0 => rfl
  | r + 1 => by
    show (goTo N (goRounds N n m r) n).length = _
    rw [goTo_len, goRounds_len m r]
theorem goTo_le {m : List Bool} (hl : m.length = n) : ∀ k, k ≤ n → ∀ x, metB m x = true → metB (goTo N m k) x = true
  | 0, _, x, h => h
  | k + 1, hk, x, h => by
    have ih := goTo_le hl k (by omega) x h
    show metB ((goTo N m k).set k _) x = true
    rw [met_setB _ _ _ _ (by rw [goTo_len, hl]; omega)]
    by_cases e : k = x
    · subst e
      rw [if_pos rfl, ih]
      rfl
    · rw [if_neg e]
      exact ih
theorem goTo_hit {m : List Bool} (hl : m.length = n) {x : Nat} (hx : ∀ z ∈ N x, metB m z = true) : ∀ k, k ≤ n → x < k → metB (goTo N m k) x = true
  | 0, _, h => absurd h (Nat.not_lt_zero _)
  | k + 1, hk, h => by
    show metB ((goTo N m k).set k _) x = true
    rw [met_setB _ _ _ _ (by rw [goTo_len, hl]; omega)]
    by_cases e : k = x
    · subst e
      rw [if_pos rfl]
      have hg : goneB (goTo N m k) (N k) = true := by
        unfold goneB
        rw [List.all_eq_true]
        exact fun z hz => goTo_le hl k (by omega) z (hx z hz)
      rw [hg, Bool.or_true]
    · rw [if_neg e]
      exact goTo_hit hl hx k (by omega) (by omega)
/-- where no step needs itself, all go within as many rounds as there are steps -/
theorem all_gone (hN : Within N n) (hr : ∀ x, x < n → ¬ Reach N x x) : ∀ x, x < n → metB (goRounds N n (List.replicate n false) n) x = true := by
  have hl : ∀ r, (goRounds N n (List.replicate n false) r).length = n := fun r => by rw [goRounds_len, List.length_replicate]
  have key : ∀ r x, r ≤ n → x < n → cn (fun y => Reach N x y) n < r → metB (goRounds N n (List.replicate n false) r) x = true := by
    intro r
    induction r with
    | zero => intro x _ _ h; omega
    | succ r ih =>
      intro x hrn hx hc
      refine goTo_hit (hl r) (fun z hz => ?_) n (Nat.le_refl n) hx
      have hzn := hN x z hz
      refine ih z (by omega) hzn ?_
      have := cn_lt (p := fun y => Reach N z y) (q := fun y => Reach N x y) (fun y hy => Reach.trans (.one hz) hy) (hr z hzn) (Reach.one hz) n hzn
      omega
  intro x hx
  exact key n x (Nat.le_refl n) hx (cn_miss (hr x hx) n hx)
end
end Go.Proofs.YtpmoanjeoaeabaaDoor
end

section
/- What holds of a definition in which nothing is wrong; words for the walk of CheckSound. -/
set_option linter.unusedVariables false
set_option linter.unusedSimpArgs false
set_option linter.unnecessarySimpa false
set_option maxRecDepth 100000
namespace Go.Proofs.YtpmoanjeoaeabaaDoor
open Go.RowKit Go.ChangeShapes Go.WideShapes Go.ChangeAt
structure Clean (d : Df) : Prop where
  pos : 1 ≤ d.steps.length
  most : d.steps.length ≤ 8
  alone : ∀ j, j < d.steps.length → badB d j = false
  piv : ∀ j, j < d.steps.length → pivB d j = false
  order : ∀ j, j < d.steps.length → orderB d j = false
  ring : ∀ j, j < d.steps.length → ringB d j = false
  loose : ∀ j, j < d.steps.length → looseB d j = false
theorem fst_all {n : Nat} {p : Nat → Bool} (h : ¬ fstI n p < n) : ∀ j, j < n → p j = false := fun j hj => fst_no (n := n) (by omega)
theorem clean_of {d : Df} (h : (checkN d).2 = 0) : Clean d ∧ checkN d = (-1, 0) := by
  unfold checkN at h ⊢
  by_cases h1 : isN d.name = false
  · rw [if_pos h1] at h; exact absurd h (by decide)
  rw [if_neg h1] at h ⊢
  by_cases h2 : d.steps.length < 1 ∨ 8 < d.steps.length
  · rw [if_pos h2] at h; exact absurd h (by decide)
  rw [if_neg h2] at h ⊢
  by_cases h3 : fstI d.steps.length (badB d) < d.steps.length
  · rw [if_pos h3] at h
    have := of_decide_eq_true (fst_is h3)
    exact absurd h this
  rw [if_neg h3] at h ⊢
  unfold togetherN at h ⊢
  by_cases h4 : fstI d.steps.length (pivB d) < d.steps.length
  · rw [if_pos h4] at h; exact absurd h (by show ¬ (117 : Int) = 0; decide)
  rw [if_neg h4] at h ⊢
  by_cases h5 : fstI d.steps.length (orderB d) < d.steps.length
  · rw [if_pos h5] at h; exact absurd h (by show ¬ (118 : Int) = 0; decide)
  rw [if_neg h5] at h ⊢
  by_cases h6 : fstI d.steps.length (ringB d) < d.steps.length
  · rw [if_pos h6] at h; exact absurd h (by show ¬ (119 : Int) = 0; decide)
  rw [if_neg h6] at h ⊢
  by_cases h7 : fstI d.steps.length (looseB d) < d.steps.length
  · rw [if_pos h7] at h; exact absurd h (by show ¬ (115 : Int) = 0; decide)
  rw [if_neg h7]
  exact ⟨⟨by omega, by omega, fst_all h3, fst_all h4, fst_all h5, fst_all h6, fst_all h7⟩, rfl⟩
section
variable {d : Df}
theorem Clean.need (h : Clean d) : NeedIn d := needIn_of h.alone
theorem Clean.names (h : Clean d) {k i : Nat} (hi : i < d.steps.length) (hk : k < i) : nameAt d k ≠ nameAt d i := fun e => by
  have := (bad_no (h.alone i hi)).2.1
  exact of_decide_eq_false this ⟨k, hk, e⟩
theorem Clean.pivs (h : Clean d) : ∀ k, k ≤ d.steps.length → pivTo d k ≤ 1 := fun k hk => piv_le fun j hj => h.piv j (by omega)
theorem Clean.kinds (h : Clean d) {i : Nat} (hi : i < d.steps.length) {m : Int} (hm : m ∈ needsAt d i) (h3 : kindAt d i ≠ 3) : kindAt d m.toNat = 1 := by
  have := of_decide_eq_false (h.order i hi)
  by_cases e : kindAt d m.toNat = 1
  · exact e
  · exact absurd ⟨h3, m, hm, e⟩ this
theorem Clean.gone (h : Clean d) : ∀ x, x < d.steps.length → metB (goRounds (needN d) d.steps.length (List.replicate d.steps.length false) d.steps.length) x = true :=
  all_gone (within_of h.need) fun x hx hr => by
    have := h.ring x hx
    rw [(ringB_iff h.need x).2 hr] at this
    cases this
end
theorem goneB_take (M : List Bool) (l : List Nat) (k : Nat) (h : k < l.length) : goneB M (l.take (k + 1)) = (goneB M (l.take k) && metB M (l.getD k 0)) := by
  unfold goneB
  rw [List.take_succ_eq_append_getElem h, ← List.getElem_eq_getD (h := h), List.all_append]
  simp
theorem bv_setB (M : List Bool) (x : Nat) (v : Bool) : (bv M).set x (.bool v) = bv (M.set x v) := by unfold bv; rw [List.map_set]
def So1 (W : World) (b : Nat) (d : Df) (p x : Value) (wr : World) : Prop := ∃ i : Nat, i ≤ d.steps.length ∧ x = .int .i64 i ∧ p = .int .i64 (pivTo d i : Nat) ∧ Sat W wr [Blk b 24 (boxV d), Old W]
def So2 (W : World) (L : List HP) (n : Nat) (x : Value) (wr : World) : Prop := ∃ k : Nat, k ≤ n ∧ x = .int .i64 k ∧ Sat W wr L
def So4 (W : World) (L : List HP) (mb : Nat) (N : Nat → List Nat) (n : Nat) (x : Value) (wr : World) : Prop := ∃ r : Nat, r ≤ n ∧ x = .int .i64 r ∧ Sat W wr (Blk mb 4 (bv (goRounds N n (List.replicate n false) r)) :: L)
def So5 (W : World) (L : List HP) (mb : Nat) (N : Nat → List Nat) (n : Nat) (S : List Bool) (x : Value) (wr : World) : Prop := ∃ k : Nat, k ≤ n ∧ x = .int .i64 k ∧ Sat W wr (Blk mb 4 (bv (goTo N S k)) :: L)
def So6 (W : World) (L : List HP) (mb : Nat) (M : List Bool) (l : List Nat) (f x : Value) (wr : World) : Prop := ∃ j : Nat, j ≤ l.length ∧ x = .int .i64 j ∧ f = .bool (goneB M (l.take j)) ∧ Sat W wr (Blk mb 4 (bv M) :: L)
end Go.Proofs.YtpmoanjeoaeabaaDoor
end

section
/- What the reading of a definition gives, with its sizes. -/
set_option linter.unusedVariables false
set_option linter.unusedSimpArgs false
set_option linter.unnecessarySimpa false
set_option maxRecDepth 100000
namespace Go.Proofs.YtpmoanjeoaeabaaDoor
open Go.RowKit Go.ChangeShapes Go.WideShapes Go.ChangeAt
/-- sizes of what a definition holds, in bytes -/
structure Fits (d : Df) : Prop where
  name : d.name.size ≤ 140737488351232
  names : ∀ s ∈ d.steps, s.name.size ≤ 140737488351232
  keys : ∀ s ∈ d.steps, ∀ k ∈ s.keys, k.size ≤ 140737488351232
  needs : ∀ s ∈ d.steps, s.needs.length * 8 ≤ 140737488351232
  keyn : ∀ s ∈ d.steps, s.keys.length * 16 ≤ 140737488351232
  steps : d.steps.length * 80 ≤ 140737488351232
theorem Fits.sized {d : Df} (h : Fits d) : Sized d :=
  ⟨h.name, h.names, h.keys, fun s hs => by have := h.needs s hs; omega, fun s hs => by have := h.keyn s hs; omega, by have := h.steps; omega⟩
def WB {H : Type} (t : TypeId) (d : DataW H) : Prop := ∀ m ∈ DataW.weights Tryd.prog t d, m ≤ 140737488351232
theorem wb_all {H : Type} {e : TypeId} : ∀ {l : List (DataW H)}, (∀ m ∈ DataW.weightsAll Tryd.prog e l, m ≤ 140737488351232) → ∀ i, i < l.length → WB e (l.getD i .nil)
  | [], _, i, hi => absurd hi (Nat.not_lt_zero _)
  | d :: r, h, 0, _ => fun m hm => h m (by unfold DataW.weightsAll; exact List.mem_append_left _ hm)
  | d :: r, h, i + 1, hi => wb_all (l := r) (fun m hm => h m (by unfold DataW.weightsAll; exact List.mem_append_right _ hm)) i (by simpa using hi)
theorem wb_slice {H : Type} {t e : TypeId} {ys rs : List (DataW H)} (hu : Tryd.prog.underlying t = some (.slice e)) (h : WB t (.slice ys rs)) : ys.length * Tryd.prog.bytesOf e ≤ 140737488351232 ∧ ∀ i, i < ys.length → WB e (ys.getD i .nil) := by
  unfold WB at h
  unfold DataW.weights at h
  rw [hu] at h
  simp only at h
  refine ⟨?_, wb_all fun m hm => h m (List.mem_cons_of_mem _ (List.mem_append_left _ hm))⟩
  have h1 := h _ List.mem_cons_self
  exact Nat.le_trans (Nat.mul_le_mul_right _ (Nat.le_add_right _ _)) h1
theorem wb_str {H : Type} {t : TypeId} {b : ByteArray} (h : WB (H := H) t (.lit (.string b.data.toList))) : b.size ≤ 140737488351232 := by
  unfold WB at h
  unfold DataW.weights at h
  have := h _ List.mem_cons_self
  rwa [Array.length_toList] at this
/-- what each element gives, where the slice is nil or holds ys -/
theorem each_of {H : Type} {t e : TypeId} {L : List (List Value)} {ys rs : List (DataW H)} {d : DataW H} (hu : Tryd.prog.underlying t = some (.slice e)) (hy : ys.length = L.length) (hd : (L = [] ∧ d = .nil) ∨ d = .slice ys rs) (h : WB t d) :
    L.length * Tryd.prog.bytesOf e ≤ 140737488351232 ∧ ∀ i, i < L.length → WB e (ys.getD i .nil) := by
  rcases hd with ⟨rfl, _⟩ | rfl
  · exact ⟨by simp, fun i hi => absurd hi (Nat.not_lt_zero _)⟩
  · obtain ⟨h1, h2⟩ := wb_slice hu h
    rw [hy] at h1 h2
    exact ⟨h1, h2⟩
section
variable {H : Type} {enc : TypeId × Value → H} {W : World} {base fuel : Nat} {spare : Nat → Bool} {held : Bool}
theorem read32s {v : Value} {x : DataW H × List MemPlace} (h : DataW.trod enc Tryd.prog W base spare held fuel 32 [v] = some x) (hw : WB 32 x.1) :
    ∃ (A : Option Addr) (c : Nat) (l : List ByteArray), v = .slice A l.length c ∧ Elems W (.slice A l.length c) 1 (l.map strC) ∧ (∀ k ∈ l, k.size ≤ 9223372036854775807 ∧ k.size ≤ 140737488351232) ∧ l.length * 16 ≤ 140737488351232 := by
  obtain ⟨A, n, c, rfl⟩ := slice_form Tryd.underlying32 h
  obtain ⟨L, ys, rs, hE, hy, hd, hL⟩ := elems_of Tryd.underlying32 (show Tryd.prog.cellsOf 9 = 1 by kernel_rfl) (by decide) (trod_cells rfl h)
  obtain ⟨hb, hws⟩ := each_of Tryd.underlying32 hy hd hw
  obtain ⟨M, rfl, hM⟩ := map_of L (vs := strC) (q := fun k => k.size ≤ 9223372036854775807 ∧ k.size ≤ 140737488351232) (fun i hi => by
    obtain ⟨f, p, hr⟩ := hL i hi
    obtain ⟨k0, e0, ed, w0⟩ := DataW.trod_string Tryd.underlying9 hr
    have hws := hws i hi
    have e1 : ys.getD i .nil = .lit (.string k0.data.toList) := congrArg Prod.fst ed
    rw [e1] at hws
    exact ⟨k0, e0, w0, wb_str hws⟩)
  have hn := hE.at_.1
  rw [List.length_map] at hn hb
  subst hn
  rw [show Tryd.prog.bytesOf 9 = 16 by kernel_rfl] at hb
  exact ⟨A, c, M, rfl, hE, hM, hb⟩
theorem read33s {v : Value} {x : DataW H × List MemPlace} (h : DataW.trod enc Tryd.prog W base spare held fuel 33 [v] = some x) (hw : WB 33 x.1) :
    ∃ (A : Option Addr) (c : Nat) (l : List Int), v = .slice A l.length c ∧ Elems W (.slice A l.length c) 1 (l.map intC) ∧ (∀ k ∈ l, wf64 k) ∧ l.length * 8 ≤ 140737488351232 := by
  obtain ⟨A, n, c, rfl⟩ := slice_form Tryd.underlying33 h
  obtain ⟨L, ys, rs, hE, hy, hd, hL⟩ := elems_of Tryd.underlying33 (show Tryd.prog.cellsOf 3 = 1 by kernel_rfl) (by decide) (trod_cells rfl h)
  obtain ⟨hb, hws⟩ := each_of Tryd.underlying33 hy hd hw
  obtain ⟨M, rfl, hM⟩ := map_of L (vs := intC) (q := wf64) (fun i hi => by
    obtain ⟨f, p, hr⟩ := hL i hi
    obtain ⟨k0, e0, _, w0⟩ := DataW.trod_int Tryd.underlying3 hr
    exact ⟨k0, e0, wf64_of w0⟩)
  have hn := hE.at_.1
  rw [List.length_map] at hn hb
  subst hn
  rw [show Tryd.prog.bytesOf 3 = 8 by kernel_rfl] at hb
  exact ⟨A, c, M, rfl, hE, hM, hb⟩
structure StFits (s : St) : Prop where
  name : s.name.size ≤ 140737488351232
  keys : ∀ k ∈ s.keys, k.size ≤ 140737488351232
  needs : s.needs.length * 8 ≤ 140737488351232
  keyn : s.keys.length * 16 ≤ 140737488351232
theorem read35s {cs : List Value} {x : DataW H × List MemPlace} (h : DataW.trod enc Tryd.prog W base spare held fuel 35 cs = some x) (hw : WB 35 x.1) : ∃ s : St, cs = s.vs ∧ StAt W s ∧ StFits s := by
  obtain ⟨xs, n, rfl, hx, hlen, hn, hel⟩ := DataW.trod_struct Tryd.underlying35 h
  rw [show Tryd.prog.cellsOf 35 = 5 by kernel_rfl] at hlen
  have q3 : Tryd.prog.cellsOf 3 = 1 := by kernel_rfl
  have q9 : Tryd.prog.cellsOf 9 = 1 := by kernel_rfl
  have q32 : Tryd.prog.cellsOf 32 = 1 := by kernel_rfl
  have q33 : Tryd.prog.cellsOf 33 = 1 := by kernel_rfl
  match cs, hlen with
  | [c0, c1, c2, c3, c4], _ =>
    have h0 := hel 0 _ rfl
    have h1 := hel 1 _ rfl
    have h2 := hel 2 _ rfl
    have h3 := hel 3 _ rfl
    have h4 := hel 4 _ rfl
    match xs, hn with
    | [x0, x1, x2, x3, x4], _ =>
      have h3' : DataW.trod enc Tryd.prog W base spare held n 32 [c3] = some x3 := by
        have hq : DataW.trod enc Tryd.prog W base spare held n 32 (([c0, c1, c2, c3, c4].drop 3).take (Tryd.prog.cellsOf 32)) = some x3 := h3
        rw [q32] at hq
        exact hq
      have h4' : DataW.trod enc Tryd.prog W base spare held n 33 [c4] = some x4 := by
        have hq : DataW.trod enc Tryd.prog W base spare held n 33 (([c0, c1, c2, c3, c4].drop 4).take (Tryd.prog.cellsOf 33)) = some x4 := h4
        rw [q33] at hq
        exact hq
      have hwe : ∀ m ∈ DataW.weightsEach Tryd.prog [9, 3, 3, 32, 33] [x0.1, x1.1, x2.1, x3.1, x4.1], m ≤ 140737488351232 := by
        intro m hm
        refine hw m ?_
        rw [hx]
        unfold DataW.weights
        rw [Tryd.underlying35]
        exact hm
      have w0' : WB 9 x0.1 := fun m hm => hwe m (by simp only [DataW.weightsEach, List.mem_append]; exact .inl hm)
      have w3' : WB 32 x3.1 := fun m hm => hwe m (by simp only [DataW.weightsEach, List.mem_append]; exact .inr (.inr (.inr (.inl hm))))
      have w4' : WB 33 x4.1 := fun m hm => hwe m (by simp only [DataW.weightsEach, List.mem_append]; exact .inr (.inr (.inr (.inr (.inl hm)))))
      obtain ⟨k0, e0, d0, w0⟩ := DataW.trod_string Tryd.underlying9 (x := x0) h0
      obtain ⟨k1, e1, _, w1⟩ := DataW.trod_int Tryd.underlying3 (x := x1) h1
      obtain ⟨k2, e2, _, w2⟩ := DataW.trod_int Tryd.underlying3 (x := x2) h2
      obtain ⟨kA, kc, ks, rfl, hks, hkw, hkn⟩ := read32s h3' w3'
      obtain ⟨nA, nc, ns, rfl, hns, hnw, hnn⟩ := read33s h4' w4'
      rw [d0] at w0'
      refine ⟨⟨k0, k1, k2, ks, ns, kA, kc, nA, nc⟩, ?_, ⟨hks, hns, wf64_of w1, wf64_of w2, hnw, w0, fun k hk => (hkw k hk).1⟩, ⟨wb_str w0', fun k hk => (hkw k hk).2, hnn, hkn⟩⟩
      simp [q9, q3] at e0 e1 e2
      simp [St.vs, e0, e1, e2]
theorem read22s {v : Value} {x : DataW H × List MemPlace} (h : DataW.trod enc Tryd.prog W base spare held fuel 22 [v] = some x) (hw : WB 22 x.1) :
    ∃ (A : Option Addr) (c : Nat) (l : List St), v = .slice A l.length c ∧ Elems W (.slice A l.length c) 5 (l.map St.vs) ∧ (∀ s ∈ l, StAt W s ∧ StFits s) ∧ l.length * 80 ≤ 140737488351232 := by
  obtain ⟨A, n, c, rfl⟩ := slice_form Tryd.underlying22 h
  obtain ⟨L, ys, rs, hE, hy, hd, hL⟩ := elems_of Tryd.underlying22 (show Tryd.prog.cellsOf 35 = 5 by kernel_rfl) (by decide) (trod_cells rfl h)
  obtain ⟨hb, hws⟩ := each_of Tryd.underlying22 hy hd hw
  obtain ⟨M, rfl, hM⟩ := map_of L (vs := St.vs) (q := fun s => StAt W s ∧ StFits s) (fun i hi => by
    obtain ⟨f, p, hr⟩ := hL i hi
    exact read35s hr (hws i hi))
  have hn := hE.at_.1
  rw [List.length_map] at hn hb
  subst hn
  rw [show Tryd.prog.bytesOf 35 = 80 by kernel_rfl] at hb
  exact ⟨A, c, M, rfl, hE, hM, hb⟩
theorem read24s {cs : List Value} {x : DataW H × List MemPlace} (h : DataW.trod enc Tryd.prog W base spare held fuel 24 cs = some x) (hw : WB 24 x.1) : ∃ d : Df, cs = d.vs ∧ DefAt W d ∧ Fits d := by
  obtain ⟨xs, n, rfl, hx, hlen, hn, hel⟩ := DataW.trod_struct Tryd.underlying24 h
  rw [show Tryd.prog.cellsOf 24 = 2 by kernel_rfl] at hlen
  have q9 : Tryd.prog.cellsOf 9 = 1 := by kernel_rfl
  have q22 : Tryd.prog.cellsOf 22 = 1 := by kernel_rfl
  match cs, hlen with
  | [c0, c1], _ =>
    have h0 := hel 0 _ rfl
    have h1 := hel 1 _ rfl
    match xs, hn with
    | [x0, x1], _ =>
      have h1' : DataW.trod enc Tryd.prog W base spare held n 22 [c1] = some x1 := by
        have hq : DataW.trod enc Tryd.prog W base spare held n 22 (([c0, c1].drop 1).take (Tryd.prog.cellsOf 22)) = some x1 := h1
        rw [q22] at hq
        exact hq
      have hwe : ∀ m ∈ DataW.weightsEach Tryd.prog [9, 22] [x0.1, x1.1], m ≤ 140737488351232 := by
        intro m hm
        refine hw m ?_
        rw [hx]
        unfold DataW.weights
        rw [Tryd.underlying24]
        exact hm
      have w0' : WB 9 x0.1 := fun m hm => hwe m (by simp only [DataW.weightsEach, List.mem_append]; exact .inl hm)
      have w1' : WB 22 x1.1 := fun m hm => hwe m (by simp only [DataW.weightsEach, List.mem_append]; exact .inr (.inl hm))
      obtain ⟨k0, e0, d0, w0⟩ := DataW.trod_string Tryd.underlying9 (x := x0) h0
      obtain ⟨A, c, l, rfl, hl, hs, hb⟩ := read22s h1' w1'
      rw [d0] at w0'
      refine ⟨⟨k0, l, A, c⟩, ?_, ⟨hl, fun s hm => (hs s hm).1, w0⟩, ⟨wb_str w0', fun s hm => (hs s hm).2.name, fun s hm => (hs s hm).2.keys, fun s hm => (hs s hm).2.needs, fun s hm => (hs s hm).2.keyn, hb⟩⟩
      simp [q9] at e0
      simp [Df.vs, e0]
end
theorem open24s {H : Type} {enc : TypeId × Value → H} {W : World} {base : Nat} {spare : Nat → Bool} {held : Bool} {v : Value} {d : DataW H} {ps : List MemPlace} (hw : WB 24 d) (h : DataW.Trod enc Tryd.prog W base spare held 24 v d ps) : ∃ D : Df, v = D.v ∧ DefAt W D ∧ Fits D := by
  obtain ⟨fuel, hf⟩ := h
  obtain ⟨D, e, hD, hF⟩ := read24s (x := (d, ps)) hf hw
  exact ⟨D, agg_of e, hD, hF⟩
/-- the sizes of an argument, out of the form's word on all of them -/
theorem wb_of {H : Type} {ts : List TypeId} {ds : List (DataW H)} {j : Nat} {t : TypeId} {d : DataW H} (h : (DataW.weightsEach Tryd.prog ts ds).all (· ≤ reachBytes) = true) (ht : ts[j]? = some t) (hd : ds[j]? = some d) : WB t d := fun m hm => by
  have := List.all_eq_true.1 h _ (DataW.weights_mem_each ht hd m hm)
  exact of_decide_eq_true this
end Go.Proofs.YtpmoanjeoaeabaaDoor
end

section
/- Definitions that say the same: what the checks say of them. A definition in memory of its own. -/
set_option linter.unusedVariables false
set_option linter.unusedSimpArgs false
set_option linter.unnecessarySimpa false
set_option maxRecDepth 100000
namespace Go.Proofs.YtpmoanjeoaeabaaDoor
open Go.RowKit Go.ChangeShapes Go.WideShapes Go.ChangeAt
/-- what a step says, without its places -/
structure Core where
  name : ByteArray
  kind : Int
  part : Int
  keys : List ByteArray
  needs : List Int
def St.core (s : St) : Core := ⟨s.name, s.kind, s.part, s.keys, s.needs⟩
/-- two definitions that say the same -/
structure Like (a d : Df) : Prop where
  name : a.name = d.name
  steps : a.steps.map St.core = d.steps.map St.core
def coreAt (d : Df) (k : Nat) : Core := (d.steps.map St.core).getD k ⟨.empty, 0, 0, [], []⟩
theorem core_getD (d : Df) (k : Nat) : (d.steps.getD k ⟨.empty, 0, 0, [], [], none, 0, none, 0⟩).core = coreAt d k := by
  unfold coreAt
  rw [List.getD_eq_getElem?_getD, List.getD_eq_getElem?_getD, List.getElem?_map]
  cases d.steps[k]? <;> rfl
section
variable {a d : Df}
theorem nameAt_core (d : Df) (k : Nat) : nameAt d k = (coreAt d k).name := by rw [← core_getD]; rfl
theorem kindAt_core (d : Df) (k : Nat) : kindAt d k = (coreAt d k).kind := by rw [← core_getD]; rfl
theorem partAt_core (d : Df) (k : Nat) : partAt d k = (coreAt d k).part := by rw [← core_getD]; rfl
theorem keysAt_core (d : Df) (k : Nat) : keysAt d k = (coreAt d k).keys := by rw [← core_getD]; rfl
theorem needsAt_core (d : Df) (k : Nat) : needsAt d k = (coreAt d k).needs := by rw [← core_getD]; rfl
theorem Like.symm (h : Like a d) : Like d a := ⟨h.name.symm, h.steps.symm⟩
theorem Like.len (h : Like a d) : a.steps.length = d.steps.length := by
  have := congrArg List.length h.steps
  simpa using this
theorem Like.core (h : Like a d) (k : Nat) : coreAt a k = coreAt d k := by unfold coreAt; rw [h.steps]
theorem Like.nameAt (h : Like a d) (k : Nat) : nameAt a k = nameAt d k := by rw [nameAt_core, nameAt_core, h.core]
theorem Like.kindAt (h : Like a d) (k : Nat) : kindAt a k = kindAt d k := by rw [kindAt_core, kindAt_core, h.core]
theorem Like.partAt (h : Like a d) (k : Nat) : partAt a k = partAt d k := by rw [partAt_core, partAt_core, h.core]
theorem Like.keysAt (h : Like a d) (k : Nat) : keysAt a k = keysAt d k := by rw [keysAt_core, keysAt_core, h.core]
theorem Like.needsAt (h : Like a d) (k : Nat) : needsAt a k = needsAt d k := by rw [needsAt_core, needsAt_core, h.core]
theorem Like.alone (h : Like a d) (k : Nat) : aloneE a k = aloneE d k := by
  have h1 : twiceB a k = twiceB d k := by unfold twiceB; exact decide_eq_decide.2 (by simp only [h.nameAt])
  unfold aloneE
  rw [h1, h.nameAt, h.kindAt, h.partAt, h.keysAt, h.needsAt, h.len]
theorem Like.pivs_ (h : Like a d) : ∀ k, pivTo a k = pivTo d k
  | 0 => rfl
  | k + 1 => by
    have ih := Like.pivs_ h k
    show pivTo a k + _ = pivTo d k + _
    rw [ih, h.kindAt]
theorem Like.needNs (h : Like a d) : needN a = needN d := by funext k; unfold needN; rw [h.needsAt]
theorem Like.held (h : Like a d) (key : ByteArray) : heldB a key = heldB d key := by
  unfold heldB foundTo
  exact decide_eq_decide.2 (by simp only [h.kindAt, h.keysAt, h.len])
theorem Like.bad (h : Like a d) : badB a = badB d := by funext k; unfold badB; rw [h.alone]
theorem Like.piv (h : Like a d) : pivB a = pivB d := by funext k; unfold pivB; rw [h.pivs_]
theorem Like.order (h : Like a d) : orderB a = orderB d := by funext k; unfold orderB; exact decide_eq_decide.2 (by simp only [h.kindAt, h.needsAt])
theorem Like.ring (h : Like a d) : ringB a = ringB d := by funext k; unfold ringB ringM; rw [h.needNs, h.len]
theorem Like.loose (h : Like a d) : looseB a = looseB d := by funext k; unfold looseB; exact decide_eq_decide.2 (by simp only [h.kindAt, h.keysAt, h.held])
theorem Like.check (h : Like a d) : checkN a = checkN d := by
  unfold checkN togetherN
  rw [h.name, h.len, h.bad, h.piv, h.order, h.ring, h.loose, h.alone]
theorem clean_check (h : Clean d) (hn : isN d.name = true) : checkN d = (-1, 0) := by
  rw [check_all hn ⟨h.pos, h.most⟩ h.alone, tog_ok h.piv h.order h.ring h.loose]
theorem check_isN (h : (checkN d).2 = 0) : isN d.name = true := by
  cases hn : isN d.name with
  | true => rfl
  | false => rw [check_name hn] at h; exact absurd h (by decide)
theorem fst_bound (n : Nat) (p : Nat → Bool) : (0 : Int) ≤ fstI n p := Int.natCast_nonneg _
theorem check_range (d : Df) : -1 ≤ (checkN d).1 ∧ ((checkN d).2 ≠ 0 → (checkN d).1 < d.steps.length) := by
  have hb : ∀ p, fstI d.steps.length p < d.steps.length → (-1 : Int) ≤ (fstI d.steps.length p : Nat) ∧ ((fstI d.steps.length p : Nat) : Int) < d.steps.length := fun p h => by omega
  unfold checkN
  by_cases h1 : isN d.name = false
  · rw [if_pos h1]; exact ⟨by decide, fun _ => by show (-1 : Int) < _; omega⟩
  rw [if_neg h1]
  by_cases h2 : d.steps.length < 1 ∨ 8 < d.steps.length
  · rw [if_pos h2]; exact ⟨by decide, fun _ => by show (-1 : Int) < _; omega⟩
  rw [if_neg h2]
  by_cases h3 : fstI d.steps.length (badB d) < d.steps.length
  · rw [if_pos h3]; exact ⟨(hb _ h3).1, fun _ => (hb _ h3).2⟩
  rw [if_neg h3]
  unfold togetherN
  by_cases h4 : fstI d.steps.length (pivB d) < d.steps.length
  · rw [if_pos h4]; exact ⟨(hb _ h4).1, fun _ => (hb _ h4).2⟩
  rw [if_neg h4]
  by_cases h5 : fstI d.steps.length (orderB d) < d.steps.length
  · rw [if_pos h5]; exact ⟨(hb _ h5).1, fun _ => (hb _ h5).2⟩
  rw [if_neg h5]
  by_cases h6 : fstI d.steps.length (ringB d) < d.steps.length
  · rw [if_pos h6]; exact ⟨(hb _ h6).1, fun _ => (hb _ h6).2⟩
  rw [if_neg h6]
  by_cases h7 : fstI d.steps.length (looseB d) < d.steps.length
  · rw [if_pos h7]; exact ⟨(hb _ h7).1, fun _ => (hb _ h7).2⟩
  rw [if_neg h7]
  exact ⟨by decide, fun h => absurd rfl h⟩
end
theorem reach_less {N M : Nat → List Nat} (h : ∀ k, ∀ x ∈ M k, x ∈ N k) {i x : Nat} (hr : Reach M i x) : Reach N i x := by
  induction hr with
  | one hx => exact .one (h _ _ hx)
  | step _ hx ih => exact .step ih (h _ _ hx)
/-- the definition with one step's needs left out -/
structure LessAt (a d : Df) (q : Nat) : Prop where
  name : a.name = d.name
  len : a.steps.length = d.steps.length
  names : ∀ k, nameAt a k = nameAt d k
  kinds : ∀ k, kindAt a k = kindAt d k
  parts : ∀ k, partAt a k = partAt d k
  keys : ∀ k, keysAt a k = keysAt d k
  needs : ∀ k, needsAt a k = if k = q then [] else needsAt d k
section
variable {a d : Df} {q : Nat}
theorem LessAt.sub (h : LessAt a d q) (k : Nat) : ∀ m ∈ needsAt a k, m ∈ needsAt d k := by
  intro m hm
  rw [h.needs] at hm
  split at hm
  · cases hm
  · exact hm
theorem LessAt.held (h : LessAt a d q) (key : ByteArray) : heldB a key = heldB d key := by
  unfold heldB foundTo
  exact decide_eq_decide.2 (by simp only [h.kinds, h.keys, h.len])
theorem LessAt.pivs_ (h : LessAt a d q) : ∀ k, pivTo a k = pivTo d k
  | 0 => rfl
  | k + 1 => by
    have ih := LessAt.pivs_ h k
    show pivTo a k + _ = pivTo d k + _
    rw [ih, h.kinds]
theorem LessAt.clean (h : LessAt a d q) (hc : Clean d) : Clean a := by
  have hal : ∀ j, j < a.steps.length → badB a j = false := fun j hj => by
    rw [h.len] at hj
    have h0 : aloneE d j = 0 := by simpa using of_decide_eq_false (hc.alone j hj)
    obtain ⟨b1, b2, b3, b4, b5, b6⟩ := bad_no (hc.alone j hj)
    have t : twiceB a j = twiceB d j := by unfold twiceB; exact decide_eq_decide.2 (by simp only [h.names])
    have hn : needsB (needsAt a j) j a.steps.length = true := by
      rw [h.needs, h.len]
      split
      · exact decide_eq_true fun k hk => absurd hk (Nat.not_lt_zero _)
      · exact b6
    refine decide_eq_false (fun g => g ?_)
    unfold aloneE at h0 ⊢
    rw [t, h.names, h.kinds, h.parts, h.keys, hn]
    rw [b6] at h0
    exact h0
  have hnd : NeedIn a := needIn_of hal
  refine ⟨by rw [h.len]; exact hc.pos, by rw [h.len]; exact hc.most, hal, fun j hj => ?_, fun j hj => ?_, fun j hj => ?_, fun j hj => ?_⟩
  · have := hc.piv j (by rw [← h.len]; exact hj)
    unfold pivB at this ⊢
    rwa [h.pivs_]
  · have := of_decide_eq_false (hc.order j (by rw [← h.len]; exact hj))
    refine decide_eq_false ?_
    rintro ⟨h3, m, hm, hk⟩
    rw [h.kinds] at h3 hk
    exact this ⟨h3, m, h.sub j m hm, hk⟩
  · cases hr : ringB a j with
    | false => rfl
    | true =>
      have h1 := (ringB_iff hnd j).1 hr
      have h2 : Reach (needN d) j j := reach_less (fun k x hx => by
        unfold needN at hx ⊢
        obtain ⟨m, hm, e⟩ := List.mem_map.1 hx
        exact List.mem_map.2 ⟨m, h.sub k m hm, e⟩) h1
      have h3 := hc.ring j (by rw [← h.len]; exact hj)
      rw [(ringB_iff hc.need j).2 h2] at h3
      cases h3
  · have := of_decide_eq_false (hc.loose j (by rw [← h.len]; exact hj))
    refine decide_eq_false ?_
    rintro ⟨h3, key, hm, hk⟩
    rw [h.kinds] at h3
    rw [h.keys] at hm
    rw [h.held] at hk
    exact this ⟨h3, key, hm, hk⟩
end
def strV (l : List ByteArray) : List Value := l.map fun b => .string b
def intV (l : List Int) : List Value := l.map fun n => .int .i64 n
/-- a step's own keys and needs -/
def stP (s : St) : HP := sep [Row 9 1 s.kA s.keys.length s.kc (strV s.keys), Row 3 1 s.nA s.needs.length s.nc (intV s.needs)]
def stepsC (L : List St) : List Value := L.flatMap St.vs
/-- a definition in memory of its own -/
def OwnP (d : Df) : HP := sep [Row 35 5 d.A d.steps.length d.c (stepsC d.steps), sep (d.steps.map stP)]
theorem stepsC_len (L : List St) : (stepsC L).length = L.length * 5 := by
  induction L with
  | nil => rfl
  | cons s L ih =>
    unfold stepsC at ih ⊢
    rw [List.flatMap_cons, List.length_append, ih, List.length_cons]
    show 5 + _ = _
    omega
theorem stepsC_snoc (L : List St) (s : St) : stepsC (L ++ [s]) = stepsC L ++ s.vs := by
  unfold stepsC
  rw [List.flatMap_append]
  simp
theorem strV_one (l : List ByteArray) : ∀ u ∈ strV l, u.oneCell' = true := by
  intro u hu
  unfold strV at hu
  rw [List.mem_map] at hu
  obtain ⟨b, _, rfl⟩ := hu
  rfl
theorem intV_one (l : List Int) : ∀ u ∈ intV l, u.oneCell' = true := by
  intro u hu
  unfold intV at hu
  rw [List.mem_map] at hu
  obtain ⟨b, _, rfl⟩ := hu
  rfl
theorem vs_one (s : St) : ∀ u ∈ s.vs, u.oneCell' = true := by
  intro u hu
  unfold St.vs at hu
  simp only [List.mem_cons, List.not_mem_nil, or_false] at hu
  rcases hu with rfl | rfl | rfl | rfl | rfl <;> rfl
theorem infoS : (Tryd.prog.info? 9).map (fun i => (i.zero, i.size, i.bytes)) = some (some (.string ⟨#[]⟩), 1, 16) := by kernel_rfl
theorem infoI : (Tryd.prog.info? 3).map (fun i => (i.zero, i.size, i.bytes)) = some (some (.int .i64 0), 1, 8) := by kernel_rfl
theorem infoSt : (Tryd.prog.info? 35).map (fun i => (i.zero, i.size, i.bytes)) = some (some (.agg #[.string ⟨#[]⟩, .int .i64 0, .int .i64 0, .slice none 0 0, .slice none 0 0]), 5, 80) := by kernel_rfl
/-- what is read of a slice of texts or of numbers -/
theorem rd_of {α : Type} {w : World} {f : α → Value} {l : List α} {A : Option Addr} {c : Nat} (h : Elems w (.slice A l.length c) 1 (l.map fun x => [f x])) : Rd w A l.length 1 (l.map f) := by
  refine ⟨by rw [List.length_map, Nat.mul_one], fun j u hu => ?_⟩
  have hj : j < l.length := by
    have := (List.getElem?_eq_some_iff.1 hu).1
    rwa [List.length_map] at this
  obtain ⟨b, o, e, hc⟩ := ones_cells (f := f) h (by omega)
  refine ⟨_, e, ?_⟩
  have e2 : (⟨b, o, none⟩ : Addr).add j = ⟨b, o + j, none⟩ := by unfold Addr.add; split <;> simp_all
  rw [e2, hc j hj]
  rw [List.getElem?_map, List.getElem?_eq_getElem hj] at hu
  exact hu
theorem cell_alloc {w : World} {p : Addr} {v : Value} (o : Obj) (h : w.cell? p = some v) : (w.alloc o).cell? p = some v := old_cell ((Below.refl _ _).alloc (Nat.le_refl _) o) h
theorem Sat.snocP {w0 w : World} {M L : List HP} {X : HP} (h : Sat w0 w (sep M :: X :: L)) : Sat w0 w (sep (M ++ [X]) :: L) := Sat.close (by rw [List.append_assoc]; exact h.open_)
/-- what a call leaves, seen from further back -/
theorem Splits.frame {w : World} {L : List HP} (hL : Splits (hp w) L) : ∀ (X : List HP) (h : Hp), Splits h (X ++ [Old w]) → Splits h (X ++ L)
  | [], h, ⟨h1, h2, l1, l2, d, a, s⟩ => by
    have hle : Hp.le (hp w) h1 := fun g o e => by
      have hg : g < w.heap.size := (Array.getElem?_eq_some_iff.1 e).1
      rw [show h1 g = w.heap[g]? from a g hg]
      exact e
    exact hL.mono (hle.trans l1)
  | A :: X, h, ⟨h1, h2, l1, l2, d, a, s⟩ => ⟨h1, h2, l1, l2, d, a, Splits.frame hL X h2 s⟩
theorem Sat.frame {w0 w w' : World} {L X : List HP} (h : Sat w0 w L) (h2 : Sat w w' (X ++ [Old w])) : Sat w0 w' (X ++ L) :=
  ⟨h2.os.trans h.os, h2.tape.trans h.tape, h2.output.trans h.output, Nat.le_trans h.size h2.size, Splits.frame h.own X _ h2.own⟩
/-- what a definition of its own gives to read -/
theorem Sat.ownStep {w0 w : World} {F : List HP} {s : St} (h : Sat w0 w (stP s :: F)) (hk : wf64 s.kind) (hp : wf64 s.part) (hn : ∀ n ∈ s.needs, wf64 n) (h0 : s.name.size ≤ 9223372036854775807) (h1 : ∀ k ∈ s.keys, k.size ≤ 9223372036854775807) : StAt w s := by
  have h2 : Sat w0 w (Row 9 1 s.kA s.keys.length s.kc (strV s.keys) :: Row 3 1 s.nA s.needs.length s.nc (intV s.needs) :: F) := h.open_
  refine ⟨elems_row h2 (s.keys.map strC) ?_ (by simp) (fun x hx => ?_) (by decide), elems_row h2.r2 (s.needs.map intC) ?_ (by simp) (fun x hx => ?_) (by decide), hk, hp, hn, h0, h1⟩
  · unfold strV strC
    induction s.keys with
    | nil => rfl
    | cons k l ih => simp_all
  · obtain ⟨b, _, rfl⟩ := List.mem_map.1 hx; rfl
  · unfold intV intC
    induction s.needs with
    | nil => rfl
    | cons k l ih => simp_all
  · obtain ⟨b, _, rfl⟩ := List.mem_map.1 hx; rfl
theorem Sat.pickP {w0 w : World} {L : List HP} {P : HP} (hm : P ∈ L) {F : List HP} (h : Sat w0 w (sep L :: F)) : ∃ F', Sat w0 w (P :: F') := by
  obtain ⟨L1, L2, rfl⟩ := List.append_of_mem hm
  have h2 := h.open_
  refine ⟨L1 ++ L2 ++ F, h2.perm ?_⟩
  rw [List.append_assoc, List.cons_append, List.append_assoc]
  exact List.perm_middle
theorem mem_core {a d : Df} (h : Like a d) {s : St} (hs : s ∈ a.steps) : ∃ t ∈ d.steps, t.core = s.core := by
  have : s.core ∈ a.steps.map St.core := List.mem_map.2 ⟨s, hs, rfl⟩
  rw [h.steps] at this
  obtain ⟨t, ht, e⟩ := List.mem_map.1 this
  exact ⟨t, ht, e⟩
theorem Sat.ownDef {w0 w : World} {F : List HP} {D d : Df} (h : Sat w0 w (OwnP D :: F)) (hl : Like D d) {W : World} (hd : DefAt W d) : DefAt w D := by
  have h2 : Sat w0 w (Row 35 5 D.A D.steps.length D.c (stepsC D.steps) :: sep (D.steps.map stP) :: F) := h.open_
  refine ⟨elems_row h2 (D.steps.map St.vs) ?_ (by simp) (fun x hx => ?_) (by decide), fun s hs => ?_, by rw [hl.name]; exact hd.name⟩
  · unfold stepsC
    rw [List.flatMap_def]
  · obtain ⟨b, _, rfl⟩ := List.mem_map.1 hx; rfl
  · obtain ⟨F', hF⟩ := h2.r2.pickP (List.mem_map.2 ⟨s, hs, rfl⟩)
    obtain ⟨t, ht, e⟩ := mem_core hl hs
    have hT := hd.each t ht
    injection e with e1 e2 e3 e4 e5
    refine hF.ownStep ?_ ?_ ?_ ?_ ?_
    · rw [← e2]; exact hT.kind
    · rw [← e3]; exact hT.part
    · rw [← e5]; exact hT.need
    · rw [← e1]; exact hT.name
    · rw [← e4]; exact hT.key
theorem Like.fits {a d : Df} (h : Like a d) (hf : Fits d) : Fits a := by
  have hc : ∀ s ∈ a.steps, ∃ t ∈ d.steps, t.name = s.name ∧ t.keys = s.keys ∧ t.needs = s.needs := fun s hs => by
    obtain ⟨t, ht, e⟩ := mem_core h hs
    injection e with e1 e2 e3 e4 e5
    exact ⟨t, ht, e1, e4, e5⟩
  refine ⟨by rw [h.name]; exact hf.name, fun s hs => ?_, fun s hs => ?_, fun s hs => ?_, fun s hs => ?_, by rw [h.len]; exact hf.steps⟩ <;> obtain ⟨t, ht, e1, e2, e3⟩ := hc s hs
  · rw [← e1]; exact hf.names t ht
  · rw [← e2]; exact hf.keys t ht
  · rw [← e3]; exact hf.needs t ht
  · rw [← e2]; exact hf.keyn t ht
end Go.Proofs.YtpmoanjeoaeabaaDoor
end

section
/- What a definition costs: plain. -/
set_option linter.unusedVariables false
set_option linter.unusedSimpArgs false
set_option linter.unnecessarySimpa false
set_option maxRecDepth 100000
namespace Go.Proofs.YtpmoanjeoaeabaaDoor
open Go.RowKit Go.ChangeShapes Go.WideShapes Go.ChangeAt
/-- records of a step at its participant -/
def ownK (k : Int) : Nat := if k = 1 then 2 else 1
theorem ownK_pos (k : Int) : 1 ≤ ownK k ∧ ownK k ≤ 2 := by unfold ownK; split <;> omega
/-- what the first k steps cost at participant p -/
def cpTo (d : Df) : Nat → Nat → Nat
  | 0, _ => 0
  | k + 1, p => if partAt d k = p then (if cpTo d k p = 0 then 1 else cpTo d k p) + ownK (kindAt d k) else cpTo d k p
/-- without the end -/
def smTo (d : Df) : Nat → Nat → Nat
  | 0, _ => 0
  | k + 1, p => smTo d k p + if partAt d k = p then ownK (kindAt d k) else 0
def hasTo (d : Df) (k p : Nat) : Bool := (List.range k).any fun j => decide (partAt d j = p)
def sumO (d : Df) : Nat → Nat
  | 0 => 0
  | k + 1 => sumO d k + (ownK (kindAt d k) + 1)
def namedL (d : Df) : List Int := ((List.range 4).filter fun p => decide (0 < cpTo d d.steps.length p)).map fun p : Nat => (p : Int)
/-- the named ones among the first p -/
def namedTo (d : Df) (p : Nat) : List Int := ((List.range p).filter fun p => decide (0 < cpTo d d.steps.length p)).map fun p : Nat => (p : Int)
theorem hasTo_next (d : Df) (k p : Nat) : hasTo d (k + 1) p = (hasTo d k p || decide (partAt d k = p)) := by
  unfold hasTo
  rw [List.range_succ, List.any_append]
  simp
theorem sm_zero (d : Df) (p : Nat) : ∀ k, hasTo d k p = false → smTo d k p = 0
  | 0, _ => rfl
  | k + 1, hh => by
    rw [hasTo_next] at hh
    have h1 := (Bool.or_eq_false_iff.1 hh).1
    have h2 := of_decide_eq_false (Bool.or_eq_false_iff.1 hh).2
    show smTo d k p + (if _ then _ else _) = 0
    rw [if_neg h2, sm_zero d p k h1]
theorem cp_sm (d : Df) (p : Nat) : ∀ k, cpTo d k p = if hasTo d k p then 1 + smTo d k p else 0
  | 0 => by simp [cpTo, hasTo]
  | k + 1 => by
    have ih := cp_sm d p k
    have h0 := ownK_pos (kindAt d k)
    rw [hasTo_next]
    show (if partAt d k = p then (if cpTo d k p = 0 then 1 else cpTo d k p) + ownK (kindAt d k) else cpTo d k p) = if _ then 1 + (smTo d k p + if partAt d k = p then ownK (kindAt d k) else 0) else 0
    by_cases h : partAt d k = p
    · rw [if_pos h, if_pos h, decide_eq_true h, Bool.or_true, if_pos rfl]
      cases hh : hasTo d k p with
      | true =>
        rw [hh, if_pos rfl] at ih
        rw [ih, if_neg (by omega)]
        omega
      | false =>
        rw [hh] at ih
        have ih' : cpTo d k p = 0 := by simpa using ih
        have hs : smTo d k p = 0 := sm_zero d p k hh
        rw [ih', if_pos rfl, hs]
        omega
    · rw [if_neg h, if_neg h, decide_eq_false h, Bool.or_false, Nat.add_zero]
      exact ih
theorem has_cp (d : Df) (k p : Nat) : hasTo d k p = decide (0 < cpTo d k p) := by
  rw [cp_sm]
  cases hasTo d k p with
  | true => exact (decide_eq_true (by simp; omega)).symm
  | false => rfl
/-- the document's way: the named ones begin with one -/
theorem cp_end (d : Df) (k p : Nat) : (if 0 < cpTo d k p then 1 else 0) + smTo d k p = cpTo d k p := by
  have h := cp_sm d p k
  cases hh : hasTo d k p with
  | true =>
    rw [hh, if_pos rfl] at h
    rw [if_pos (by omega)]
    omega
  | false =>
    have hs := sm_zero d p k hh
    rw [hh] at h
    have h' : cpTo d k p = 0 := by simpa using h
    rw [h', hs]
    rfl
theorem cp_top (d : Df) (p : Nat) : ∀ k, cpTo d k p ≤ 3 * k
  | 0 => Nat.le_refl _
  | k + 1 => by
    have ih := cp_top d p k
    have h0 := ownK_pos (kindAt d k)
    show (if partAt d k = p then (if cpTo d k p = 0 then 1 else cpTo d k p) + ownK (kindAt d k) else cpTo d k p) ≤ _
    by_cases h1 : partAt d k = p
    · rw [if_pos h1]
      by_cases h2 : cpTo d k p = 0
      · rw [if_pos h2]; omega
      · rw [if_neg h2]; omega
    · rw [if_neg h1]; omega
theorem sm_top (d : Df) (p : Nat) : ∀ k, smTo d k p ≤ 3 * k
  | 0 => Nat.le_refl _
  | k + 1 => by
    have ih := sm_top d p k
    have h0 := ownK_pos (kindAt d k)
    show smTo d k p + (if _ then _ else _) ≤ _
    split <;> omega
theorem sumO_top (d : Df) : ∀ k, sumO d k ≤ 3 * k
  | 0 => Nat.le_refl _
  | k + 1 => by
    have ih := sumO_top d k
    have h0 := ownK_pos (kindAt d k)
    show sumO d k + (_ + 1) ≤ _
    omega
theorem named_len (d : Df) : (namedL d).length ≤ 4 := by
  unfold namedL
  rw [List.length_map]
  exact Nat.le_trans (List.length_filter_le _ _) (by simp)
theorem namedTo_len (d : Df) (p : Nat) : (namedTo d p).length ≤ p := by
  unfold namedTo
  rw [List.length_map]
  exact Nat.le_trans (List.length_filter_le _ _) (by simp)
theorem namedTo_next (d : Df) (p : Nat) : namedTo d (p + 1) = if 0 < cpTo d d.steps.length p then namedTo d p ++ [(p : Int)] else namedTo d p := by
  unfold namedTo
  rw [List.range_succ, List.filter_append, List.map_append]
  by_cases h : 0 < cpTo d d.steps.length p
  · rw [if_pos h]
    simp [h]
  · rw [if_neg h]
    simp [h]
theorem named_in (d : Df) : ∀ x ∈ namedL d, ∃ p : Nat, p < 4 ∧ x = p := by
  intro x hx
  unfold namedL at hx
  obtain ⟨p, hp, rfl⟩ := List.mem_map.1 hx
  exact ⟨p, by simpa using (List.mem_filter.1 hp).1, rfl⟩
section
variable {a d : Df}
theorem Like.cpTos (h : Like a d) (p : Nat) : ∀ k, cpTo a k p = cpTo d k p
  | 0 => rfl
  | k + 1 => by
    have ih := Like.cpTos h p k
    show (if _ then (if cpTo a k p = 0 then 1 else cpTo a k p) + _ else cpTo a k p) = if _ then (if cpTo d k p = 0 then 1 else cpTo d k p) + _ else cpTo d k p
    rw [ih, h.partAt, h.kindAt]
theorem Like.sumOs (h : Like a d) : ∀ k, sumO a k = sumO d k
  | 0 => rfl
  | k + 1 => by
    have ih := Like.sumOs h k
    show sumO a k + _ = sumO d k + _
    rw [ih, h.kindAt]
theorem Like.named (h : Like a d) : namedL a = namedL d := by
  unfold namedL
  rw [h.len]
  simp only [h.cpTos]
/-- parts are participants, where nothing is wrong -/
theorem Clean.parts (h : Clean d) : ∀ k, k < d.steps.length → ∃ p : Nat, p < 4 ∧ partAt d k = p := fun k hk => by
  obtain ⟨_, _, _, h4, _⟩ := bad_no (h.alone k hk)
  exact ⟨(partAt d k).toNat, by omega, by omega⟩
theorem Clean.named_pos (h : Clean d) : 0 < cpTo d d.steps.length (partAt d 0).toNat := by
  have h1 : hasTo d d.steps.length (partAt d 0).toNat = true := by
    unfold hasTo
    rw [List.any_eq_true]
    refine ⟨0, by have := h.pos; simp; omega, decide_eq_true ?_⟩
    obtain ⟨p, hp, e⟩ := h.parts 0 (by have := h.pos; omega)
    rw [e]
    rfl
  rw [has_cp] at h1
  exact of_decide_eq_true h1
end
open Classical in
theorem held_no {d : Df} {key : ByteArray} : heldB d key = false ↔ ¬ ∃ q, q < d.steps.length ∧ kindAt d q ≠ 3 ∧ key ∈ keysAt d q := by
  unfold heldB foundTo
  exact ⟨fun h => of_decide_eq_false h, fun h => decide_eq_false h⟩
/-- a definition with one retriable step more, at its end -/
def zName : ByteArray := ⟨#[122, 122, 122, 122, 122, 122, 122, 122]⟩
structure More (m d : Df) (p : Int) : Prop where
  name : m.name = d.name
  steps : m.steps.map St.core = d.steps.map St.core ++ [⟨zName, 3, p, [], []⟩]
section
variable {m d : Df} {p : Int}
theorem More.len (h : More m d p) : m.steps.length = d.steps.length + 1 := by
  have := congrArg List.length h.steps
  simpa using this
theorem More.core (h : More m d p) (k : Nat) : coreAt m k = if k = d.steps.length then ⟨zName, 3, p, [], []⟩ else coreAt d k := by
  unfold coreAt
  rw [h.steps, List.getD_eq_getElem?_getD, List.getElem?_append, List.length_map]
  by_cases h1 : k < d.steps.length
  · rw [if_pos h1, if_neg (by omega), List.getD_eq_getElem?_getD]
  · rw [if_neg h1]
    by_cases h2 : k = d.steps.length
    · subst h2
      simp
    · rw [if_neg h2, List.getD_eq_getElem?_getD, List.getElem?_eq_none (by simp; omega), List.getElem?_eq_none (by simp; omega)]
theorem More.nameAts (h : More m d p) (k : Nat) : nameAt m k = if k = d.steps.length then zName else nameAt d k := by rw [nameAt_core, nameAt_core, h.core]; split <;> rfl
theorem More.kindAts (h : More m d p) (k : Nat) : kindAt m k = if k = d.steps.length then 3 else kindAt d k := by rw [kindAt_core, kindAt_core, h.core]; split <;> rfl
theorem More.partAts (h : More m d p) (k : Nat) : partAt m k = if k = d.steps.length then p else partAt d k := by rw [partAt_core, partAt_core, h.core]; split <;> rfl
theorem More.keysAts (h : More m d p) (k : Nat) : keysAt m k = if k = d.steps.length then [] else keysAt d k := by rw [keysAt_core, keysAt_core, h.core]; split <;> rfl
theorem More.needsAts (h : More m d p) (k : Nat) : needsAt m k = if k = d.steps.length then [] else needsAt d k := by rw [needsAt_core, needsAt_core, h.core]; split <;> rfl
theorem needsAt_far (d : Df) {k : Nat} (h : d.steps.length ≤ k) : needsAt d k = [] := by
  unfold needsAt
  rw [List.getD_eq_getElem?_getD, List.getElem?_eq_none h]
  rfl
theorem More.needs (h : More m d p) (k : Nat) : needsAt m k = needsAt d k := by
  rw [h.needsAts]
  split
  · rename_i e; subst e; exact (needsAt_far d (Nat.le_refl _)).symm
  · rfl
theorem More.pivTos (h : More m d p) : ∀ k, k ≤ d.steps.length → pivTo m k = pivTo d k
  | 0, _ => rfl
  | k + 1, hk => by
    have ih := More.pivTos h k (by omega)
    show pivTo m k + _ = pivTo d k + _
    rw [ih, h.kindAts, if_neg (show ¬ k = d.steps.length by omega)]
theorem More.clean (h : More m d p) (hc : Clean d) (h8 : d.steps.length ≠ 8) (hp : 0 ≤ p ∧ p ≤ 3) (hz : ∀ k, k < d.steps.length → nameAt d k ≠ zName) : Clean m := by
  have hl := h.len
  have hm := hc.most
  have hal : ∀ j, j < m.steps.length → badB m j = false := fun j hj => by
    by_cases e : j = d.steps.length
    · subst e
      have t : twiceB m d.steps.length = false := decide_eq_false fun ⟨k, hk, g⟩ => by
        rw [h.nameAts, h.nameAts, if_pos rfl, if_neg (by omega)] at g
        exact hz k hk g
      refine decide_eq_false (fun g => g ?_)
      unfold aloneE
      rw [t, h.nameAts, h.kindAts, h.partAts, h.keysAts, h.needsAts, if_pos rfl, if_pos rfl, if_pos rfl, if_pos rfl, if_pos rfl]
      have e1 : isN zName = true := by kernel_rfl
      have e2 : keysB [] p = true := decide_eq_true ⟨Nat.zero_le _, fun k hk => absurd hk (Nat.not_lt_zero _)⟩
      have e3 : needsB [] d.steps.length m.steps.length = true := decide_eq_true fun k hk => absurd hk (Nat.not_lt_zero _)
      rw [e1, e2, e3, if_neg (by decide), if_neg (by decide), if_neg (by decide), if_neg (by omega), if_neg (by decide), if_neg (by decide)]
    · have hj2 : j < d.steps.length := by omega
      have h0 : aloneE d j = 0 := by simpa using of_decide_eq_false (hc.alone j hj2)
      obtain ⟨b1, b2, b3, b4, b5, b6⟩ := bad_no (hc.alone j hj2)
      have t : twiceB m j = twiceB d j := by
        unfold twiceB
        refine decide_eq_decide.2 ⟨fun ⟨k, hk, g⟩ => ⟨k, hk, ?_⟩, fun ⟨k, hk, g⟩ => ⟨k, hk, ?_⟩⟩
        · rwa [h.nameAts, h.nameAts, if_neg (by omega), if_neg (by omega)] at g
        · rwa [h.nameAts, h.nameAts, if_neg (by omega), if_neg (by omega)]
      have hn : needsB (needsAt m j) j m.steps.length = true := by
        rw [h.needs]
        refine decide_eq_true fun k hk => ?_
        have := (of_decide_eq_true b6) k hk
        exact ⟨this.1, by have := this.2.1; omega, this.2.2⟩
      refine decide_eq_false (fun g => g ?_)
      unfold aloneE at h0 ⊢
      rw [t, h.nameAts, h.kindAts, h.partAts, h.keysAts, if_neg e, if_neg e, if_neg e, if_neg e, hn]
      rw [b6] at h0
      exact h0
  have hnd : NeedIn m := needIn_of hal
  have hne : needN m = needN d := by funext k; unfold needN; rw [h.needs]
  refine ⟨by omega, by omega, hal, fun j hj => ?_, fun j hj => ?_, fun j hj => ?_, fun j hj => ?_⟩
  · unfold pivB
    refine decide_eq_false ?_
    have hx := hc.pivs d.steps.length (Nat.le_refl _)
    by_cases e : j = d.steps.length
    · subst e
      show ¬ 1 < pivTo m d.steps.length + _
      rw [h.pivTos _ (Nat.le_refl _), h.kindAts, if_pos rfl, if_neg (by decide)]
      omega
    · rw [h.pivTos _ (by omega)]
      have := hc.pivs (j + 1) (by omega)
      omega
  · refine decide_eq_false ?_
    rintro ⟨h3, n, hn, hk⟩
    rw [h.needs] at hn
    by_cases e : j = d.steps.length
    · subst e
      rw [needsAt_far d (Nat.le_refl _)] at hn
      cases hn
    · have hj2 : j < d.steps.length := by omega
      have hin := hc.need j hj2 n hn
      rw [h.kindAts, if_neg e] at h3
      rw [h.kindAts, if_neg (by omega)] at hk
      exact hk (hc.kinds hj2 hn h3)
  · cases hr : ringB m j with
    | false => rfl
    | true =>
      have h1 := (ringB_iff hnd j).1 hr
      rw [hne] at h1
      by_cases e : j = d.steps.length
      · subst e
        exfalso
        have hnil : needN d d.steps.length = [] := by unfold needN; rw [needsAt_far d (Nat.le_refl _)]; rfl
        have : ∀ x, ¬ Reach (needN d) d.steps.length x := fun x hx => by
          induction hx with
          | one hx => rw [hnil] at hx; cases hx
          | step _ _ ih => exact ih
        exact this _ h1
      · have h3 := hc.ring j (by omega)
        rw [(ringB_iff hc.need j).2 h1] at h3
        cases h3
  · refine decide_eq_false ?_
    rintro ⟨h3, key, hm2, hk⟩
    rw [h.keysAts] at hm2
    by_cases e : j = d.steps.length
    · rw [if_pos e] at hm2; cases hm2
    · rw [if_neg e] at hm2
      rw [h.kindAts, if_neg e] at h3
      have h4 := of_decide_eq_false (hc.loose j (by omega))
      apply h4
      refine ⟨h3, key, hm2, ?_⟩
      have h5 := held_no.1 hk
      refine held_no.2 ?_
      rintro ⟨q, hq, hq3, hqk⟩
      exact h5 ⟨q, by omega, by rw [h.kindAts, if_neg (by omega)]; exact hq3, by rw [h.keysAts, if_neg (by omega)]; exact hqk⟩
theorem More.cpTos (h : More m d p) (x : Nat) : ∀ k, k ≤ d.steps.length → cpTo m k x = cpTo d k x
  | 0, _ => rfl
  | k + 1, hk => by
    have ih := More.cpTos h x k (by omega)
    show (if _ then (if cpTo m k x = 0 then 1 else cpTo m k x) + _ else cpTo m k x) = if _ then (if cpTo d k x = 0 then 1 else cpTo d k x) + _ else cpTo d k x
    rw [ih, h.partAts, h.kindAts, if_neg (show ¬ k = d.steps.length by omega), if_neg (show ¬ k = d.steps.length by omega)]
theorem More.sumOs (h : More m d p) : ∀ k, k ≤ d.steps.length → sumO m k = sumO d k
  | 0, _ => rfl
  | k + 1, hk => by
    have ih := More.sumOs h k (by omega)
    show sumO m k + _ = sumO d k + _
    rw [ih, h.kindAts, if_neg (show ¬ k = d.steps.length by omega)]
theorem More.cp (h : More m d p) (x : Nat) : cpTo d d.steps.length x ≤ cpTo m m.steps.length x ∧ (p = x → cpTo d d.steps.length x < cpTo m m.steps.length x) := by
  rw [h.len]
  have e : cpTo m (d.steps.length + 1) x = if partAt m d.steps.length = x then (if cpTo m d.steps.length x = 0 then 1 else cpTo m d.steps.length x) + ownK (kindAt m d.steps.length) else cpTo m d.steps.length x := rfl
  have h0 := ownK_pos (kindAt m d.steps.length)
  rw [e, h.cpTos x _ (Nat.le_refl _), h.partAts, if_pos rfl]
  by_cases hp : p = x
  · rw [if_pos hp]
    refine ⟨?_, fun _ => ?_⟩ <;> split <;> omega
  · rw [if_neg hp]
    exact ⟨Nat.le_refl _, fun g => absurd g hp⟩
theorem More.orch (h : More m d p) : 3 + (namedL d).length + sumO d d.steps.length < 3 + (namedL m).length + sumO m m.steps.length := by
  have h1 : sumO m m.steps.length = sumO d d.steps.length + 2 := by
    rw [h.len]
    show sumO m d.steps.length + (ownK (kindAt m d.steps.length) + 1) = _
    rw [h.sumOs _ (Nat.le_refl _), h.kindAts, if_pos rfl]
    rfl
  have h2 : (namedL d).length ≤ (namedL m).length := by
    unfold namedL
    rw [List.length_map, List.length_map, ← List.countP_eq_length_filter, ← List.countP_eq_length_filter]
    refine List.countP_mono_left fun x _ hx => ?_
    have := (h.cp x).1
    have hx2 := of_decide_eq_true hx
    exact decide_eq_true (by omega)
  omega
end
end Go.Proofs.YtpmoanjeoaeabaaDoor
end

section
/- Results that lie in cells: definitions, costs. -/
set_option linter.unusedVariables false
set_option linter.unusedSimpArgs false
set_option linter.unnecessarySimpa false
set_option maxRecDepth 100000
namespace Go.Proofs.YtpmoanjeoaeabaaDoor
open Go.RowKit Go.ChangeShapes Go.WideShapes Go.ChangeAt
theorem u24 : Tryd.prog.underlying 24 = some (((Tryd.prog.underlying 24).getD (.struct #[]))) := by kernel_rfl
theorem d24 : (match (Tryd.prog.underlying 24).getD (.struct #[]) with | .struct _ | .array _ _ => true | _ => false) = true := by kernel_rfl
theorem i24 : (Tryd.prog.info? 24).map (·.size) = some 2 := by kernel_rfl
theorem u38 : Tryd.prog.underlying 38 = some (((Tryd.prog.underlying 38).getD (.struct #[]))) := by kernel_rfl
theorem d38 : (match (Tryd.prog.underlying 38).getD (.struct #[]) with | .struct _ | .array _ _ => true | _ => false) = true := by kernel_rfl
theorem i38 : (Tryd.prog.info? 38).map (·.size) = some 4 := by kernel_rfl
theorem u40 : Tryd.prog.underlying 40 = some (((Tryd.prog.underlying 40).getD (.struct #[]))) := by kernel_rfl
theorem d40 : (match (Tryd.prog.underlying 40).getD (.struct #[]) with | .struct _ | .array _ _ => true | _ => false) = true := by kernel_rfl
theorem i40 : (Tryd.prog.info? 40).map (·.size) = some 5 := by kernel_rfl
section
variable {w0 w : World} {F : List HP} {fn : Func} {g : Nat} {tmps : Array Value}
theorem res24 {a b : Value} (hr : fn.results = #[.cell 2 24]) (h : Sat w0 w (Blk g 24 [a, b] :: F)) (hp : tmps.getD 2 undef = .pointer (some ⟨g, 0, none⟩)) : (results fn tmps).run Tryd.prog w = .ok (.agg #[a, b]) w :=
  results_cell_row hr tmps w g 24 #[a, b] (0, 0) _ hp h.blk u24 d24 i24
theorem res38 {a b c d : Value} (hr : fn.results = #[.cell 2 38]) (h : Sat w0 w (Blk g 38 [a, b, c, d] :: F)) (hp : tmps.getD 2 undef = .pointer (some ⟨g, 0, none⟩)) : (results fn tmps).run Tryd.prog w = .ok (.agg #[a, b, c, d]) w :=
  results_cell_row hr tmps w g 38 #[a, b, c, d] (0, 0) _ hp h.blk u38 d38 i38
theorem res40 {o a b c d : Value} (hr : fn.results = #[.cell 2 40, .tmp 3]) (h : Sat w0 w (Blk g 40 [o, a, b, c, d] :: F)) (hp : tmps.getD 2 undef = .pointer (some ⟨g, 0, none⟩)) :
    (results fn tmps).run Tryd.prog w = .ok (.tuple #[.agg #[o, a, b, c, d], tmps.getD 3 undef]) w := by
  rw [results_cell_tmp hr, hp]
  simp only [asAddr, Sem.run_pure, Result.andThen_ok]
  rw [run_loadVar_row w g 40 40 #[o, a, b, c, d] (0, 0) _ h.blk u40 d40 i40]
  rfl
end
end Go.Proofs.YtpmoanjeoaeabaaDoor
end

section
/- A slice of one step, written out: a rule of its own (the walk's own steps there are too long to be checked again). -/
set_option linter.unusedVariables false
set_option linter.unusedSimpArgs false
set_option linter.unnecessarySimpa false
set_option maxRecDepth 100000
namespace Go.Proofs.YtpmoanjeoaeabaaDoor
open Go.RowKit Go.ChangeShapes Go.WideShapes Go.ChangeAt
theorem run_bs35 (w : World) (v0 v1 v2 v3 v4 : Value) : (Instr.buildSlice 22 1 #[(0, .agg #[v0, v1, v2, v3, v4])]).run Tryd.prog w = .ok (.slice (some ⟨w.heap.size, 0, none⟩) 1 1) (w.alloc (.cells #[v0, v1, v2, v3, v4] 35)) := by
  kernel_rfl
theorem wp_bs35 {w : World} {o : Oper} {a : Act} {K : Act → World → Prop} {Q : Exit → Act → World → Prop} (t : Tmp) (ho : o.op = .buildSlice 22 1 #[(0, .tmp t)]) (v0 v1 v2 v3 v4 : Value)
    (hv : a.eval (.tmp t) = .agg #[v0, v1, v2, v3, v4]) (h : K (a.put o.dst (.slice (some ⟨w.heap.size, 0, none⟩) 1 1)) (w.alloc (.cells #[v0, v1, v2, v3, v4] 35))) : o.wp Tryd.prog a w K Q := by
  unfold Oper.wp execOp
  have := run_bs35 w v0 v1 v2 v3 v4
  simp only [ho, resolve, Sem.run_bind, Sem.run_pure, Result.andThen_ok, List.map_toArray, List.map_cons, List.map_nil, hv, this]
  exact h
theorem wpList_bs35 {w : World} {ops : Array Oper} {rest : List Oper} {o : Oper} {a : Act} {Q : Exit → Act → World → Prop} (hgd : o.guard = none) (t : Tmp) (ho : o.op = .buildSlice 22 1 #[(0, .tmp t)]) (v0 v1 v2 v3 v4 : Value)
    (hv : a.eval (.tmp t) = .agg #[v0, v1, v2, v3, v4]) (h : wpList Tryd.prog ops Q rest (a.put o.dst (.slice (some ⟨w.heap.size, 0, none⟩) 1 1)) (w.alloc (.cells #[v0, v1, v2, v3, v4] 35))) : wpList Tryd.prog ops Q (o :: rest) a w :=
  wpList_plain hgd fun _ hK => wp_bs35 t ho v0 v1 v2 v3 v4 hv (hK _ _ h)
end Go.Proofs.YtpmoanjeoaeabaaDoor
end
