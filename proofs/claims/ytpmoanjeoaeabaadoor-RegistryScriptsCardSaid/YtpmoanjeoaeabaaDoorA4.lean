import Derived.Test.YtpmoanjeoaeabaaDoorA3
import Derived.Test.YtpmoanjeoaeabaaDoorA1
import Derived.Maps.OwnOps
import Derived.Maps.Views
section
/- The program's alone: what is wrong with a step by itself. -/
set_option linter.unusedVariables false
set_option linter.unusedSimpArgs false
set_option linter.unnecessarySimpa false
set_option maxRecDepth 100000
namespace Go.Proofs.YtpmoanjeoaeabaaDoor
open Go.RowKit Go.ChangeShapes Go.WideShapes Go.ChangeAt
/-- a call that leaves all that was there as it was -/
def Quietly (w : World) (v : Value) (e : Ending) (w' : World) : Prop := e = .returned v ∧ Below w.heap.size w w'
/-- the first place at which something holds; n if there is none -/
def fstI (n : Nat) (p : Nat → Bool) : Nat := (List.range n).findIdx p
theorem fst_hit {n k : Nat} {p : Nat → Bool} (hk : k < n) (h : p k = true) (ha : ∀ j, j < k → p j = false) : fstI n p = k := by
  unfold fstI
  have hl : k < (List.range n).length := by rw [List.length_range]; exact hk
  rw [List.findIdx_eq hl]
  refine ⟨by rw [List.getElem_range]; exact h, fun j hj => ?_⟩
  rw [List.getElem_range]
  exact ha j hj
theorem fst_none {n : Nat} {p : Nat → Bool} (ha : ∀ j, j < n → p j = false) : fstI n p = n := by
  unfold fstI
  have : (List.range n).findIdx p = (List.range n).length := by
    rw [List.findIdx_eq_length]
    intro x hx
    exact ha x (List.mem_range.1 hx)
  rw [this, List.length_range]
theorem fst_le (n : Nat) (p : Nat → Bool) : fstI n p ≤ n := by
  unfold fstI
  have : (List.range n).findIdx p ≤ (List.range n).length := List.findIdx_le_length
  rwa [List.length_range] at this
theorem fst_is {n : Nat} {p : Nat → Bool} (h : fstI n p < n) : p (fstI n p) = true := by
  unfold fstI at h ⊢
  have hl : (List.range n).findIdx p < (List.range n).length := by rw [List.length_range]; exact h
  have := List.findIdx_getElem (w := hl)
  rwa [List.getElem_range] at this
theorem fst_no {n j : Nat} {p : Nat → Bool} (h : j < fstI n p) : p j = false := by
  have hjn := Nat.lt_of_lt_of_le h (fst_le n p)
  unfold fstI at h
  have := List.not_of_lt_findIdx h
  rw [List.getElem_range] at this
  simpa using this
/-- what the search answers -/
def retI (n : Nat) (p : Nat → Bool) : Int := if fstI n p < n then fstI n p else -1
theorem ret_hit {n k : Nat} {p : Nat → Bool} (hk : k < n) (h : p k = true) (ha : ∀ j, j < k → p j = false) : retI n p = k := by
  unfold retI
  rw [fst_hit hk h ha, if_pos hk]
theorem ret_none {n : Nat} {p : Nat → Bool} (ha : ∀ j, j < n → p j = false) : retI n p = -1 := by
  unfold retI
  rw [fst_none ha, if_neg (Nat.lt_irrefl _)]
def SxRel (w : World) (n : Nat) (p : Nat → Bool) (i : Value) (wr : World) : Prop := ∃ k : Nat, k ≤ n ∧ i = .int .i64 k ∧ Below w.heap.size w wr ∧ ∀ j, j < k → p j = false
theorem step_at {w : World} (d : Df) (hD : DefAt w d) (k : Nat) (hk : k < d.steps.length) : ∃ b o, d.A = some ⟨b, o, none⟩ ∧
    w.cell? ⟨b, o + k * 5, none⟩ = some (.string d.steps[k].name) ∧ w.cell? ⟨b, o + k * 5 + 1, none⟩ = some (.int .i64 d.steps[k].kind) ∧ w.cell? ⟨b, o + k * 5 + 2, none⟩ = some (.int .i64 d.steps[k].part) ∧
    w.cell? ⟨b, o + k * 5 + 3, none⟩ = some (.slice d.steps[k].kA d.steps[k].keys.length d.steps[k].kc) ∧ w.cell? ⟨b, o + k * 5 + 4, none⟩ = some (.slice d.steps[k].nA d.steps[k].needs.length d.steps[k].nc) := by
  obtain ⟨b, o, e, hc⟩ := step_cells hD (by omega)
  exact ⟨b, o, e, hc k hk⟩
set_option maxHeartbeats 1600000 in
theorem index66 {w : World} (d : Df) (hD : DefAt w d) (n : Nat) (hn : n ≤ d.steps.length) (hm : d.steps.length ≤ 1000000000000000000) (cap : Array Value) (p : Nat → Bool)
    (hp : ∀ w1, Below w.heap.size w w1 → ∀ k (hk : k < d.steps.length), k < n → Calls Tryd.prog 66 (#[(d.steps[k]).v] ++ cap) w1 (Quietly w1 (.bool (p k)))) :
    Calls Tryd.prog 92 #[.slice d.A n d.c, .func (.func 66) #[] cap] w (Quietly w (.int .i64 (retI n p))) := by
  have HD := Lib.hid hD
  have HP := Lib.hid hp
  clear hp hD
  go_enter Tryd.func92, Tryd.ntmps92
  go_wp2_with fail
  go_loopw [8] (SxRel w n p) (fun i _ => n - (intOf i).toNat)
  case atStart => exact ⟨0, Nat.zero_le _, rfl, Below.refl _ w, fun j hj => absurd hj (Nat.not_lt_zero _)⟩
  case round =>
    obtain ⟨k, hk, rfl, hb, ha⟩ := hrel
    by_cases hlt : k < n
    · obtain ⟨g, o, hA, s0, s1, s2, s3, s4⟩ := step_at d (HD.out.keep hb) k (by omega)
      have HCL := Lib.hid (HP.out wr hb k (by omega) hlt)
      unfold St.v Quietly at HCL
      have HX : Hid (∀ b, p k = b → (b = true → retI n p = k) ∧ (b = false → ∀ j, j < k + 1 → p j = false)) := fun b hb => ⟨fun e => ret_hit hlt (hb.trans e) ha, fun e j hj => by
        by_cases hjk2 : j < k
        · exact ha j hjk2
        · obtain rfl : j = k := by omega
          exact hb.trans e⟩
      obtain ⟨b, hbb⟩ : ∃ b, p k = b := ⟨_, rfl⟩
      have HX2 := Lib.hid (HX.out b hbb)
      rw [hbb] at HCL
      obtain ⟨s, hs⟩ : ∃ x, d.steps[k] = x := ⟨_, rfl⟩
      rw [hs] at s0 s1 s2 s3 s4 HCL
      have HB := Lib.hid hb
      rw [hA]
      clear hb ha HX hbb hs HP
      cases b with
      | true =>
        have HF := Lib.hid (HX2.out.1 rfl)
        go_wp2_with fail
        refine HCL.out.mono ?_
        rintro e w' ⟨rfl, hb'⟩
        have HB2 := Lib.hid (below_step HB.out hb')
        clear hb'
        go_wp2_with fail
        go_ret
        exact ⟨by rw [HF.out]; rfl, HB2.out⟩
      | false =>
        have HF := Lib.hid (HX2.out.2 rfl)
        go_wp2_with fail
        refine HCL.out.mono ?_
        rintro e w' ⟨rfl, hb'⟩
        have HB2 := Lib.hid (below_step HB.out hb')
        clear hb'
        go_wp2_with fail
        go_roundw
        case rel => exact ⟨k + 1, by omega, by go_num, HB2.out, HF.out⟩
        case measure => simp [intOf]; omega
    · have HB := Lib.hid hb
      have HF := Lib.hid (ret_none (n := n) (p := p) fun j hj => ha j (by omega))
      clear hb ha
      go_wp2_with fail
      go_ret
      exact ⟨by rw [HF.out]; rfl, HB.out⟩
theorem ret_ge (n : Nat) (p : Nat → Bool) : decide (0 ≤ retI n p) = decide (∃ k, k < n ∧ p k = true) := by
  by_cases h : ∃ k, k < n ∧ p k = true
  · rw [decide_eq_true h]
    obtain ⟨k, hk, hp⟩ := h
    have : fstI n p < n := by
      rcases Nat.lt_or_ge (fstI n p) n with h2 | h2
      · exact h2
      · have h3 := fst_no (n := n) (p := p) (j := k) (by omega)
        rw [hp] at h3; cases h3
    unfold retI
    rw [if_pos this]
    exact decide_eq_true (by omega)
  · rw [decide_eq_false h, ret_none fun j hj => by
      cases hpj : p j with
      | false => rfl
      | true => exact absurd ⟨j, hj, hpj⟩ h]
    decide
theorem contains66 {w : World} (d : Df) (hD : DefAt w d) (n : Nat) (hn : n ≤ d.steps.length) (hm : d.steps.length ≤ 1000000000000000000) (cap : Array Value) (p : Nat → Bool)
    (hp : ∀ w1, Below w.heap.size w w1 → ∀ k (hk : k < d.steps.length), k < n → Calls Tryd.prog 66 (#[(d.steps[k]).v] ++ cap) w1 (Quietly w1 (.bool (p k)))) :
    Calls Tryd.prog 65 #[.slice d.A n d.c, .func (.func 66) #[] cap] w (Quietly w (.bool (decide (∃ k, k < n ∧ p k = true)))) := by
  have h1 := Lib.hid (index66 d hD n hn hm cap p hp)
  rw [← ret_ge]
  clear hp hD
  unfold Quietly at h1 ⊢
  obtain ⟨r, hr⟩ : ∃ r, retI n p = r := ⟨_, rfl⟩
  rw [hr] at h1 ⊢
  clear hr
  go_enter Tryd.func65, Tryd.ntmps65
  go_wp2_with fail
  refine h1.out.mono ?_
  rintro e w1 ⟨rfl, hb⟩
  have HB := Lib.hid hb
  clear hb
  go_wp2_with fail
  go_ret
  exact ⟨rfl, HB.out⟩
theorem str_dec (a b : ByteArray) : (a.toList == b.toList) = decide (a = b) := by
  by_cases h : a = b
  · rw [str_yes h, decide_eq_true h]
  · rw [str_no h, decide_eq_false h]
set_option maxHeartbeats 1600000 in
theorem tells66 {w : World} (x : St) (gp : Nat) (nm : ByteArray) (h : w.cell? ⟨gp, 0, none⟩ = some (.string nm)) :
    Calls Tryd.prog 66 #[x.v, .pointer (some ⟨gp, 0, none⟩)] w (Quietly w (.bool (decide (x.name = nm)))) := by
  have h1 := (Sat.start w).new #[.string x.name, .int .i64 x.kind, .int .i64 x.part, .slice x.kA x.keys.length x.kc, .slice x.nA x.needs.length x.nc] 35
  have x0 := old_cell (h1.old (by simp)) h
  have y0 := h1.blk.cell 0
  obtain ⟨b, hb⟩ : ∃ b, w.heap.size = b := ⟨_, rfl⟩
  have H1 := Lib.hid h1
  rw [← str_dec]
  unfold St.v Quietly
  rw [hb] at h1 y0
  have HBB := Lib.hid hb
  clear h1 h
  go_enter Tryd.func66, Tryd.ntmps66
  go_wp2_with fail
  go_ret
  exact ⟨rfl, by have h9 := H1.out.old (by simp); first | exact h9 | (rw [← hb]; exact h9) | (rw [hb] at h9; exact h9)⟩
theorem elems_cap {w : World} {A : Option Addr} {n c sz : Nat} {L : List (List Value)} (h : Elems w (.slice A n c) sz L) : L.length ≤ c := by
  obtain ⟨A', c', e, hc, _⟩ := h
  injection e with e1 e2 e3
  omega
def partAt (d : Df) (k : Nat) : Int := (d.steps.getD k ⟨.empty, 0, 0, [], [], none, 0, none, 0⟩).part
def keysAt (d : Df) (k : Nat) : List ByteArray := (d.steps.getD k ⟨.empty, 0, 0, [], [], none, 0, none, 0⟩).keys
theorem part_at (d : Df) (k : Nat) (h : k < d.steps.length) : d.steps[k].part = partAt d k := by
  unfold partAt
  rw [← List.getElem_eq_getD (h := h)]
theorem keys_at (d : Df) (k : Nat) (h : k < d.steps.length) : d.steps[k].keys = keysAt d k := by
  unfold keysAt
  rw [← List.getElem_eq_getD (h := h)]
/-- what is wrong with a step by itself -/
def aloneE (d : Df) (i : Nat) : Int :=
  if isN (nameAt d i) = false then 110 else if twiceB d i = true then 112 else if kindAt d i < 1 ∨ 3 < kindAt d i then 113 else if partAt d i < 0 ∨ 3 < partAt d i then 114
  else if keysB (keysAt d i) (partAt d i) = false then 115 else if needsB (needsAt d i) i d.steps.length = false then 116 else 0
/-- sizes of what a definition holds -/
structure Sized (d : Df) : Prop where
  name : d.name.size ≤ 140737488351232
  names : ∀ s ∈ d.steps, s.name.size ≤ 140737488351232
  keys : ∀ s ∈ d.steps, ∀ k ∈ s.keys, k.size ≤ 140737488351232
  needs : ∀ s ∈ d.steps, s.needs.length ≤ 17592186043904
  keyn : ∀ s ∈ d.steps, s.keys.length ≤ 17592186043904
  steps : d.steps.length ≤ 17592186043904
set_option maxHeartbeats 3200000 in
theorem alone_any {w : World} (d : Df) (i : Nat) (hD : DefAt w d) (hi : i < d.steps.length) (hz : Sized d) (hT : Lib.Utf8Tabs 0 1 w) :
    Calls Tryd.prog 37 #[d.v, .int .i64 i] w (Quietly w (.int .i64 (aloneE d i))) := by
  obtain ⟨g, o, hA, s0, s1, s2, s3, s4⟩ := step_at d hD i hi
  have hmem : d.steps[i] ∈ d.steps := List.getElem_mem hi
  have hSt := Lib.hid (hD.each _ hmem)
  have HNE : Hid (∀ w1, Below w.heap.size w w1 → Calls Tryd.prog 68 #[d.v, .int .i64 i] w1 fun e w' => e = .returned (.bool (needsB (needsAt d i) i d.steps.length)) ∧ Below w1.heap.size w1 w') := fun w1 hb => by
    rw [← needs_at d i hi]
    exact needs_any d i (hD.keep hb) hi (by have := hz.needs _ hmem; omega) (by have := hz.steps; omega)
  have HKE : Hid (∀ w1, Below w.heap.size w w1 → Calls Tryd.prog 67 #[(d.steps[i]).v] w1 fun e w' => e = .returned (.bool (keysB (keysAt d i) (partAt d i))) ∧ Below w1.heap.size w1 w') := fun w1 hb => by
    rw [← keys_at d i hi, ← part_at d i hi]
    exact keys_any _ (hSt.out.keep hb) (hz.keys _ hmem) (tabs_keep hT hb)
  have HIS : Hid (∀ w1, Calls Tryd.prog 36 #[.string d.steps[i].name] w1 fun e w' => e = .returned (.bool (isN (nameAt d i))) ∧ Below w1.heap.size w1 w') := fun w1 => by
    rw [← name_at d i hi]
    exact is_any _ w1 (hz.names _ hmem)
  have HTW : Hid (∀ (b : Nat) (w1 : World), Below w.heap.size w w1 → w1.cell? ⟨b, 0, none⟩ = some (.string d.steps[i].name) → Calls Tryd.prog 65 #[.slice d.A i d.c, .func (.func 66) #[] #[.pointer (some ⟨b, 0, none⟩)]] w1 (Quietly w1 (.bool (twiceB d i)))) := fun b w1 hb hc => by
    have h := contains66 d (hD.keep hb) i (Nat.le_of_lt hi) (by have := hz.steps; omega) #[.pointer (some ⟨b, 0, none⟩)] (fun k => decide (nameAt d k = nameAt d i)) (fun w2 hb2 k hk hki => by
      rw [← name_at d k hk, ← name_at d i hi]
      exact tells66 _ b _ (old_cell hb2 hc))
    have e : decide (∃ k, k < i ∧ decide (nameAt d k = nameAt d i) = true) = twiceB d i := by
      unfold twiceB
      simp only [decide_eq_true_eq]
    rw [e] at h
    exact h
  have HK : Hid (d.steps[i].kind = kindAt d i) := kind_at d i hi
  have HPA : Hid (d.steps[i].part = partAt d i) := part_at d i hi
  obtain ⟨s, hs⟩ : ∃ s, d.steps[i] = s := ⟨_, rfl⟩
  rw [hs] at s0 s1 s2 s3 s4 HKE HIS HTW HK HPA
  have hu : aloneE d i = if isN (nameAt d i) = false then 110 else if twiceB d i = true then 112 else if kindAt d i < 1 ∨ 3 < kindAt d i then 113 else if partAt d i < 0 ∨ 3 < partAt d i then 114
    else if keysB (keysAt d i) (partAt d i) = false then 115 else if needsB (needsAt d i) i d.steps.length = false then 116 else 0 := rfl
  rw [hu]
  unfold Df.v at HNE ⊢
  unfold Quietly at HTW
  unfold St.v at HKE
  unfold Quietly
  have HCAP : Hid (d.steps.length ≤ d.c) := by have h := elems_cap hD.steps; rwa [List.length_map] at h
  clear hu hs hmem hSt hT hz hD
  obtain ⟨n, hN⟩ : ∃ n, d.steps.length = n := ⟨_, rfl⟩
  obtain ⟨i1, hi1⟩ : ∃ b, isN (nameAt d i) = b := ⟨_, rfl⟩
  obtain ⟨i2, hi2⟩ : ∃ b, twiceB d i = b := ⟨_, rfl⟩
  obtain ⟨i5, hi5⟩ : ∃ b, keysB (keysAt d i) (partAt d i) = b := ⟨_, rfl⟩
  rw [hN] at HNE HCAP
  obtain ⟨i6, hi6⟩ : ∃ b, needsB (needsAt d i) i n = b := ⟨_, rfl⟩
  rw [hN] at hi ⊢
  rw [hi1] at HIS
  rw [hi2] at HTW
  rw [hi5] at HKE
  rw [hi6] at HNE
  rw [hi1, hi2, hi5, hi6, ← HK.out, ← HPA.out]
  obtain ⟨v, hv⟩ : ∃ v : Int, v = (if i1 = false then 110 else if i2 = true then 112 else if s.kind < 1 ∨ 3 < s.kind then 113 else if s.part < 0 ∨ 3 < s.part then 114
    else if i5 = false then 115 else if i6 = false then 116 else 0) := ⟨_, rfl⟩
  rw [← hv]
  have HV := Lib.hid hv
  clear hv
  have h1 := (Sat.start w).new #[.string d.name, .slice (some ⟨g, o, none⟩) n d.c] 24
  have hold := h1.old (by simp)
  have c0 := old_cell hold s0
  have c1 := old_cell hold s1
  have c2 := old_cell hold s2
  have c3 := old_cell hold s3
  have c4 := old_cell hold s4
  have h2 := h1.new #[.string s.name, .int .i64 s.kind, .int .i64 s.part, .slice s.kA s.keys.length s.kc, .slice s.nA s.needs.length s.nc] 35
  have hsz : (w.alloc (.cells #[.string d.name, .slice (some ⟨g, o, none⟩) n d.c] 24)).heap.size = w.heap.size + 1 := by simp
  rw [hsz] at h2
  obtain ⟨b, hb⟩ : ∃ b, w.heap.size = b := ⟨_, rfl⟩
  rw [hA] at HNE HTW ⊢
  rw [hb] at h2
  have H2 := Lib.hid h2
  have HBB := Lib.hid hb
  have c5 := h1.blk.cell 1
  rw [hb] at c5
  have hi0 : (i : Int) < (n : Int) := by omega
  have hin : (i : Int) ≤ (n : Int) := by omega
  have hic : i ≤ d.c := by have := HCAP.out; omega
  clear h1 h2 hold hsz s0 s1 s2 s3 s4 hi1 hi2 hi5 hi6 hN hA HK HPA
  go_enter Tryd.func37, Tryd.ntmps37
  go_wp2_with fail
  try simp only [hb]
  refine (HTW.out (b + 1) _ (H2.out.old (by simp)) (H2.out.blk.cell 0)).mono ?_
  rintro e w1 ⟨rfl, hb1⟩
  have H3 := Lib.hid (H2.out.below hb1)
  have d0 := H3.out.blk.cell 0
  clear hb1 H2 c0 c1 c2 c3 c4 c5
  go_wp2_with fail
  refine (HIS.out _).mono ?_
  rintro e w2 ⟨rfl, hb2⟩
  have H4 := Lib.hid (H3.out.below hb2)
  clear hb2 H3 d0
  cases i1 with
  | false =>
    go_wp2_with fail
    go_ret
    exact ⟨by rw [HV.out]; rfl, by have h9 := H4.out.old (by simp); first | exact h9 | (rw [hb] at h9; exact h9) | (simp only [hb] at h9 ⊢; exact h9)⟩
  | true =>
    cases i2 with
    | true =>
      go_wp2_with fail
      go_ret
      exact ⟨by rw [HV.out]; rfl, by have h9 := H4.out.old (by simp); first | exact h9 | (rw [hb] at h9; exact h9) | (simp only [hb] at h9 ⊢; exact h9)⟩
    | false =>
      have e1 := H4.out.blk.cell 1
      have e2 := H4.out.blk.cell 2
      by_cases hk1 : s.kind < 1
      · have t1 : decide (s.kind < 1) = true := decide_eq_true hk1
        have K1 := Lib.hid hk1
        clear hk1
        go_wp2_with fail
        go_ret
        exact ⟨by rw [HV.out]; have qK1 := K1.out; simp; first | done | ((repeat' split) <;> first | rfl | omega),  by have h9 := H4.out.old (by simp); first | exact h9 | (rw [hb] at h9; exact h9) | (simp only [hb] at h9 ⊢; exact h9)⟩
      have t1 : decide (s.kind < 1) = false := decide_eq_false hk1
      by_cases hk2 : 3 < s.kind
      · have t2 : decide (3 < s.kind) = true := decide_eq_true hk2
        have K1 := Lib.hid hk1
        have K2 := Lib.hid hk2
        clear hk1 hk2
        go_wp2_with fail
        go_ret
        exact ⟨by rw [HV.out]; have qK1 := K1.out; have qK2 := K2.out; simp; first | done | ((repeat' split) <;> first | rfl | omega),  by have h9 := H4.out.old (by simp); first | exact h9 | (rw [hb] at h9; exact h9) | (simp only [hb] at h9 ⊢; exact h9)⟩
      have t2 : decide (3 < s.kind) = false := decide_eq_false hk2
      by_cases hp1 : s.part < 0
      · have t3 : decide (s.part < 0) = true := decide_eq_true hp1
        have K1 := Lib.hid hk1
        have K2 := Lib.hid hk2
        have K3 := Lib.hid hp1
        clear hk1 hk2 hp1
        go_wp2_with fail
        go_ret
        exact ⟨by rw [HV.out]; have qK1 := K1.out; have qK2 := K2.out; have qK3 := K3.out; simp; first | done | ((repeat' split) <;> first | rfl | omega),  by have h9 := H4.out.old (by simp); first | exact h9 | (rw [hb] at h9; exact h9) | (simp only [hb] at h9 ⊢; exact h9)⟩
      have t3 : decide (s.part < 0) = false := decide_eq_false hp1
      by_cases hp2 : 3 < s.part
      · have t4 : decide (4 ≤ s.part) = true := decide_eq_true (by omega)
        have K1 := Lib.hid hk1
        have K2 := Lib.hid hk2
        have K3 := Lib.hid hp1
        have K4 := Lib.hid hp2
        clear hk1 hk2 hp1 hp2
        go_wp2_with fail
        go_ret
        exact ⟨by rw [HV.out]; have qK1 := K1.out; have qK2 := K2.out; have qK3 := K3.out; have qK4 := K4.out; simp; first | done | ((repeat' split) <;> first | rfl | omega),  by have h9 := H4.out.old (by simp); first | exact h9 | (rw [hb] at h9; exact h9) | (simp only [hb] at h9 ⊢; exact h9)⟩
      have t4 : decide (4 ≤ s.part) = false := decide_eq_false (by omega)
      have e0 := H4.out.blk.cell 0
      have e3 := H4.out.blk.cell 3
      have e4 := H4.out.blk.cell 4
      have K1 := Lib.hid hk1
      have K2 := Lib.hid hk2
      have K3 := Lib.hid hp1
      have K4 := Lib.hid hp2
      clear hk1 hk2 hp1 hp2
      go_wp2_with fail
      refine (HKE.out _ (H4.out.old (by simp))).mono ?_
      rintro e w3 ⟨rfl, hb3⟩
      have H5 := Lib.hid (H4.out.below hb3)
      clear hb3 H4 e0 e1 e2 e3 e4
      cases i5 with
      | false =>
        go_wp2_with fail
        go_ret
        exact ⟨by rw [HV.out]; have qK1 := K1.out; have qK2 := K2.out; have qK3 := K3.out; have qK4 := K4.out; simp; first | done | ((repeat' split) <;> first | rfl | omega),  by have h9 := H5.out.old (by simp); first | exact h9 | (rw [hb] at h9; exact h9) | (simp only [hb] at h9 ⊢; exact h9)⟩
      | true =>
        have g0 := H5.out.r2.blk.cell 0
        have g1 := H5.out.r2.blk.cell 1
        go_wp2_with fail
        refine (HNE.out _ (H5.out.old (by simp))).mono ?_
        rintro e w4 ⟨rfl, hb4⟩
        have H6 := Lib.hid (H5.out.below hb4)
        clear hb4 H5 g0 g1
        cases i6 with
        | false =>
          go_wp2_with fail
          go_ret
          exact ⟨by rw [HV.out]; have qK1 := K1.out; have qK2 := K2.out; have qK3 := K3.out; have qK4 := K4.out; simp; first | done | ((repeat' split) <;> first | rfl | omega),  by have h9 := H6.out.old (by simp); first | exact h9 | (rw [hb] at h9; exact h9) | (simp only [hb] at h9 ⊢; exact h9)⟩
        | true =>
          go_wp2_with fail
          go_ret
          exact ⟨by rw [HV.out]; have qK1 := K1.out; have qK2 := K2.out; have qK3 := K3.out; have qK4 := K4.out; simp; first | done | ((repeat' split) <;> first | rfl | omega),  by have h9 := H6.out.old (by simp); first | exact h9 | (rw [hb] at h9; exact h9) | (simp only [hb] at h9 ⊢; exact h9)⟩
end Go.Proofs.YtpmoanjeoaeabaaDoor
end

section
/- The document's alone. -/
set_option linter.unusedVariables false
set_option linter.unusedSimpArgs false
set_option linter.unnecessarySimpa false
set_option maxRecDepth 100000
namespace Go.Proofs.YtpmoanjeoaeabaaDoor
open Go.RowKit Go.ChangeShapes Go.WideShapes Go.ChangeAt
set_option maxHeartbeats 3200000 in
theorem ralone_any {w : World} (d : Df) (i : Nat) (hD : DefAt w d) (hi : i < d.steps.length) (hz : Sized d) :
    Calls Tryd.prog 48 #[d.v, .int .i64 i] w (Quietly w (.int .i64 (aloneE d i))) := by
  obtain ⟨g, o, hA, s0, s1, s2, s3, s4⟩ := step_at d hD i hi
  have hmem : d.steps[i] ∈ d.steps := List.getElem_mem hi
  have hSt := Lib.hid (hD.each _ hmem)
  have HNE : Hid (∀ w1, Below w.heap.size w w1 → Calls Tryd.prog 77 #[.slice d.steps[i].nA d.steps[i].needs.length d.steps[i].nc, .int .i64 i, .int .i64 d.steps.length] w1 fun e w' => e = .returned (.bool (needsB (needsAt d i) i d.steps.length)) ∧ Below w1.heap.size w1 w') := fun w1 hb => by
    rw [← needs_at d i hi]
    exact rneeds_any _ i _ (hSt.out.keep hb).needs (by have := hz.needs _ hmem; omega)
  have HKE : Hid (∀ w1, Below w.heap.size w w1 → Calls Tryd.prog 76 #[(d.steps[i]).v] w1 fun e w' => e = .returned (.bool (keysB (keysAt d i) (partAt d i))) ∧ Below w1.heap.size w1 w') := fun w1 hb => by
    rw [← keys_at d i hi, ← part_at d i hi]
    exact rkeys_any _ (hSt.out.keep hb) (hz.keys _ hmem)
  have HIS : Hid (∀ w1, Calls Tryd.prog 47 #[.string d.steps[i].name] w1 fun e w' => e = .returned (.bool (isN (nameAt d i))) ∧ w' = w1) := fun w1 => by
    rw [← name_at d i hi]
    exact ris_any _ w1 (hz.names _ hmem)
  have HTW : Hid (∀ w1, Below w.heap.size w w1 → Calls Tryd.prog 75 #[d.v, .int .i64 i] w1 fun e w' => e = .returned (.bool (twiceB d i)) ∧ Below w1.heap.size w1 w') := fun w1 hb => rtwice_any d i (hD.keep hb) hi (by have := hz.steps; omega)
  have HK : Hid (d.steps[i].kind = kindAt d i) := kind_at d i hi
  have HPA : Hid (d.steps[i].part = partAt d i) := part_at d i hi
  obtain ⟨s, hs⟩ : ∃ s, d.steps[i] = s := ⟨_, rfl⟩
  rw [hs] at s0 s1 s2 s3 s4 HKE HIS HNE HK HPA
  have hu : aloneE d i = if isN (nameAt d i) = false then 110 else if twiceB d i = true then 112 else if kindAt d i < 1 ∨ 3 < kindAt d i then 113 else if partAt d i < 0 ∨ 3 < partAt d i then 114
    else if keysB (keysAt d i) (partAt d i) = false then 115 else if needsB (needsAt d i) i d.steps.length = false then 116 else 0 := rfl
  rw [hu]
  unfold Df.v at HTW ⊢
  unfold St.v at HKE
  unfold Quietly
  clear hu hs hmem hSt hz hD
  obtain ⟨n, hN⟩ : ∃ n, d.steps.length = n := ⟨_, rfl⟩
  obtain ⟨i1, hi1⟩ : ∃ b, isN (nameAt d i) = b := ⟨_, rfl⟩
  obtain ⟨i2, hi2⟩ : ∃ b, twiceB d i = b := ⟨_, rfl⟩
  obtain ⟨i5, hi5⟩ : ∃ b, keysB (keysAt d i) (partAt d i) = b := ⟨_, rfl⟩
  rw [hN] at HNE HTW
  obtain ⟨i6, hi6⟩ : ∃ b, needsB (needsAt d i) i n = b := ⟨_, rfl⟩
  rw [hN] at hi ⊢
  rw [hi1] at HIS
  rw [hi2] at HTW
  rw [hi5] at HKE
  rw [hi6] at HNE
  rw [hi1, hi2, hi5, hi6, ← HK.out, ← HPA.out]
  obtain ⟨v, hv⟩ : ∃ v : Int, v = (if i1 = false then 110 else if i2 = true then 112 else if s.kind < 1 ∨ 3 < s.kind then 113 else if s.part < 0 ∨ 3 < s.part then 114
    else if i5 = false then 115 else if i6 = false then 116 else 0) := ⟨_, rfl⟩
  rw [← hv]
  have HV := Lib.hid hv
  clear hv
  have h1 := (Sat.start w).new #[.string d.name, .slice (some ⟨g, o, none⟩) n d.c] 24
  have hold := h1.old (by simp)
  have c0 := old_cell hold s0
  have c1 := old_cell hold s1
  have c2 := old_cell hold s2
  have c3 := old_cell hold s3
  have c4 := old_cell hold s4
  have h2 := h1.new #[.string s.name, .int .i64 s.kind, .int .i64 s.part, .slice s.kA s.keys.length s.kc, .slice s.nA s.needs.length s.nc] 35
  have hsz : (w.alloc (.cells #[.string d.name, .slice (some ⟨g, o, none⟩) n d.c] 24)).heap.size = w.heap.size + 1 := by simp
  rw [hsz] at h2
  obtain ⟨b, hb⟩ : ∃ b, w.heap.size = b := ⟨_, rfl⟩
  rw [hA] at HTW ⊢
  rw [hb] at h2
  have H2 := Lib.hid h2
  have HBB := Lib.hid hb
  have c5 := h1.blk.cell 1
  rw [hb] at c5
  have hi0 : (i : Int) < (n : Int) := by omega
  have hin : (i : Int) ≤ (n : Int) := by omega
  clear h1 h2 hold hsz s0 s1 s2 s3 s4 hi1 hi2 hi5 hi6 hN hA HK HPA
  go_enter Tryd.func48, Tryd.ntmps48
  go_wp2_with fail
  try simp only [hb]
  refine (HIS.out _).mono ?_
  rintro e w1 ⟨rfl, rfl⟩
  have e0 := H2.out.r2.blk.cell 0
  have e1 := H2.out.r2.blk.cell 1
  clear c0 c1 c2 c3 c4 c5
  go_wp2_with fail
  refine (HTW.out _ (H2.out.old (by simp))).mono ?_
  rintro e w2 ⟨rfl, hb2⟩
  have H4 := Lib.hid (H2.out.below hb2)
  have f0 := H4.out.blk.cell 0
  have f1 := H4.out.blk.cell 1
  have f2 := H4.out.blk.cell 2
  have f3 := H4.out.blk.cell 3
  have f4 := H4.out.blk.cell 4
  clear hb2 H2 e0 e1
  go_wp2_with fail
  refine (HKE.out _ (H4.out.old (by simp))).mono ?_
  rintro e w3 ⟨rfl, hb3⟩
  have H5 := Lib.hid (H4.out.below hb3)
  have a4 := H5.out.blk.cell 4
  have a1 := H5.out.r2.blk.cell 1
  clear hb3 H4 f0 f1 f2 f3 f4
  go_wp2_with fail
  refine (HNE.out _ (H5.out.old (by simp))).mono ?_
  rintro e w4 ⟨rfl, hb4⟩
  have H6 := Lib.hid (H5.out.below hb4)
  have e1 := H6.out.blk.cell 1
  have e2 := H6.out.blk.cell 2
  clear hb4 H5 a4 a1
  cases i1 with
  | false =>
    go_wp2_with fail
    go_ret
    exact ⟨by rw [HV.out]; rfl, by have h9 := H6.out.old (by simp); first | exact h9 | (rw [hb] at h9; exact h9) | (simp only [hb] at h9 ⊢; exact h9)⟩
  | true =>
    cases i2 with
    | true =>
      go_wp2_with fail
      go_ret
      exact ⟨by rw [HV.out]; rfl, by have h9 := H6.out.old (by simp); first | exact h9 | (rw [hb] at h9; exact h9) | (simp only [hb] at h9 ⊢; exact h9)⟩
    | false =>
      by_cases hk1 : s.kind < 1
      · have t1 : decide (s.kind < 1) = true := decide_eq_true hk1
        have K1 := Lib.hid hk1
        clear hk1
        go_wp2_with fail
        go_ret
        exact ⟨by rw [HV.out]; have qK1 := K1.out; simp; first | done | ((repeat' split) <;> first | rfl | omega), by have h9 := H6.out.old (by simp); first | exact h9 | (rw [hb] at h9; exact h9) | (simp only [hb] at h9 ⊢; exact h9)⟩
      have t1 : decide (s.kind < 1) = false := decide_eq_false hk1
      by_cases hk2 : 3 < s.kind
      · have t2 : decide (3 < s.kind) = true := decide_eq_true hk2
        have K1 := Lib.hid hk1
        have K2 := Lib.hid hk2
        clear hk1 hk2
        go_wp2_with fail
        go_ret
        exact ⟨by rw [HV.out]; have qK1 := K1.out; have qK2 := K2.out; simp; first | done | ((repeat' split) <;> first | rfl | omega), by have h9 := H6.out.old (by simp); first | exact h9 | (rw [hb] at h9; exact h9) | (simp only [hb] at h9 ⊢; exact h9)⟩
      have t2 : decide (3 < s.kind) = false := decide_eq_false hk2
      by_cases hp1 : s.part < 0
      · have t3 : decide (s.part < 0) = true := decide_eq_true hp1
        have K1 := Lib.hid hk1
        have K2 := Lib.hid hk2
        have K3 := Lib.hid hp1
        clear hk1 hk2 hp1
        go_wp2_with fail
        go_ret
        exact ⟨by rw [HV.out]; have qK1 := K1.out; have qK2 := K2.out; have qK3 := K3.out; simp; first | done | ((repeat' split) <;> first | rfl | omega), by have h9 := H6.out.old (by simp); first | exact h9 | (rw [hb] at h9; exact h9) | (simp only [hb] at h9 ⊢; exact h9)⟩
      have t3 : decide (s.part < 0) = false := decide_eq_false hp1
      have K1 := Lib.hid hk1
      have K2 := Lib.hid hk2
      have K3 := Lib.hid hp1
      by_cases hp2 : 3 < s.part
      · have t4 : decide (3 < s.part) = true := decide_eq_true hp2
        have K4 := Lib.hid hp2
        clear hk1 hk2 hp1 hp2
        go_wp2_with fail
        go_ret
        exact ⟨by rw [HV.out]; have qK1 := K1.out; have qK2 := K2.out; have qK3 := K3.out; have qK4 := K4.out; simp; first | done | ((repeat' split) <;> first | rfl | omega), by have h9 := H6.out.old (by simp); first | exact h9 | (rw [hb] at h9; exact h9) | (simp only [hb] at h9 ⊢; exact h9)⟩
      have t4 : decide (3 < s.part) = false := decide_eq_false hp2
      have K4 := Lib.hid hp2
      clear hk1 hk2 hp1 hp2
      cases i5 with
      | false =>
        go_wp2_with fail
        go_ret
        exact ⟨by rw [HV.out]; have qK1 := K1.out; have qK2 := K2.out; have qK3 := K3.out; have qK4 := K4.out; simp; first | done | ((repeat' split) <;> first | rfl | omega), by have h9 := H6.out.old (by simp); first | exact h9 | (rw [hb] at h9; exact h9) | (simp only [hb] at h9 ⊢; exact h9)⟩
      | true =>
        cases i6 with
        | false =>
          go_wp2_with fail
          go_ret
          exact ⟨by rw [HV.out]; have qK1 := K1.out; have qK2 := K2.out; have qK3 := K3.out; have qK4 := K4.out; simp; first | done | ((repeat' split) <;> first | rfl | omega), by have h9 := H6.out.old (by simp); first | exact h9 | (rw [hb] at h9; exact h9) | (simp only [hb] at h9 ⊢; exact h9)⟩
        | true =>
          go_wp2_with fail
          go_ret
          exact ⟨by rw [HV.out]; have qK1 := K1.out; have qK2 := K2.out; have qK3 := K3.out; have qK4 := K4.out; simp; first | done | ((repeat' split) <;> first | rfl | omega), by have h9 := H6.out.old (by simp); first | exact h9 | (rw [hb] at h9; exact h9) | (simp only [hb] at h9 ⊢; exact h9)⟩
end Go.Proofs.YtpmoanjeoaeabaaDoor
end

section
/- The program's first, for each of its four function values. -/
set_option linter.unusedVariables false
set_option linter.unusedSimpArgs false
set_option linter.unnecessarySimpa false
set_option maxRecDepth 100000
namespace Go.Proofs.YtpmoanjeoaeabaaDoor
open Go.RowKit Go.ChangeShapes Go.WideShapes Go.ChangeAt
def FxRel (I : Nat → World → Prop) (n : Nat) (p : Nat → Bool) (i : Value) (wr : World) : Prop := ∃ k : Nat, k ≤ n ∧ i = .int .i64 k ∧ I k wr ∧ ∀ j, j < k → p j = false
set_option maxHeartbeats 1600000 in
theorem first39 {w : World} (d : Df) (hm : d.steps.length ≤ 1000000) (cap : Array Value) (p : Nat → Bool) (I : Nat → World → Prop) (h0 : I 0 (w.alloc (.cells #[.string d.name, .slice d.A d.steps.length d.c] 24)))
    (hp : ∀ k w1, k < d.steps.length → I k w1 → Calls Tryd.prog 39 (#[.int .i64 k] ++ cap) w1 fun e w' => e = .returned (.bool (p k)) ∧ I (k + 1) w') :
    Calls Tryd.prog 38 #[d.v, .func (.func 39) #[] cap] w fun e w' => e = .returned (.int .i64 (retI d.steps.length p)) ∧ ∃ k, I k w' := by
  have HP := Lib.hid hp
  have H0 := Lib.hid h0
  have h1 := (Sat.start w).new #[.string d.name, .slice d.A d.steps.length d.c] 24
  obtain ⟨b, hb⟩ : ∃ b, w.heap.size = b := ⟨_, rfl⟩
  rw [hb] at h1
  have a1 := h1.blk.cell 1
  unfold Df.v
  obtain ⟨n, hN⟩ : ∃ n, d.steps.length = n := ⟨_, rfl⟩
  rw [hN] at HP hm a1 H0 ⊢
  clear hp h0 h1 hN
  go_enter Tryd.func38, Tryd.ntmps38
  go_wp2_with fail
  go_loopw [9] (FxRel I n p) (fun i _ => n - (intOf i).toNat)
  case atStart => exact ⟨0, Nat.zero_le _, rfl, H0.out, fun j hj => absurd hj (Nat.not_lt_zero _)⟩
  case round =>
    obtain ⟨k, hk, rfl, hb1, ha⟩ := hrel
    clear H0 a1
    by_cases hlt : k < n
    · have HCL := Lib.hid (HP.out k wr hlt hb1)
      have HX : Hid (∀ b, p k = b → (b = true → retI n p = k) ∧ (b = false → ∀ j, j < k + 1 → p j = false)) := fun b hb => ⟨fun e => ret_hit hlt (hb.trans e) ha, fun e j hj => by
        by_cases hjk2 : j < k
        · exact ha j hjk2
        · obtain rfl : j = k := by omega
          exact hb.trans e⟩
      obtain ⟨v, hv⟩ : ∃ b, p k = b := ⟨_, rfl⟩
      have HX2 := Lib.hid (HX.out v hv)
      rw [hv] at HCL
      clear hb1 ha HX hv HP
      cases v with
      | true =>
        have HF := Lib.hid (HX2.out.1 rfl)
        go_wp2_with fail
        refine HCL.out.mono ?_
        rintro e w' ⟨rfl, hb'⟩
        have HB2 := Lib.hid hb'
        clear hb'
        go_wp2_with fail
        go_ret
        exact ⟨by rw [HF.out]; rfl, k + 1, HB2.out⟩
      | false =>
        have HF := Lib.hid (HX2.out.2 rfl)
        go_wp2_with fail
        refine HCL.out.mono ?_
        rintro e w' ⟨rfl, hb'⟩
        have HB2 := Lib.hid hb'
        clear hb'
        go_wp2_with fail
        go_roundw
        case rel => exact ⟨k + 1, by omega, by go_num, HB2.out, HF.out⟩
        case measure => simp [intOf]; omega
    · have HB := Lib.hid hb1
      have HF := Lib.hid (ret_none (n := n) (p := p) fun j hj => ha j (by omega))
      clear hb1 ha
      go_wp2_with fail
      go_ret
      exact ⟨by rw [HF.out]; rfl, k, HB.out⟩
set_option maxHeartbeats 1600000 in
theorem first40 {w : World} (d : Df) (hm : d.steps.length ≤ 1000000) (cap : Array Value) (p : Nat → Bool) (I : Nat → World → Prop) (h0 : I 0 (w.alloc (.cells #[.string d.name, .slice d.A d.steps.length d.c] 24)))
    (hp : ∀ k w1, k < d.steps.length → I k w1 → Calls Tryd.prog 40 (#[.int .i64 k] ++ cap) w1 fun e w' => e = .returned (.bool (p k)) ∧ I (k + 1) w') :
    Calls Tryd.prog 38 #[d.v, .func (.func 40) #[] cap] w fun e w' => e = .returned (.int .i64 (retI d.steps.length p)) ∧ ∃ k, I k w' := by
  have HP := Lib.hid hp
  have H0 := Lib.hid h0
  have h1 := (Sat.start w).new #[.string d.name, .slice d.A d.steps.length d.c] 24
  obtain ⟨b, hb⟩ : ∃ b, w.heap.size = b := ⟨_, rfl⟩
  rw [hb] at h1
  have a1 := h1.blk.cell 1
  unfold Df.v
  obtain ⟨n, hN⟩ : ∃ n, d.steps.length = n := ⟨_, rfl⟩
  rw [hN] at HP hm a1 H0 ⊢
  clear hp h0 h1 hN
  go_enter Tryd.func38, Tryd.ntmps38
  go_wp2_with fail
  go_loopw [9] (FxRel I n p) (fun i _ => n - (intOf i).toNat)
  case atStart => exact ⟨0, Nat.zero_le _, rfl, H0.out, fun j hj => absurd hj (Nat.not_lt_zero _)⟩
  case round =>
    obtain ⟨k, hk, rfl, hb1, ha⟩ := hrel
    clear H0 a1
    by_cases hlt : k < n
    · have HCL := Lib.hid (HP.out k wr hlt hb1)
      have HX : Hid (∀ b, p k = b → (b = true → retI n p = k) ∧ (b = false → ∀ j, j < k + 1 → p j = false)) := fun b hb => ⟨fun e => ret_hit hlt (hb.trans e) ha, fun e j hj => by
        by_cases hjk2 : j < k
        · exact ha j hjk2
        · obtain rfl : j = k := by omega
          exact hb.trans e⟩
      obtain ⟨v, hv⟩ : ∃ b, p k = b := ⟨_, rfl⟩
      have HX2 := Lib.hid (HX.out v hv)
      rw [hv] at HCL
      clear hb1 ha HX hv HP
      cases v with
      | true =>
        have HF := Lib.hid (HX2.out.1 rfl)
        go_wp2_with fail
        refine HCL.out.mono ?_
        rintro e w' ⟨rfl, hb'⟩
        have HB2 := Lib.hid hb'
        clear hb'
        go_wp2_with fail
        go_ret
        exact ⟨by rw [HF.out]; rfl, k + 1, HB2.out⟩
      | false =>
        have HF := Lib.hid (HX2.out.2 rfl)
        go_wp2_with fail
        refine HCL.out.mono ?_
        rintro e w' ⟨rfl, hb'⟩
        have HB2 := Lib.hid hb'
        clear hb'
        go_wp2_with fail
        go_roundw
        case rel => exact ⟨k + 1, by omega, by go_num, HB2.out, HF.out⟩
        case measure => simp [intOf]; omega
    · have HB := Lib.hid hb1
      have HF := Lib.hid (ret_none (n := n) (p := p) fun j hj => ha j (by omega))
      clear hb1 ha
      go_wp2_with fail
      go_ret
      exact ⟨by rw [HF.out]; rfl, k, HB.out⟩
set_option maxHeartbeats 1600000 in
theorem first44 {w : World} (d : Df) (hm : d.steps.length ≤ 1000000) (cap : Array Value) (p : Nat → Bool) (I : Nat → World → Prop) (h0 : I 0 (w.alloc (.cells #[.string d.name, .slice d.A d.steps.length d.c] 24)))
    (hp : ∀ k w1, k < d.steps.length → I k w1 → Calls Tryd.prog 44 (#[.int .i64 k] ++ cap) w1 fun e w' => e = .returned (.bool (p k)) ∧ I (k + 1) w') :
    Calls Tryd.prog 38 #[d.v, .func (.func 44) #[] cap] w fun e w' => e = .returned (.int .i64 (retI d.steps.length p)) ∧ ∃ k, I k w' := by
  have HP := Lib.hid hp
  have H0 := Lib.hid h0
  have h1 := (Sat.start w).new #[.string d.name, .slice d.A d.steps.length d.c] 24
  obtain ⟨b, hb⟩ : ∃ b, w.heap.size = b := ⟨_, rfl⟩
  rw [hb] at h1
  have a1 := h1.blk.cell 1
  unfold Df.v
  obtain ⟨n, hN⟩ : ∃ n, d.steps.length = n := ⟨_, rfl⟩
  rw [hN] at HP hm a1 H0 ⊢
  clear hp h0 h1 hN
  go_enter Tryd.func38, Tryd.ntmps38
  go_wp2_with fail
  go_loopw [9] (FxRel I n p) (fun i _ => n - (intOf i).toNat)
  case atStart => exact ⟨0, Nat.zero_le _, rfl, H0.out, fun j hj => absurd hj (Nat.not_lt_zero _)⟩
  case round =>
    obtain ⟨k, hk, rfl, hb1, ha⟩ := hrel
    clear H0 a1
    by_cases hlt : k < n
    · have HCL := Lib.hid (HP.out k wr hlt hb1)
      have HX : Hid (∀ b, p k = b → (b = true → retI n p = k) ∧ (b = false → ∀ j, j < k + 1 → p j = false)) := fun b hb => ⟨fun e => ret_hit hlt (hb.trans e) ha, fun e j hj => by
        by_cases hjk2 : j < k
        · exact ha j hjk2
        · obtain rfl : j = k := by omega
          exact hb.trans e⟩
      obtain ⟨v, hv⟩ : ∃ b, p k = b := ⟨_, rfl⟩
      have HX2 := Lib.hid (HX.out v hv)
      rw [hv] at HCL
      clear hb1 ha HX hv HP
      cases v with
      | true =>
        have HF := Lib.hid (HX2.out.1 rfl)
        go_wp2_with fail
        refine HCL.out.mono ?_
        rintro e w' ⟨rfl, hb'⟩
        have HB2 := Lib.hid hb'
        clear hb'
        go_wp2_with fail
        go_ret
        exact ⟨by rw [HF.out]; rfl, k + 1, HB2.out⟩
      | false =>
        have HF := Lib.hid (HX2.out.2 rfl)
        go_wp2_with fail
        refine HCL.out.mono ?_
        rintro e w' ⟨rfl, hb'⟩
        have HB2 := Lib.hid hb'
        clear hb'
        go_wp2_with fail
        go_roundw
        case rel => exact ⟨k + 1, by omega, by go_num, HB2.out, HF.out⟩
        case measure => simp [intOf]; omega
    · have HB := Lib.hid hb1
      have HF := Lib.hid (ret_none (n := n) (p := p) fun j hj => ha j (by omega))
      clear hb1 ha
      go_wp2_with fail
      go_ret
      exact ⟨by rw [HF.out]; rfl, k, HB.out⟩
set_option maxHeartbeats 1600000 in
theorem first70 {w : World} (d : Df) (hm : d.steps.length ≤ 1000000) (cap : Array Value) (p : Nat → Bool) (I : Nat → World → Prop) (h0 : I 0 (w.alloc (.cells #[.string d.name, .slice d.A d.steps.length d.c] 24)))
    (hp : ∀ k w1, k < d.steps.length → I k w1 → Calls Tryd.prog 70 (#[.int .i64 k] ++ cap) w1 fun e w' => e = .returned (.bool (p k)) ∧ I (k + 1) w') :
    Calls Tryd.prog 38 #[d.v, .func (.func 70) #[] cap] w fun e w' => e = .returned (.int .i64 (retI d.steps.length p)) ∧ ∃ k, I k w' := by
  have HP := Lib.hid hp
  have H0 := Lib.hid h0
  have h1 := (Sat.start w).new #[.string d.name, .slice d.A d.steps.length d.c] 24
  obtain ⟨b, hb⟩ : ∃ b, w.heap.size = b := ⟨_, rfl⟩
  rw [hb] at h1
  have a1 := h1.blk.cell 1
  unfold Df.v
  obtain ⟨n, hN⟩ : ∃ n, d.steps.length = n := ⟨_, rfl⟩
  rw [hN] at HP hm a1 H0 ⊢
  clear hp h0 h1 hN
  go_enter Tryd.func38, Tryd.ntmps38
  go_wp2_with fail
  go_loopw [9] (FxRel I n p) (fun i _ => n - (intOf i).toNat)
  case atStart => exact ⟨0, Nat.zero_le _, rfl, H0.out, fun j hj => absurd hj (Nat.not_lt_zero _)⟩
  case round =>
    obtain ⟨k, hk, rfl, hb1, ha⟩ := hrel
    clear H0 a1
    by_cases hlt : k < n
    · have HCL := Lib.hid (HP.out k wr hlt hb1)
      have HX : Hid (∀ b, p k = b → (b = true → retI n p = k) ∧ (b = false → ∀ j, j < k + 1 → p j = false)) := fun b hb => ⟨fun e => ret_hit hlt (hb.trans e) ha, fun e j hj => by
        by_cases hjk2 : j < k
        · exact ha j hjk2
        · obtain rfl : j = k := by omega
          exact hb.trans e⟩
      obtain ⟨v, hv⟩ : ∃ b, p k = b := ⟨_, rfl⟩
      have HX2 := Lib.hid (HX.out v hv)
      rw [hv] at HCL
      clear hb1 ha HX hv HP
      cases v with
      | true =>
        have HF := Lib.hid (HX2.out.1 rfl)
        go_wp2_with fail
        refine HCL.out.mono ?_
        rintro e w' ⟨rfl, hb'⟩
        have HB2 := Lib.hid hb'
        clear hb'
        go_wp2_with fail
        go_ret
        exact ⟨by rw [HF.out]; rfl, k + 1, HB2.out⟩
      | false =>
        have HF := Lib.hid (HX2.out.2 rfl)
        go_wp2_with fail
        refine HCL.out.mono ?_
        rintro e w' ⟨rfl, hb'⟩
        have HB2 := Lib.hid hb'
        clear hb'
        go_wp2_with fail
        go_roundw
        case rel => exact ⟨k + 1, by omega, by go_num, HB2.out, HF.out⟩
        case measure => simp [intOf]; omega
    · have HB := Lib.hid hb1
      have HF := Lib.hid (ret_none (n := n) (p := p) fun j hj => ha j (by omega))
      clear hb1 ha
      go_wp2_with fail
      go_ret
      exact ⟨by rw [HF.out]; rfl, k, HB.out⟩
def SyRel (I : World → Prop) (n : Nat) (p : Nat → Bool) (i : Value) (wr : World) : Prop := ∃ k : Nat, k ≤ n ∧ i = .int .i64 k ∧ I wr ∧ ∀ j, j < k → p j = false
set_option maxHeartbeats 1600000 in
theorem index42 {w : World} {A : Option Addr} (n c : Nat) (el : Nat → Int) (cap : Array Value) (p : Nat → Bool) (I : World → Prop) (h0 : I w) (hm : n ≤ 1000000000000000000)
    (hc : ∀ w1, I w1 → ∀ k, k < n → ∃ b o, A = some ⟨b, o, none⟩ ∧ w1.cell? ⟨b, o + k, none⟩ = some (.int .i64 (el k)))
    (hp : ∀ k w1, k < n → I w1 → Calls Tryd.prog 42 (#[.int .i64 (el k)] ++ cap) w1 fun e w' => e = .returned (.bool (p k)) ∧ I w') :
    Calls Tryd.prog 69 #[.slice A n c, .func (.func 42) #[] cap] w fun e w' => e = .returned (.int .i64 (retI n p)) ∧ I w' := by
  have HP := Lib.hid hp
  have HC := Lib.hid hc
  have H0 := Lib.hid h0
  clear hp h0 hc
  go_enter Tryd.func69, Tryd.ntmps69
  go_wp2_with fail
  go_loopw [8] (SyRel I n p) (fun i _ => n - (intOf i).toNat)
  case atStart => exact ⟨0, Nat.zero_le _, rfl, H0.out, fun j hj => absurd hj (Nat.not_lt_zero _)⟩
  case round =>
    obtain ⟨k, hk, rfl, hb1, ha⟩ := hrel
    clear H0
    by_cases hlt : k < n
    · have HCL := Lib.hid (HP.out k wr hlt hb1)
      obtain ⟨b, o, hA, c0⟩ := HC.out wr hb1 k hlt
      rw [hA]
      have HX : Hid (∀ b, p k = b → (b = true → retI n p = k) ∧ (b = false → ∀ j, j < k + 1 → p j = false)) := fun b hb => ⟨fun e => ret_hit hlt (hb.trans e) ha, fun e j hj => by
        by_cases hjk2 : j < k
        · exact ha j hjk2
        · obtain rfl : j = k := by omega
          exact hb.trans e⟩
      obtain ⟨v, hv⟩ : ∃ b, p k = b := ⟨_, rfl⟩
      have HX2 := Lib.hid (HX.out v hv)
      obtain ⟨x, hx⟩ : ∃ x, el k = x := ⟨_, rfl⟩
      rw [hx] at c0 HCL
      rw [hv] at HCL
      clear hb1 ha HX hv HP HC hx
      cases v with
      | true =>
        have HF := Lib.hid (HX2.out.1 rfl)
        go_wp2_with fail
        refine HCL.out.mono ?_
        rintro e w' ⟨rfl, hb'⟩
        have HB2 := Lib.hid hb'
        clear hb'
        go_wp2_with fail
        go_ret
        exact ⟨by rw [HF.out]; rfl, HB2.out⟩
      | false =>
        have HF := Lib.hid (HX2.out.2 rfl)
        go_wp2_with fail
        refine HCL.out.mono ?_
        rintro e w' ⟨rfl, hb'⟩
        have HB2 := Lib.hid hb'
        clear hb'
        go_wp2_with fail
        go_roundw
        case rel => exact ⟨k + 1, by omega, by go_num, HB2.out, HF.out⟩
        case measure => simp [intOf]; omega
    · have HB := Lib.hid hb1
      have HF := Lib.hid (ret_none (n := n) (p := p) fun j hj => ha j (by omega))
      clear hb1 ha
      go_wp2_with fail
      go_ret
      exact ⟨by rw [HF.out]; rfl, HB.out⟩
theorem contains42 {w : World} {A : Option Addr} (n c : Nat) (el : Nat → Int) (cap : Array Value) (p : Nat → Bool) (I : World → Prop) (h0 : I w) (hm : n ≤ 1000000000000000000)
    (hc : ∀ w1, I w1 → ∀ k, k < n → ∃ b o, A = some ⟨b, o, none⟩ ∧ w1.cell? ⟨b, o + k, none⟩ = some (.int .i64 (el k)))
    (hp : ∀ k w1, k < n → I w1 → Calls Tryd.prog 42 (#[.int .i64 (el k)] ++ cap) w1 fun e w' => e = .returned (.bool (p k)) ∧ I w') :
    Calls Tryd.prog 41 #[.slice A n c, .func (.func 42) #[] cap] w fun e w' => e = .returned (.bool (decide (∃ k, k < n ∧ p k = true))) ∧ I w' := by
  have h1 := Lib.hid (index42 n c el cap p I h0 hm hc hp)
  rw [← ret_ge]
  clear hp hc h0
  obtain ⟨r, hr⟩ : ∃ r, retI n p = r := ⟨_, rfl⟩
  rw [hr] at h1 ⊢
  clear hr
  go_enter Tryd.func41, Tryd.ntmps41
  go_wp2_with fail
  refine h1.out.mono ?_
  rintro e w1 ⟨rfl, hb⟩
  have HB := Lib.hid hb
  clear hb
  go_wp2_with fail
  go_ret
  exact ⟨rfl, HB.out⟩
set_option maxHeartbeats 1600000 in
theorem index46 {w : World} {A : Option Addr} (n c : Nat) (el : Nat → ByteArray) (cap : Array Value) (p : Nat → Bool) (I : World → Prop) (h0 : I w) (hm : n ≤ 1000000000000000000)
    (hc : ∀ w1, I w1 → ∀ k, k < n → ∃ b o, A = some ⟨b, o, none⟩ ∧ w1.cell? ⟨b, o + k, none⟩ = some (.string (el k)))
    (hp : ∀ k w1, k < n → I w1 → Calls Tryd.prog 46 (#[.string (el k)] ++ cap) w1 fun e w' => e = .returned (.bool (p k)) ∧ I w') :
    Calls Tryd.prog 72 #[.slice A n c, .func (.func 46) #[] cap] w fun e w' => e = .returned (.int .i64 (retI n p)) ∧ I w' := by
  have HP := Lib.hid hp
  have HC := Lib.hid hc
  have H0 := Lib.hid h0
  clear hp h0 hc
  go_enter Tryd.func72, Tryd.ntmps72
  go_wp2_with fail
  go_loopw [8] (SyRel I n p) (fun i _ => n - (intOf i).toNat)
  case atStart => exact ⟨0, Nat.zero_le _, rfl, H0.out, fun j hj => absurd hj (Nat.not_lt_zero _)⟩
  case round =>
    obtain ⟨k, hk, rfl, hb1, ha⟩ := hrel
    clear H0
    by_cases hlt : k < n
    · have HCL := Lib.hid (HP.out k wr hlt hb1)
      obtain ⟨b, o, hA, c0⟩ := HC.out wr hb1 k hlt
      rw [hA]
      have HX : Hid (∀ b, p k = b → (b = true → retI n p = k) ∧ (b = false → ∀ j, j < k + 1 → p j = false)) := fun b hb => ⟨fun e => ret_hit hlt (hb.trans e) ha, fun e j hj => by
        by_cases hjk2 : j < k
        · exact ha j hjk2
        · obtain rfl : j = k := by omega
          exact hb.trans e⟩
      obtain ⟨v, hv⟩ : ∃ b, p k = b := ⟨_, rfl⟩
      have HX2 := Lib.hid (HX.out v hv)
      obtain ⟨x, hx⟩ : ∃ x, el k = x := ⟨_, rfl⟩
      rw [hx] at c0 HCL
      rw [hv] at HCL
      clear hb1 ha HX hv HP HC hx
      cases v with
      | true =>
        have HF := Lib.hid (HX2.out.1 rfl)
        go_wp2_with fail
        refine HCL.out.mono ?_
        rintro e w' ⟨rfl, hb'⟩
        have HB2 := Lib.hid hb'
        clear hb'
        go_wp2_with fail
        go_ret
        exact ⟨by rw [HF.out]; rfl, HB2.out⟩
      | false =>
        have HF := Lib.hid (HX2.out.2 rfl)
        go_wp2_with fail
        refine HCL.out.mono ?_
        rintro e w' ⟨rfl, hb'⟩
        have HB2 := Lib.hid hb'
        clear hb'
        go_wp2_with fail
        go_roundw
        case rel => exact ⟨k + 1, by omega, by go_num, HB2.out, HF.out⟩
        case measure => simp [intOf]; omega
    · have HB := Lib.hid hb1
      have HF := Lib.hid (ret_none (n := n) (p := p) fun j hj => ha j (by omega))
      clear hb1 ha
      go_wp2_with fail
      go_ret
      exact ⟨by rw [HF.out]; rfl, HB.out⟩
theorem contains46 {w : World} {A : Option Addr} (n c : Nat) (el : Nat → ByteArray) (cap : Array Value) (p : Nat → Bool) (I : World → Prop) (h0 : I w) (hm : n ≤ 1000000000000000000)
    (hc : ∀ w1, I w1 → ∀ k, k < n → ∃ b o, A = some ⟨b, o, none⟩ ∧ w1.cell? ⟨b, o + k, none⟩ = some (.string (el k)))
    (hp : ∀ k w1, k < n → I w1 → Calls Tryd.prog 46 (#[.string (el k)] ++ cap) w1 fun e w' => e = .returned (.bool (p k)) ∧ I w') :
    Calls Tryd.prog 45 #[.slice A n c, .func (.func 46) #[] cap] w fun e w' => e = .returned (.bool (decide (∃ k, k < n ∧ p k = true))) ∧ I w' := by
  have h1 := Lib.hid (index46 n c el cap p I h0 hm hc hp)
  rw [← ret_ge]
  clear hp hc h0
  obtain ⟨r, hr⟩ : ∃ r, retI n p = r := ⟨_, rfl⟩
  rw [hr] at h1 ⊢
  clear hr
  go_enter Tryd.func45, Tryd.ntmps45
  go_wp2_with fail
  refine h1.out.mono ?_
  rintro e w1 ⟨rfl, hb⟩
  have HB := Lib.hid hb
  clear hb
  go_wp2_with fail
  go_ret
  exact ⟨rfl, HB.out⟩
end Go.Proofs.YtpmoanjeoaeabaaDoor
end

section
/- Words on memory: a map of texts to numbers, told by a function. -/
set_option linter.unusedVariables false
set_option linter.unusedSimpArgs false
set_option linter.unnecessarySimpa false
set_option maxRecDepth 100000
namespace Go.Proofs.YtpmoanjeoaeabaaDoor
open Go.RowKit Go.ChangeShapes Go.WideShapes Go.ChangeAt
open Go.Maps (Keyed)
open Go.ChangeMaps
theorem lawStr : Keyed Tryd.prog 9 := Go.Maps.string_keyed Tryd.underlying9
theorem zero3 (w : World) : (zeroValue 3).run Tryd.prog w = .ok (.int .i64 0) w := by kernel_rfl
/-- a map of at most n texts; f tells what stands at each -/
def MapC (b n : Nat) (f : ByteArray → Int) : HP := fun h =>
  ∃ (es : Array MapEntry) (clock : Nat), h b = some (.map es clock) ∧ ∃ D : DataW Unit, (∀ w : World, w.heap[b]? = some (.map es clock) → w.ownsMap Tryd.prog 9 (plainElem Tryd.prog 3) b n D) ∧
    (∀ s : ByteArray, s.size ≤ maxLen → D.atKey (.string s.data.toList) (.lit (.int .i64 0)) = .lit (.int .i64 (f s)))
section
variable {w0 w w' : World} {L : List HP} {b n : Nat} {f : ByteArray → Int}
theorem Sat.mapNew (h : Sat w0 w L) : Sat w0 (w.alloc (.map #[] 0)) (MapC w.heap.size 0 (fun _ => 0) :: L) := by
  refine (h.alloc (.map #[] 0)).imp fun h hb => ⟨#[], 0, hb, .map [], fun w1 hw1 => ?_, fun s _ => ?_⟩
  · obtain ⟨es, clock, e1, e2, e3, e4⟩ := World.ownsMap_made (H := Unit) w Tryd.prog 9 (plainElem Tryd.prog 3)
    rw [heap_alloc_new] at e1
    cases e1
    exact ⟨#[], 0, hw1, e2, e3, e4⟩
  · exact WideAt.atKey_none _ (by simp)
theorem Sat.mapOwn (h : Sat w0 w (MapC b n f :: L)) : ∃ D : DataW Unit, w.ownsMap Tryd.prog 9 (plainElem Tryd.prog 3) b n D ∧ ∀ s : ByteArray, s.size ≤ maxLen → D.atKey (.string s.data.toList) (.lit (.int .i64 0)) = .lit (.int .i64 (f s)) := by
  obtain ⟨h1, _, l1, _, _, ⟨es, clock, hb, D, hD, hf⟩, _⟩ := h.own
  exact ⟨D, hD w (l1 _ _ hb), hf⟩
theorem Sat.mapLook (h : Sat w0 w (MapC b n f :: L)) {s : ByteArray} (hs : s.size ≤ maxLen) : (Instr.lookup 66 (.map (some b)) (.string s) false).run Tryd.prog w = .ok (.int .i64 (f s)) w := by
  obtain ⟨D, ho, hf⟩ := h.mapOwn
  obtain ⟨c, hr, hat, _⟩ := ho.lookup_int lawStr Tryd.underlying66 Tryd.underlying3 (zero3 _) (Go.WideMaps.keyOf_string_mk Tryd.underlying9 hs)
  rw [hf s hs] at hat
  rw [hr]
  injection hat with hat
  injection hat with _ hat
  rw [hat]
theorem Sat.mapPut (h : Sat w0 w (MapC b n f :: L)) {s : ByteArray} (hs : s.size ≤ maxLen) {v : Int} (hv : (Lit.int .i64 v).wf = true) (hn : n < maxLen) :
    ∃ w', (Instr.mapUpdate 66 (.map (some b)) (.string s) (.int .i64 v)).run Tryd.prog w = .ok () w' ∧ Sat w0 w' (MapC b (n + 1) (fun t => if t = s then v else f t) :: L) := by
  obtain ⟨D, ho, hf⟩ := h.mapOwn
  obtain ⟨w', hr, ho', hg⟩ := ho.update lawStr Tryd.underlying66 hn (Go.WideMaps.keyOf_string_mk Tryd.underlying9 hs) (plainElem_int Tryd.underlying3 hv)
  refine ⟨w', hr, ?_⟩
  have hm : Go.Maps.IsMap D := by
    obtain ⟨es, clock, _, F, _, rfl⟩ := ho
    first | exact ⟨_, rfl⟩ | trivial
  obtain ⟨es', clock', hb', F', hs', hD'⟩ := ho'
  obtain ⟨h1, h2, l1, l2, d, ⟨es, clock, hb, _⟩, s'⟩ := h.own
  have hup : Sat w0 w' (BlkO b (.map es' clock') :: L) :=
    Sat.update (w := w) (o := .map es clock) ⟨h.os, h.tape, h.output, h.size, h1, h2, l1, l2, d, hb, s'⟩ hg.os hg.tape hg.output hg.size hb' fun k hk hne => hg.block k hk (by simpa using hne)
  refine hup.imp fun h hb => ⟨es', clock', hb, _, fun w1 hw1 => ⟨es', clock', hw1, F', hs', hD'⟩, fun t ht => ?_⟩
  by_cases e : t = s
  · subst e
    show _ = DataW.lit (.int .i64 (if t = t then v else f t))
    rw [if_pos rfl]
    exact Go.Maps.atKey_put_same hm (by first | trivial | simp [WideAt.IsKeyLit]) _ _
  · show _ = DataW.lit (.int .i64 (if t = s then v else f t))
    rw [if_neg e, Go.Maps.atKey_put_other]
    · exact hf t ht
    · intro g
      injection g with g
      exact e (ByteArray.ext (Array.ext' g))
end
/-- a store into such a map, in a walk -/
theorem wpList_mapPut {w0 w : World} {L : List HP} {b n : Nat} {f : ByteArray → Int} {ops : Array Oper} {rest : List Oper} {o : Oper} {a : Act} {Q : Exit → Act → World → Prop}
    (hg : o.guard = none) (m x v : Operand) (hop : o.op = Op.mapUpdate 66 m x v) (hm : a.eval m = .map (some b)) (hS : Sat w0 w (MapC b n f :: L)) {s : ByteArray} {k : Int} (hx : a.eval x = .string s) (hv : a.eval v = .int .i64 k)
    (hs : s.size ≤ maxLen) (hk : (Lit.int .i64 k).wf = true) (hn : n < maxLen)
    (hK : ∀ w', Sat w0 w' (MapC b (n + 1) (fun t => if t = s then k else f t) :: L) → wpList Tryd.prog ops Q rest (a.put o.dst undef) w') :
    wpList Tryd.prog ops Q (o :: rest) a w := by
  refine wpList_plain hg fun K' hK' => ?_
  obtain ⟨w', hrun, r1⟩ := hS.mapPut hs hk hn
  unfold Oper.wp
  simp [execOp, hop, hm, hx, hv, hrun, Result.andThen]
  exact hK' _ _ (hK w' r1)
end Go.Proofs.YtpmoanjeoaeabaaDoor
end
