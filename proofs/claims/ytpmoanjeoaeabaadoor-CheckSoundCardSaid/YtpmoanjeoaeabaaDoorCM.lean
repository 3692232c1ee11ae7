/- The program's alone: what is wrong with a step by itself. -/
import Derived.Test.YtpmoanjeoaeabaaDoorCL
import Derived.Test.YtpmoanjeoaeabaaDoorCF
import Derived.Test.YtpmoanjeoaeabaaDoorCG
set_option linter.unusedVariables false
set_option linter.unusedSimpArgs false
set_option linter.unnecessarySimpa false
set_option maxRecDepth 100000
namespace Go.Proofs.YtpmoanjeoaeabaaDoor
open Go.RowKit Go.ChangeShapes Go.WideShapes Go.ChangeAt
/-- a call that leaves all that was there as it was -/
def Quietly (w : World) (v : Value) (e : Ending) (w' : World) : Prop := e = .returned v ∧ Below w.heap.size w w'
/-- the first place at which something holds; n if there is none -/
def fstI (n : Nat) (p : Nat → Bool) : Nat := (List.range n).findIdx p
theorem fst_hit {n k : Nat} {p : Nat → Bool} (hk : k < n) (h : p k = true) (ha : ∀ j, j < k → p j = false) : fstI n p = k := by
  unfold fstI
  have hl : k < (List.range n).length := by rw [List.length_range]; exact hk
  rw [List.findIdx_eq hl]
  refine ⟨by rw [List.getElem_range]; exact h, fun j hj => ?_⟩
  rw [List.getElem_range]
  exact ha j hj
theorem fst_none {n : Nat} {p : Nat → Bool} (ha : ∀ j, j < n → p j = false) : fstI n p = n := by
  unfold fstI
  have : (List.range n).findIdx p = (List.range n).length := by
    rw [List.findIdx_eq_length]
    intro x hx
    exact ha x (List.mem_range.1 hx)
  rw [this, List.length_range]
theorem fst_le (n : Nat) (p : Nat → Bool) : fstI n p ≤ n := by
  unfold fstI
  have : (List.range n).findIdx p ≤ (List.range n).length := List.findIdx_le_length
  rwa [List.length_range] at this
theorem fst_is {n : Nat} {p : Nat → Bool} (h : fstI n p < n) : p (fstI n p) = true := by
  unfold fstI at h ⊢
  have hl : (List.range n).findIdx p < (List.range n).length := by rw [List.length_range]; exact h
  have := List.findIdx_getElem (w := hl)
  rwa [List.getElem_range] at this
theorem fst_no {n j : Nat} {p : Nat → Bool} (h : j < fstI n p) : p j = false := by
  have hjn := Nat.lt_of_lt_of_le h (fst_le n p)
  unfold fstI at h
  have := List.not_of_lt_findIdx h
  rw [List.getElem_range] at this
  simpa using this
/-- what the search answers -/
def retI (n : Nat) (p : Nat → Bool) : Int := if fstI n p < n then fstI n p else -1
theorem ret_hit {n k : Nat} {p : Nat → Bool} (hk : k < n) (h : p k = true) (ha : ∀ j, j < k → p j = false) : retI n p = k := by
  unfold retI
  rw [fst_hit hk h ha, if_pos hk]
theorem ret_none {n : Nat} {p : Nat → Bool} (ha : ∀ j, j < n → p j = false) : retI n p = -1 := by
  unfold retI
  rw [fst_none ha, if_neg (Nat.lt_irrefl _)]
def SxRel (w : World) (n : Nat) (p : Nat → Bool) (i : Value) (wr : World) : Prop := ∃ k : Nat, k ≤ n ∧ i = .int .i64 k ∧ Below w.heap.size w wr ∧ ∀ j, j < k → p j = false
theorem step_at {w : World} (d : Df) (hD : DefAt w d) (k : Nat) (hk : k < d.steps.length) : ∃ b o, d.A = some ⟨b, o, none⟩ ∧
    w.cell? ⟨b, o + k * 5, none⟩ = some (.string d.steps[k].name) ∧ w.cell? ⟨b, o + k * 5 + 1, none⟩ = some (.int .i64 d.steps[k].kind) ∧ w.cell? ⟨b, o + k * 5 + 2, none⟩ = some (.int .i64 d.steps[k].part) ∧
    w.cell? ⟨b, o + k * 5 + 3, none⟩ = some (.slice d.steps[k].kA d.steps[k].keys.length d.steps[k].kc) ∧ w.cell? ⟨b, o + k * 5 + 4, none⟩ = some (.slice d.steps[k].nA d.steps[k].needs.length d.steps[k].nc) := by
  obtain ⟨b, o, e, hc⟩ := step_cells hD (by omega)
  exact ⟨b, o, e, hc k hk⟩
set_option maxHeartbeats 1600000 in
theorem index66 {w : World} (d : Df) (hD : DefAt w d) (n : Nat) (hn : n ≤ d.steps.length) (hm : d.steps.length ≤ 1000000000000000000) (cap : Array Value) (p : Nat → Bool)
    (hp : ∀ w1, Below w.heap.size w w1 → ∀ k (hk : k < d.steps.length), k < n → Calls Tryd.prog 66 (#[(d.steps[k]).v] ++ cap) w1 (Quietly w1 (.bool (p k)))) :
    Calls Tryd.prog 92 #[.slice d.A n d.c, .func (.func 66) #[] cap] w (Quietly w (.int .i64 (retI n p))) := by
  have HD := Lib.hid hD
  have HP := Lib.hid hp
  clear hp hD
  go_enter Tryd.func92, Tryd.ntmps92
  go_wp2_with fail
  go_loopw [8] (SxRel w n p) (fun i _ => n - (intOf i).toNat)
  case atStart => exact ⟨0, Nat.zero_le _, rfl, Below.refl _ w, fun j hj => absurd hj (Nat.not_lt_zero _)⟩
  case round =>
    obtain ⟨k, hk, rfl, hb, ha⟩ := hrel
    by_cases hlt : k < n
    · obtain ⟨g, o, hA, s0, s1, s2, s3, s4⟩ := step_at d (HD.out.keep hb) k (by omega)
      have HCL := Lib.hid (HP.out wr hb k (by omega) hlt)
      unfold St.v Quietly at HCL
      have HX : Hid (∀ b, p k = b → (b = true → retI n p = k) ∧ (b = false → ∀ j, j < k + 1 → p j = false)) := fun b hb => ⟨fun e => ret_hit hlt (hb.trans e) ha, fun e j hj => by
        by_cases hjk2 : j < k
        · exact ha j hjk2
        · obtain rfl : j = k := by omega
          exact hb.trans e⟩
      obtain ⟨b, hbb⟩ : ∃ b, p k = b := ⟨_, rfl⟩
      have HX2 := Lib.hid (HX.out b hbb)
      rw [hbb] at HCL
      obtain ⟨s, hs⟩ : ∃ x, d.steps[k] = x := ⟨_, rfl⟩
      rw [hs] at s0 s1 s2 s3 s4 HCL
      have HB := Lib.hid hb
      rw [hA]
      clear hb ha HX hbb hs HP
      cases b with
      | true =>
        have HF := Lib.hid (HX2.out.1 rfl)
        go_wp2_with fail
        refine HCL.out.mono ?_
        rintro e w' ⟨rfl, hb'⟩
        have HB2 := Lib.hid (below_step HB.out hb')
        clear hb'
        go_wp2_with fail
        go_ret
        exact ⟨by rw [HF.out]; rfl, HB2.out⟩
      | false =>
        have HF := Lib.hid (HX2.out.2 rfl)
        go_wp2_with fail
        refine HCL.out.mono ?_
        rintro e w' ⟨rfl, hb'⟩
        have HB2 := Lib.hid (below_step HB.out hb')
        clear hb'
        go_wp2_with fail
        go_roundw
        case rel => exact ⟨k + 1, by omega, by go_num, HB2.out, HF.out⟩
        case measure => simp [intOf]; omega
    · have HB := Lib.hid hb
      have HF := Lib.hid (ret_none (n := n) (p := p) fun j hj => ha j (by omega))
      clear hb ha
      go_wp2_with fail
      go_ret
      exact ⟨by rw [HF.out]; rfl, HB.out⟩
theorem ret_ge (n : Nat) (p : Nat → Bool) : decide (0 ≤ retI n p) = decide (∃ k, k < n ∧ p k = true) := by
  by_cases h : ∃ k, k < n ∧ p k = true
  · rw [decide_eq_true h]
    obtain ⟨k, hk, hp⟩ := h
    have : fstI n p < n := by
      rcases Nat.lt_or_ge (fstI n p) n with h2 | h2
      · exact h2
      · have h3 := fst_no (n := n) (p := p) (j := k) (by omega)
        rw [hp] at h3; cases h3
    unfold retI
    rw [if_pos this]
    exact decide_eq_true (by omega)
  · rw [decide_eq_false h, ret_none fun j hj => by
      cases hpj : p j with
      | false => rfl
      | true => exact absurd ⟨j, hj, hpj⟩ h]
    decide
theorem contains66 {w : World} (d : Df) (hD : DefAt w d) (n : Nat) (hn : n ≤ d.steps.length) (hm : d.steps.length ≤ 1000000000000000000) (cap : Array Value) (p : Nat → Bool)
    (hp : ∀ w1, Below w.heap.size w w1 → ∀ k (hk : k < d.steps.length), k < n → Calls Tryd.prog 66 (#[(d.steps[k]).v] ++ cap) w1 (Quietly w1 (.bool (p k)))) :
    Calls Tryd.prog 65 #[.slice d.A n d.c, .func (.func 66) #[] cap] w (Quietly w (.bool (decide (∃ k, k < n ∧ p k = true)))) := by
  have h1 := Lib.hid (index66 d hD n hn hm cap p hp)
  rw [← ret_ge]
  clear hp hD
  unfold Quietly at h1 ⊢
  obtain ⟨r, hr⟩ : ∃ r, retI n p = r := ⟨_, rfl⟩
  rw [hr] at h1 ⊢
  clear hr
  go_enter Tryd.func65, Tryd.ntmps65
  go_wp2_with fail
  refine h1.out.mono ?_
  rintro e w1 ⟨rfl, hb⟩
  have HB := Lib.hid hb
  clear hb
  go_wp2_with fail
  go_ret
  exact ⟨rfl, HB.out⟩
theorem str_dec (a b : ByteArray) : (a.toList == b.toList) = decide (a = b) := by
  by_cases h : a = b
  · rw [str_yes h, decide_eq_true h]
  · rw [str_no h, decide_eq_false h]
set_option maxHeartbeats 1600000 in
theorem tells66 {w : World} (x : St) (gp : Nat) (nm : ByteArray) (h : w.cell? ⟨gp, 0, none⟩ = some (.string nm)) :
    Calls Tryd.prog 66 #[x.v, .pointer (some ⟨gp, 0, none⟩)] w (Quietly w (.bool (decide (x.name = nm)))) := by
  have h1 := (Sat.start w).new #[.string x.name, .int .i64 x.kind, .int .i64 x.part, .slice x.kA x.keys.length x.kc, .slice x.nA x.needs.length x.nc] 35
  have x0 := old_cell (h1.old (by simp)) h
  have y0 := h1.blk.cell 0
  obtain ⟨b, hb⟩ : ∃ b, w.heap.size = b := ⟨_, rfl⟩
  have H1 := Lib.hid h1
  rw [← str_dec]
  unfold St.v Quietly
  rw [hb] at h1 y0
  have HBB := Lib.hid hb
  clear h1 h
  go_enter Tryd.func66, Tryd.ntmps66
  go_wp2_with fail
  go_ret
  exact ⟨rfl, by have h9 := H1.out.old (by simp); first | exact h9 | (rw [← hb]; exact h9) | (rw [hb] at h9; exact h9)⟩
theorem elems_cap {w : World} {A : Option Addr} {n c sz : Nat} {L : List (List Value)} (h : Elems w (.slice A n c) sz L) : L.length ≤ c := by
  obtain ⟨A', c', e, hc, _⟩ := h
  injection e with e1 e2 e3
  omega
def partAt (d : Df) (k : Nat) : Int := (d.steps.getD k ⟨.empty, 0, 0, [], [], none, 0, none, 0⟩).part
def keysAt (d : Df) (k : Nat) : List ByteArray := (d.steps.getD k ⟨.empty, 0, 0, [], [], none, 0, none, 0⟩).keys
theorem part_at (d : Df) (k : Nat) (h : k < d.steps.length) : d.steps[k].part = partAt d k := by
  unfold partAt
  rw [← List.getElem_eq_getD (h := h)]
theorem keys_at (d : Df) (k : Nat) (h : k < d.steps.length) : d.steps[k].keys = keysAt d k := by
  unfold keysAt
  rw [← List.getElem_eq_getD (h := h)]
/-- what is wrong with a step by itself -/
def aloneE (d : Df) (i : Nat) : Int :=
  if isN (nameAt d i) = false then 110 else if twiceB d i = true then 112 else if kindAt d i < 1 ∨ 3 < kindAt d i then 113 else if partAt d i < 0 ∨ 3 < partAt d i then 114
  else if keysB (keysAt d i) (partAt d i) = false then 115 else if needsB (needsAt d i) i d.steps.length = false then 116 else 0
/-- sizes of what a definition holds -/
structure Sized (d : Df) : Prop where
  name : d.name.size ≤ 140737488351232
  names : ∀ s ∈ d.steps, s.name.size ≤ 140737488351232
  keys : ∀ s ∈ d.steps, ∀ k ∈ s.keys, k.size ≤ 140737488351232
  needs : ∀ s ∈ d.steps, s.needs.length ≤ 17592186043904
  keyn : ∀ s ∈ d.steps, s.keys.length ≤ 17592186043904
  steps : d.steps.length ≤ 17592186043904
set_option maxHeartbeats 3200000 in
theorem alone_any {w : World} (d : Df) (i : Nat) (hD : DefAt w d) (hi : i < d.steps.length) (hz : Sized d) (hT : Lib.Utf8Tabs 0 1 w) :
    Calls Tryd.prog 37 #[d.v, .int .i64 i] w (Quietly w (.int .i64 (aloneE d i))) := by
  obtain ⟨g, o, hA, s0, s1, s2, s3, s4⟩ := step_at d hD i hi
  have hmem : d.steps[i] ∈ d.steps := List.getElem_mem hi
  have hSt := Lib.hid (hD.each _ hmem)
  have HNE : Hid (∀ w1, Below w.heap.size w w1 → Calls Tryd.prog 68 #[d.v, .int .i64 i] w1 fun e w' => e = .returned (.bool (needsB (needsAt d i) i d.steps.length)) ∧ Below w1.heap.size w1 w') := fun w1 hb => by
    rw [← needs_at d i hi]
    exact needs_any d i (hD.keep hb) hi (by have := hz.needs _ hmem; omega) (by have := hz.steps; omega)
  have HKE : Hid (∀ w1, Below w.heap.size w w1 → Calls Tryd.prog 67 #[(d.steps[i]).v] w1 fun e w' => e = .returned (.bool (keysB (keysAt d i) (partAt d i))) ∧ Below w1.heap.size w1 w') := fun w1 hb => by
    rw [← keys_at d i hi, ← part_at d i hi]
    exact keys_any _ (hSt.out.keep hb) (hz.keys _ hmem) (tabs_keep hT hb)
  have HIS : Hid (∀ w1, Calls Tryd.prog 36 #[.string d.steps[i].name] w1 fun e w' => e = .returned (.bool (isN (nameAt d i))) ∧ Below w1.heap.size w1 w') := fun w1 => by
    rw [← name_at d i hi]
    exact is_any _ w1 (hz.names _ hmem)
  have HTW : Hid (∀ (b : Nat) (w1 : World), Below w.heap.size w w1 → w1.cell? ⟨b, 0, none⟩ = some (.string d.steps[i].name) → Calls Tryd.prog 65 #[.slice d.A i d.c, .func (.func 66) #[] #[.pointer (some ⟨b, 0, none⟩)]] w1 (Quietly w1 (.bool (twiceB d i)))) := fun b w1 hb hc => by
    have h := contains66 d (hD.keep hb) i (Nat.le_of_lt hi) (by have := hz.steps; omega) #[.pointer (some ⟨b, 0, none⟩)] (fun k => decide (nameAt d k = nameAt d i)) (fun w2 hb2 k hk hki => by
      rw [← name_at d k hk, ← name_at d i hi]
      exact tells66 _ b _ (old_cell hb2 hc))
    have e : decide (∃ k, k < i ∧ decide (nameAt d k = nameAt d i) = true) = twiceB d i := by
      unfold twiceB
      simp only [decide_eq_true_eq]
    rw [e] at h
    exact h
  have HK : Hid (d.steps[i].kind = kindAt d i) := kind_at d i hi
  have HPA : Hid (d.steps[i].part = partAt d i) := part_at d i hi
  obtain ⟨s, hs⟩ : ∃ s, d.steps[i] = s := ⟨_, rfl⟩
  rw [hs] at s0 s1 s2 s3 s4 HKE HIS HTW HK HPA
  have hu : aloneE d i = if isN (nameAt d i) = false then 110 else if twiceB d i = true then 112 else if kindAt d i < 1 ∨ 3 < kindAt d i then 113 else if partAt d i < 0 ∨ 3 < partAt d i then 114
    else if keysB (keysAt d i) (partAt d i) = false then 115 else if needsB (needsAt d i) i d.steps.length = false then 116 else 0 := rfl
  rw [hu]
  unfold Df.v at HNE ⊢
  unfold Quietly at HTW
  unfold St.v at HKE
  unfold Quietly
  have HCAP : Hid (d.steps.length ≤ d.c) := by have h := elems_cap hD.steps; rwa [List.length_map] at h
  clear hu hs hmem hSt hT hz hD
  obtain ⟨n, hN⟩ : ∃ n, d.steps.length = n := ⟨_, rfl⟩
  obtain ⟨i1, hi1⟩ : ∃ b, isN (nameAt d i) = b := ⟨_, rfl⟩
  obtain ⟨i2, hi2⟩ : ∃ b, twiceB d i = b := ⟨_, rfl⟩
  obtain ⟨i5, hi5⟩ : ∃ b, keysB (keysAt d i) (partAt d i) = b := ⟨_, rfl⟩
  rw [hN] at HNE HCAP
  obtain ⟨i6, hi6⟩ : ∃ b, needsB (needsAt d i) i n = b := ⟨_, rfl⟩
  rw [hN] at hi ⊢
  rw [hi1] at HIS
  rw [hi2] at HTW
  rw [hi5] at HKE
  rw [hi6] at HNE
  rw [hi1, hi2, hi5, hi6, ← HK.out, ← HPA.out]
  obtain ⟨v, hv⟩ : ∃ v : Int, v = (if i1 = false then 110 else if i2 = true then 112 else if s.kind < 1 ∨ 3 < s.kind then 113 else if s.part < 0 ∨ 3 < s.part then 114
    else if i5 = false then 115 else if i6 = false then 116 else 0) := ⟨_, rfl⟩
  rw [← hv]
  have HV := Lib.hid hv
  clear hv
  have h1 := (Sat.start w).new #[.string d.name, .slice (some ⟨g, o, none⟩) n d.c] 24
  have hold := h1.old (by simp)
  have c0 := old_cell hold s0
  have c1 := old_cell hold s1
  have c2 := old_cell hold s2
  have c3 := old_cell hold s3
  have c4 := old_cell hold s4
  have h2 := h1.new #[.string s.name, .int .i64 s.kind, .int .i64 s.part, .slice s.kA s.keys.length s.kc, .slice s.nA s.needs.length s.nc] 35
  have hsz : (w.alloc (.cells #[.string d.name, .slice (some ⟨g, o, none⟩) n d.c] 24)).heap.size = w.heap.size + 1 := by simp
  rw [hsz] at h2
  obtain ⟨b, hb⟩ : ∃ b, w.heap.size = b := ⟨_, rfl⟩
  rw [hA] at HNE HTW ⊢
  rw [hb] at h2
  have H2 := Lib.hid h2
  have HBB := Lib.hid hb
  have c5 := h1.blk.cell 1
  rw [hb] at c5
  have hi0 : (i : Int) < (n : Int) := by omega
  have hin : (i : Int) ≤ (n : Int) := by omega
  have hic : i ≤ d.c := by have := HCAP.out; omega
  clear h1 h2 hold hsz s0 s1 s2 s3 s4 hi1 hi2 hi5 hi6 hN hA HK HPA
  go_enter Tryd.func37, Tryd.ntmps37
  go_wp2_with fail
  try simp only [hb]
  refine (HTW.out (b + 1) _ (H2.out.old (by simp)) (H2.out.blk.cell 0)).mono ?_
  rintro e w1 ⟨rfl, hb1⟩
  have H3 := Lib.hid (H2.out.below hb1)
  have d0 := H3.out.blk.cell 0
  clear hb1 H2 c0 c1 c2 c3 c4 c5
  go_wp2_with fail
  refine (HIS.out _).mono ?_
  rintro e w2 ⟨rfl, hb2⟩
  have H4 := Lib.hid (H3.out.below hb2)
  clear hb2 H3 d0
  cases i1 with
  | false =>
    go_wp2_with fail
    go_ret
    exact ⟨by rw [HV.out]; rfl, by have h9 := H4.out.old (by simp); first | exact h9 | (rw [hb] at h9; exact h9) | (simp only [hb] at h9 ⊢; exact h9)⟩
  | true =>
    cases i2 with
    | true =>
      go_wp2_with fail
      go_ret
      exact ⟨by rw [HV.out]; rfl, by have h9 := H4.out.old (by simp); first | exact h9 | (rw [hb] at h9; exact h9) | (simp only [hb] at h9 ⊢; exact h9)⟩
    | false =>
      have e1 := H4.out.blk.cell 1
      have e2 := H4.out.blk.cell 2
      by_cases hk1 : s.kind < 1
      · have t1 : decide (s.kind < 1) = true := decide_eq_true hk1
        have K1 := Lib.hid hk1
        clear hk1
        go_wp2_with fail
        go_ret
        exact ⟨by rw [HV.out]; have qK1 := K1.out; simp; first | done | ((repeat' split) <;> first | rfl | omega),  by have h9 := H4.out.old (by simp); first | exact h9 | (rw [hb] at h9; exact h9) | (simp only [hb] at h9 ⊢; exact h9)⟩
      have t1 : decide (s.kind < 1) = false := decide_eq_false hk1
      by_cases hk2 : 3 < s.kind
      · have t2 : decide (3 < s.kind) = true := decide_eq_true hk2
        have K1 := Lib.hid hk1
        have K2 := Lib.hid hk2
        clear hk1 hk2
        go_wp2_with fail
        go_ret
        exact ⟨by rw [HV.out]; have qK1 := K1.out; have qK2 := K2.out; simp; first | done | ((repeat' split) <;> first | rfl | omega),  by have h9 := H4.out.old (by simp); first | exact h9 | (rw [hb] at h9; exact h9) | (simp only [hb] at h9 ⊢; exact h9)⟩
      have t2 : decide (3 < s.kind) = false := decide_eq_false hk2
      by_cases hp1 : s.part < 0
      · have t3 : decide (s.part < 0) = true := decide_eq_true hp1
        have K1 := Lib.hid hk1
        have K2 := Lib.hid hk2
        have K3 := Lib.hid hp1
        clear hk1 hk2 hp1
        go_wp2_with fail
        go_ret
        exact ⟨by rw [HV.out]; have qK1 := K1.out; have qK2 := K2.out; have qK3 := K3.out; simp; first | done | ((repeat' split) <;> first | rfl | omega),  by have h9 := H4.out.old (by simp); first | exact h9 | (rw [hb] at h9; exact h9) | (simp only [hb] at h9 ⊢; exact h9)⟩
      have t3 : decide (s.part < 0) = false := decide_eq_false hp1
      by_cases hp2 : 3 < s.part
      · have t4 : decide (4 ≤ s.part) = true := decide_eq_true (by omega)
        have K1 := Lib.hid hk1
        have K2 := Lib.hid hk2
        have K3 := Lib.hid hp1
        have K4 := Lib.hid hp2
        clear hk1 hk2 hp1 hp2
        go_wp2_with fail
        go_ret
        exact ⟨by rw [HV.out]; have qK1 := K1.out; have qK2 := K2.out; have qK3 := K3.out; have qK4 := K4.out; simp; first | done | ((repeat' split) <;> first | rfl | omega),  by have h9 := H4.out.old (by simp); first | exact h9 | (rw [hb] at h9; exact h9) | (simp only [hb] at h9 ⊢; exact h9)⟩
      have t4 : decide (4 ≤ s.part) = false := decide_eq_false (by omega)
      have e0 := H4.out.blk.cell 0
      have e3 := H4.out.blk.cell 3
      have e4 := H4.out.blk.cell 4
      have K1 := Lib.hid hk1
      have K2 := Lib.hid hk2
      have K3 := Lib.hid hp1
      have K4 := Lib.hid hp2
      clear hk1 hk2 hp1 hp2
      go_wp2_with fail
      refine (HKE.out _ (H4.out.old (by simp))).mono ?_
      rintro e w3 ⟨rfl, hb3⟩
      have H5 := Lib.hid (H4.out.below hb3)
      clear hb3 H4 e0 e1 e2 e3 e4
      cases i5 with
      | false =>
        go_wp2_with fail
        go_ret
        exact ⟨by rw [HV.out]; have qK1 := K1.out; have qK2 := K2.out; have qK3 := K3.out; have qK4 := K4.out; simp; first | done | ((repeat' split) <;> first | rfl | omega),  by have h9 := H5.out.old (by simp); first | exact h9 | (rw [hb] at h9; exact h9) | (simp only [hb] at h9 ⊢; exact h9)⟩
      | true =>
        have g0 := H5.out.r2.blk.cell 0
        have g1 := H5.out.r2.blk.cell 1
        go_wp2_with fail
        refine (HNE.out _ (H5.out.old (by simp))).mono ?_
        rintro e w4 ⟨rfl, hb4⟩
        have H6 := Lib.hid (H5.out.below hb4)
        clear hb4 H5 g0 g1
        cases i6 with
        | false =>
          go_wp2_with fail
          go_ret
          exact ⟨by rw [HV.out]; have qK1 := K1.out; have qK2 := K2.out; have qK3 := K3.out; have qK4 := K4.out; simp; first | done | ((repeat' split) <;> first | rfl | omega),  by have h9 := H6.out.old (by simp); first | exact h9 | (rw [hb] at h9; exact h9) | (simp only [hb] at h9 ⊢; exact h9)⟩
        | true =>
          go_wp2_with fail
          go_ret
          exact ⟨by rw [HV.out]; have qK1 := K1.out; have qK2 := K2.out; have qK3 := K3.out; have qK4 := K4.out; simp; first | done | ((repeat' split) <;> first | rfl | omega),  by have h9 := H6.out.old (by simp); first | exact h9 | (rw [hb] at h9; exact h9) | (simp only [hb] at h9 ⊢; exact h9)⟩
end Go.Proofs.YtpmoanjeoaeabaaDoor
