/- The document's order. -/
import Derived.Test.YtpmoanjeoaeabaaDoorCG
set_option linter.unusedVariables false
set_option linter.unusedSimpArgs false
set_option linter.unnecessarySimpa false
set_option maxRecDepth 100000
namespace Go.Proofs.YtpmoanjeoaeabaaDoor
open Go.RowKit Go.ChangeShapes Go.WideShapes Go.ChangeAt
def kindAt (d : Df) (k : Nat) : Int := (d.steps.getD k ⟨.empty, 0, 0, [], [], none, 0, none, 0⟩).kind
theorem kind_at (d : Df) (k : Nat) (h : k < d.steps.length) : d.steps[k].kind = kindAt d k := by
  unfold kindAt
  rw [← List.getElem_eq_getD (h := h)]
def needsAt (d : Df) (k : Nat) : List Int := (d.steps.getD k ⟨.empty, 0, 0, [], [], none, 0, none, 0⟩).needs
theorem needs_at (d : Df) (k : Nat) (h : k < d.steps.length) : d.steps[k].needs = needsAt d k := by
  unfold needsAt
  rw [← List.getElem_eq_getD (h := h)]
/-- does a compensatable step, or a pivot, need one that is not compensatable? -/
def orderB (d : Df) (i : Nat) : Bool := decide (kindAt d i ≠ 3 ∧ ∃ m ∈ needsAt d i, kindAt d m.toNat ≠ 1)
def OrRel (W : World) (b : Nat) (V V2 : List Value) (d : Df) (l : List Int) (x : Value) (wr : World) : Prop :=
  ∃ k : Nat, k ≤ l.length ∧ x = .int .i64 k ∧ Sat W wr [Blk (b + 1) 35 V2, Blk b 24 V, Old W] ∧ ∀ j, j < k → kindAt d (l.getD j 0).toNat = 1
set_option maxHeartbeats 1600000 in
theorem rorder_any {w : World} (d : Df) (i : Nat) (hD : DefAt w d) (hi : i < d.steps.length) (hn : d.steps.length ≤ 1000000000000000000) (hl : (needsAt d i).length ≤ 1000000000000000000)
    (hin : ∀ m ∈ needsAt d i, 0 ≤ m ∧ m < d.steps.length) :
    Calls Tryd.prog 78 #[d.v, .int .i64 i] w fun e w' => e = .returned (.bool (orderB d i)) ∧ Below w.heap.size w w' := by
  obtain ⟨g, o, hA, hc⟩ := step_cells hD (by omega)
  have HC : Hid (∀ w', Below w.heap.size w w' → ∀ k, k < d.steps.length → w'.cell? ⟨g, o + k * 5 + 1, none⟩ = some (.int .i64 (kindAt d k))) := fun w' hb k hk => by
    rw [← kind_at d k hk]
    exact old_cell hb (hc k hk).2.1
  obtain ⟨s0, s1, s2, s3, s4⟩ := hc i hi
  have hE := Lib.hid (hD.each _ (List.getElem_mem hi)).needs
  have HKI : Hid (d.steps[i].kind = kindAt d i) := kind_at d i hi
  have HNI : Hid (d.steps[i].needs = needsAt d i) := needs_at d i hi
  obtain ⟨s, hs⟩ : ∃ s, d.steps[i] = s := ⟨_, rfl⟩
  rw [hs] at s0 s1 s2 s3 s4 hE HKI HNI
  clear hc hs
  obtain ⟨n, hN⟩ : ∃ n, d.steps.length = n := ⟨_, rfl⟩
  have h1 := (Sat.start w).new #[.string d.name, .slice (some ⟨g, o, none⟩) n d.c] 24
  have hold := h1.old (by simp)
  have c0 := old_cell hold s0
  have c1 := old_cell hold s1
  have c2 := old_cell hold s2
  have c3 := old_cell hold s3
  have c4 := old_cell hold s4
  have h2 := h1.new #[.string s.name, .int .i64 s.kind, .int .i64 s.part, .slice s.kA s.keys.length s.kc, .slice s.nA s.needs.length s.nc] 35
  have hsz : (w.alloc (.cells #[.string d.name, .slice (some ⟨g, o, none⟩) n d.c] 24)).heap.size = w.heap.size + 1 := by simp
  rw [hsz] at h2
  obtain ⟨b, hb⟩ : ∃ b, w.heap.size = b := ⟨_, rfl⟩
  obtain ⟨l, hL⟩ : ∃ l, s.needs = l := ⟨_, rfl⟩
  obtain ⟨kd, hK⟩ : ∃ l, s.kind = l := ⟨_, rfl⟩
  rw [hL] at HNI
  rw [hK] at HKI
  rw [← HNI.out] at hl hin
  unfold Df.v
  rw [hA, hN]
  rw [hN] at hi hn HC hin
  rw [hb] at h2
  have H2 := Lib.hid h2
  have HIN := Lib.hid hin
  clear hN hA h1 h2 hD s0 s1 s2 s3 s4 hold hsz hin
  rw [hL] at c4 hE H2
  rw [hK] at c1 H2
  clear hL hK
  go_enter Tryd.func78, Tryd.ntmps78
  go_wp2_with fail
  try simp only [hb]
  go_loopw [6] (OrRel w b [.string d.name, .slice (some ⟨g, o, none⟩) n d.c] [.string s.name, .int .i64 kd, .int .i64 s.part, .slice s.kA s.keys.length s.kc, .slice s.nA l.length s.nc] d l) (fun x _ => l.length - (intOf x).toNat)
  case atStart => exact ⟨0, Nat.zero_le _, rfl, H2.out, fun j hj => by omega⟩
  case round =>
    obtain ⟨k, hk, rfl, hT, hok⟩ := hrel
    clear H2 c0 c1 c2 c3 c4
    have h9 := hT.old (List.mem_cons_of_mem _ (List.mem_cons_of_mem _ List.mem_cons_self))
    have b4 : wr.cell? ⟨b + 1, 4, none⟩ = some (.slice s.nA l.length s.nc) := hT.blk.cell 4
    have b1 : wr.cell? ⟨b + 1, 1, none⟩ = some (.int .i64 kd) := hT.blk.cell 1
    have a1 : wr.cell? ⟨b, 1, none⟩ = some (.slice (some ⟨g, o, none⟩) n d.c) := hT.r2.blk.cell 1
    by_cases hlt : k < l.length
    · obtain ⟨b2, o2, hnA, hcell⟩ := need_cells (hE.out.keep h9) (by omega)
      by_cases h3 : kd = 3
      · have t3 : (kd != 3) = false := by rw [h3]; rfl
        have e : orderB d i = false := decide_eq_false fun ⟨q, _⟩ => q (by rw [← HKI.out]; exact h3)
        have H3 := Lib.hid h3
        clear h3 hcell
        go_wp2_with fail
        go_ret
        exact ⟨by rw [e]; rfl, by first | exact h9 | (rw [hb] at h9; exact h9)⟩
      · have t3 : (kd != 3) = true := by rw [bne_iff_ne]; exact h3
        have hx : l[k] = l.getD k 0 := List.getElem_eq_getD (h := hlt) 0
        have hmem : l.getD k 0 ∈ l := by rw [← hx]; exact List.getElem_mem hlt
        have hin := HIN.out _ hmem
        have c0 := hcell k hlt
        rw [hx] at c0
        obtain ⟨m, hm⟩ : ∃ m : Nat, l.getD k 0 = (m : Int) := ⟨(l.getD k 0).toNat, by omega⟩
        rw [hm] at c0 hin hmem
        have hmn : m < n := by omega
        have c1 := HC.out _ h9 m hmn
        have HM : Hid (kindAt d (l.getD k 0).toNat = kindAt d m) := by rw [hm]; rfl
        have HMEM := Lib.hid hmem
        obtain ⟨q, hq⟩ : ∃ q, kindAt d m = q := ⟨_, rfl⟩
        rw [hq] at c1 HM
        have HQ := Lib.hid hq
        have HT := Lib.hid hT
        have HOK := Lib.hid hok
        have H9 := Lib.hid h9
        have H3 := Lib.hid h3
        have i0 : (0 : Int) ≤ (m : Int) := by omega
        have i1 : (m : Int) < (n : Int) := by omega
        rw [hnA] at b4 ⊢
        clear hx hin hm hq hT hok h9 hcell h3 hmem
        by_cases h5 : q = 1
        · have t5 : (q != 1) = false := by rw [h5]; rfl
          have HS : Hid (∀ j, j < k + 1 → kindAt d (l.getD j 0).toNat = 1) := fun j hj => by
            by_cases e : j = k
            · subst e; rw [HM.out]; exact h5
            · exact HOK.out j (by omega)
          have H5 := Lib.hid h5
          clear h5
          go_wp2_with fail
          go_quiet (fail)
          go_wp2_with fail
          go_roundw
          case rel => exact ⟨k + 1, by omega, by go_num, by rw [← hnA]; exact HT.out.drewN _, HS.out⟩
          case measure => simp [intOf]; omega
        · have t5 : (q != 1) = true := by rw [bne_iff_ne]; exact h5
          have e : orderB d i = true := decide_eq_true ⟨by rw [← HKI.out]; exact H3.out, (m : Int), by rw [← HNI.out]; exact HMEM.out, by rw [show ((m : Int)).toNat = m from rfl, HQ.out]; exact h5⟩
          clear h5
          go_wp2_with fail
          go_quiet (fail)
          go_wp2_with fail
          go_ret
          exact ⟨by rw [e]; rfl, by have h9 := below_drewN H9.out nq; first | exact h9 | (rw [hb] at h9; exact h9)⟩
    · obtain rfl : k = l.length := by omega
      have e : orderB d i = false := decide_eq_false fun ⟨_, m, hm, q⟩ => by
        rw [← HNI.out] at hm
        obtain ⟨j, hj, rfl⟩ := List.getElem_of_mem hm
        have := hok j hj
        rw [← List.getElem_eq_getD (h := hj)] at this
        exact q this
      go_wp2_with fail
      go_ret
      exact ⟨by rw [e]; rfl, by first | exact h9 | (rw [hb] at h9; exact h9)⟩
end Go.Proofs.YtpmoanjeoaeabaaDoor
