/- The registry, plain: how it grows; what is found stays. -/
import Derived.Test.YtpmoanjeoaeabaaDoorRL
set_option linter.unusedVariables false
set_option linter.unusedSimpArgs false
set_option linter.unnecessarySimpa false
set_option maxRecDepth 100000
namespace Go.Proofs.YtpmoanjeoaeabaaDoor
open Go.RowKit Go.ChangeShapes Go.WideShapes Go.ChangeAt
/-- a registry made by putting in, one behind another -/
inductive Grown : List Ver → Prop where
  | nil : Grown []
  | snoc {R : List Ver} (D : Df) : Grown R → Grown (R ++ [⟨D, (verN R D.name : Int) + 1⟩])
theorem verN_snoc (R : List Ver) (r : Ver) (s : ByteArray) : verN (R ++ [r]) s = verN R s + if r.d.name = s then 1 else 0 := by
  unfold verN
  rw [List.countP_append]
  by_cases h : r.d.name = s
  · simp [h]
  · simp [h]
theorem grown_range {R : List Ver} (h : Grown R) : ∀ r ∈ R, 1 ≤ r.v ∧ r.v ≤ verN R r.d.name := by
  induction h with
  | nil => intro r hr; cases hr
  | @snoc R D _ ih =>
    intro r hr
    rw [verN_snoc]
    rcases List.mem_append.1 hr with hr | hr
    · have := ih r hr
      constructor
      · exact this.1
      · have h1 := this.2
        split <;> omega
    · have e : r = ⟨D, (verN R D.name : Int) + 1⟩ := by simpa using hr
      subst e
      constructor
      · show (1 : Int) ≤ (verN R D.name : Int) + 1
        omega
      · show (verN R D.name : Int) + 1 ≤ ((verN R D.name + if D.name = D.name then 1 else 0 : Nat) : Int)
        rw [if_pos rfl]
        omega
theorem findV_keep {R : List Ver} {k : Plc} {r : Ver} (h : findV R k = some r) (X : List Ver) : findV (R ++ X) k = some r := by
  unfold findV at h ⊢
  rw [List.find?_append, h]
  rfl
theorem findV_snoc {R : List Ver} {r : Ver} (h : findV R r.p = none) : findV (R ++ [r]) r.p = some r := by
  unfold findV at h ⊢
  rw [List.find?_append, h]
  simp
theorem findV_none {R : List Ver} {k : Plc} (h : ∀ r ∈ R, r.p ≠ k) : findV R k = none := by
  unfold findV
  rw [List.find?_eq_none]
  intro r hr
  simpa using h r hr
theorem grown_new {R : List Ver} (h : Grown R) (s : ByteArray) : findV R (s, (verN R s : Int) + 1) = none :=
  findV_none fun r hr e => by
    have h1 := grown_range h r hr
    have e1 : r.d.name = s := congrArg Prod.fst e
    have e2 : r.v = (verN R s : Int) + 1 := congrArg Prod.snd e
    rw [e1] at h1
    omega
theorem grown_zero {R : List Ver} (h : Grown R) (s : ByteArray) : findV R (s, 0) = none :=
  findV_none fun r hr e => by
    have h1 := grown_range h r hr
    have e2 : r.v = 0 := congrArg Prod.snd e
    omega
theorem grown_newest {R : List Ver} (h : Grown R) (s : ByteArray) (h0 : 0 < verN R s) : ∃ r, findV R (s, (verN R s : Int)) = some r := by
  induction h with
  | nil => exact absurd h0 (Nat.lt_irrefl 0)
  | @snoc R D hR ih =>
    rw [verN_snoc] at h0 ⊢
    by_cases e : D.name = s
    · subst e
      refine ⟨⟨D, (verN R D.name : Int) + 1⟩, ?_⟩
      have h1 : findV R (Ver.p ⟨D, (verN R D.name : Int) + 1⟩) = none := grown_new hR D.name
      have h2 := findV_snoc h1
      have e2 : ((verN R D.name + if (⟨D, (verN R D.name : Int) + 1⟩ : Ver).d.name = D.name then 1 else 0 : Nat) : Int) = (verN R D.name : Int) + 1 := by
        rw [if_pos rfl]
        omega
      rw [e2]
      exact h2
    · have e' : ¬ (⟨D, (verN R D.name : Int) + 1⟩ : Ver).d.name = s := e
      rw [if_neg e', Nat.add_zero] at h0 ⊢
      obtain ⟨r, hr⟩ := ih h0
      exact ⟨r, findV_keep hr _⟩
theorem ver_name {R : List Ver} {s : ByteArray} {v : Int} {r : Ver} (h : findV R (s, v) = some r) : r.d.name = s ∧ r.v = v := by
  have := (findV_mem h).2
  exact ⟨congrArg Prod.fst this, congrArg Prod.snd this⟩
theorem verN_le (R : List Ver) (s : ByteArray) : verN R s ≤ R.length := List.countP_le_length
end Go.Proofs.YtpmoanjeoaeabaaDoor
