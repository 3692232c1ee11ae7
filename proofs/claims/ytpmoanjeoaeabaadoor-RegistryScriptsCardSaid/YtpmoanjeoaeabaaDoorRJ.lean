/- The registry: what is found in it. -/
import Derived.Test.YtpmoanjeoaeabaaDoorRI
set_option linter.unusedVariables false
set_option linter.unusedSimpArgs false
set_option linter.unnecessarySimpa false
set_option maxRecDepth 100000
namespace Go.Proofs.YtpmoanjeoaeabaaDoor
open Go.RowKit Go.ChangeShapes Go.WideShapes Go.ChangeAt
/-- what of a definition does not hang on memory: numbers in their bounds, texts not too long -/
structure Wf (d : Df) : Prop where
  fits : Fits d
  kind : ∀ s ∈ d.steps, wf64 s.kind
  part : ∀ s ∈ d.steps, wf64 s.part
  need : ∀ s ∈ d.steps, ∀ n ∈ s.needs, wf64 n
theorem wf_of {W : World} {d : Df} (h : DefAt W d) (hf : Fits d) : Wf d := ⟨hf, fun s hs => (h.each s hs).kind, fun s hs => (h.each s hs).part, fun s hs => (h.each s hs).need⟩
theorem Like.wf {a d : Df} (h : Like a d) (hw : Wf d) : Wf a := by
  have hc : ∀ s ∈ a.steps, ∃ t ∈ d.steps, t.kind = s.kind ∧ t.part = s.part ∧ t.needs = s.needs := fun s hs => by
    obtain ⟨t, ht, e⟩ := mem_core h hs
    injection e with e1 e2 e3 e4 e5
    exact ⟨t, ht, e2, e3, e5⟩
  refine ⟨h.fits hw.fits, fun s hs => ?_, fun s hs => ?_, fun s hs => ?_⟩ <;> obtain ⟨t, ht, e1, e2, e3⟩ := hc s hs
  · rw [← e1]; exact hw.kind t ht
  · rw [← e2]; exact hw.part t ht
  · rw [← e3]; exact hw.need t ht
theorem Sat.wfDef {w0 w : World} {F : List HP} {D : Df} (h : Sat w0 w (OwnP D :: F)) (hw : Wf D) : DefAt w D := by
  have h2 : Sat w0 w (Row 35 5 D.A D.steps.length D.c (stepsC D.steps) :: sep (D.steps.map stP) :: F) := h.open_
  refine ⟨elems_row h2 (D.steps.map St.vs) ?_ (by simp) (fun x hx => ?_) (by decide), fun s hs => ?_, by have := hw.fits.name; omega⟩
  · unfold stepsC
    rw [List.flatMap_def]
  · obtain ⟨b, _, rfl⟩ := List.mem_map.1 hx; rfl
  · obtain ⟨F', hF⟩ := h2.r2.pickP (List.mem_map.2 ⟨s, hs, rfl⟩)
    exact hF.ownStep (hw.kind s hs) (hw.part s hs) (hw.need s hs) (by have := hw.fits.names s hs; omega) fun k hk => by have := hw.fits.keys s hs k hk; omega
theorem Sat.regDef {w0 w : World} {F : List HP} {R : List Ver} {r : Ver} (h : Sat w0 w (sep (R.map fun r => OwnP r.d) :: F)) (hr : r ∈ R) (hw : Wf r.d) : DefAt w r.d := by
  obtain ⟨F', hF⟩ := h.pickP (List.mem_map.2 ⟨r, hr, rfl⟩)
  exact hF.wfDef hw
/-- the version that stands at a place -/
def findV (R : List Ver) (k : Plc) : Option Ver := R.find? fun r => decide (r.p = k)
theorem findP_V (k : Plc) : ∀ (R : List Ver) (i : Nat), (findP k (R.map fun r => (r.p, r.d.v)) i).map Prod.snd = (findV R k).map fun r => r.d.v
  | [], i => rfl
  | r :: R, i => by
    have ih := findP_V k R (i + 1)
    show (findP k ((r.p, r.d.v) :: R.map fun r => (r.p, r.d.v)) i).map Prod.snd = _
    unfold findP findV
    by_cases e : k = r.p
    · rw [if_pos e, List.find?_cons_of_pos (by simpa using e.symm)]
      rfl
    · rw [if_neg e, List.find?_cons_of_neg (by simpa using fun g => e g.symm)]
      exact ih
theorem valP_V (R : List Ver) (k : Plc) : valP (R.map fun r => (r.p, r.d.v)) k = match findV R k with | some r => r.d.v | none => .agg #[.string ⟨#[]⟩, .slice none 0 0] := by
  have h := findP_V k R 0
  unfold valP
  cases hf : findP k (R.map fun r => (r.p, r.d.v)) 0 with
  | none =>
    rw [hf] at h
    cases hv : findV R k with
    | none => rfl
    | some r => rw [hv] at h; cases h
  | some x =>
    rw [hf] at h
    cases hv : findV R k with
    | none => rw [hv] at h; cases h
    | some r => rw [hv] at h; exact Option.some.inj h
theorem isP_V (R : List Ver) (k : Plc) : (findP k (R.map fun r => (r.p, r.d.v)) 0).isSome = (findV R k).isSome := by
  have h := congrArg Option.isSome (findP_V k R 0)
  simpa using h
theorem ret_V (R : List Ver) (k : Plc) : (0 ≤ retI (R.map Ver.p).length fun j => decide ((R.map Ver.p).getD j (.empty, 0) = k)) ↔ (findV R k).isSome = true := by
  have h := ret_ge (R.map Ver.p).length fun j => decide ((R.map Ver.p).getD j (.empty, 0) = k)
  have h2 : (0 ≤ retI (R.map Ver.p).length fun j => decide ((R.map Ver.p).getD j (.empty, 0) = k)) ↔ ∃ j, j < (R.map Ver.p).length ∧ decide ((R.map Ver.p).getD j (.empty, 0) = k) = true := decide_eq_decide.1 h
  rw [h2]
  unfold findV
  rw [List.find?_isSome]
  constructor
  · rintro ⟨j, hj, e⟩
    have hj' : j < R.length := by simpa using hj
    refine ⟨R[j], List.getElem_mem hj', ?_⟩
    rw [← List.getElem_eq_getD (h := hj), List.getElem_map] at e
    exact e
  · rintro ⟨r, hr, e⟩
    obtain ⟨j, hj, rfl⟩ := List.getElem_of_mem hr
    refine ⟨j, by simpa using hj, ?_⟩
    rw [← List.getElem_eq_getD (h := by simpa using hj), List.getElem_map]
    exact e
theorem findV_mem {R : List Ver} {k : Plc} {r : Ver} (h : findV R k = some r) : r ∈ R ∧ r.p = k := by
  unfold findV at h
  exact ⟨List.mem_of_find?_eq_some h, by simpa using List.find?_some h⟩
end Go.Proofs.YtpmoanjeoaeabaaDoor
