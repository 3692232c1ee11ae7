/- The walk of CostGrows. -/
import Derived.Test.YtpmoanjeoaeabaaDoorDX
set_option linter.unusedVariables false
set_option linter.unusedSimpArgs false
set_option linter.unnecessarySimpa false
set_option maxRecDepth 100000
namespace Go.Proofs.YtpmoanjeoaeabaaDoor
open Go.RowKit Go.ChangeShapes Go.WideShapes Go.ChangeAt
def zS (p : Int) : St := ⟨zName, 3, p, [], [], none, 0, none, 0⟩
theorem more_of {D d : Df} (h : Like D d) (p : Int) (A : Option Addr) (c : Nat) : More ⟨D.name, D.steps ++ [zS p], A, c⟩ d p := by
  refine ⟨h.name, ?_⟩
  show (D.steps ++ [zS p]).map St.core = _
  rw [List.map_append, h.steps]
  rfl
theorem Sat.moreDef {w0 w : World} {F : List HP} {D d : Df} {p : Int} {A : Option Addr} {n c : Nat} (h2 : Sat w0 w (Row 35 5 A n c (stepsC (D.steps ++ [zS p])) :: sep (D.steps.map stP) :: F)) (hn : (D.steps ++ [zS p]).length = n) (hp : wf64 p) (hl : Like D d) {W : World} (hd : DefAt W d) :
    DefAt w ⟨D.name, D.steps ++ [zS p], A, c⟩ := by
  have hst : ∀ s ∈ D.steps, StAt w s := fun s hs => by
    obtain ⟨F', hF⟩ := h2.r2.pickP (List.mem_map.2 ⟨s, hs, rfl⟩)
    obtain ⟨t, ht, e⟩ := mem_core hl hs
    have hT := hd.each t ht
    injection e with e1 e2 e3 e4 e5
    refine hF.ownStep ?_ ?_ ?_ ?_ ?_
    · rw [← e2]; exact hT.kind
    · rw [← e3]; exact hT.part
    · rw [← e5]; exact hT.need
    · rw [← e1]; exact hT.name
    · rw [← e4]; exact hT.key
  refine ⟨?_, fun s hs => ?_, by show D.name.size ≤ _; rw [hl.name]; exact hd.name⟩
  · show Elems w (.slice A (D.steps ++ [zS p]).length c) 5 ((D.steps ++ [zS p]).map St.vs)
    rw [hn]
    refine elems_row h2 _ ?_ (by rw [List.length_map, hn]) (fun x hx => ?_) (by decide)
    · unfold stepsC
      rw [List.flatMap_def]
    · obtain ⟨b, _, rfl⟩ := List.mem_map.1 hx; rfl
  · rcases List.mem_append.1 hs with hs | hs
    · exact hst s hs
    · have e : s = zS p := by simpa using hs
      subst e
      exact ⟨elems_nil w 1, elems_nil w 1, by show wf64 3; unfold wf64; decide, hp, fun n hn => absurd hn (List.not_mem_nil), by show 8 ≤ 9223372036854775807; decide, fun k hk => absurd hk (List.not_mem_nil)⟩
theorem more_fits {D d : Df} {p : Int} {A : Option Addr} {c : Nat} (hl : Like D d) (hf : Fits d) (h8 : d.steps.length ≤ 8) : Fits ⟨D.name, D.steps ++ [zS p], A, c⟩ := by
  have h := hl.fits hf
  have hm : ∀ s ∈ D.steps ++ [zS p], s ∈ D.steps ∨ s = zS p := fun s hs => by
    rcases List.mem_append.1 hs with hs | hs
    · exact .inl hs
    · exact .inr (by simpa using hs)
  refine ⟨h.name, fun s hs => ?_, fun s hs => ?_, fun s hs => ?_, fun s hs => ?_, ?_⟩
  · rcases hm s hs with g | rfl
    · exact h.names s g
    · show 8 ≤ _; decide
  · rcases hm s hs with g | rfl
    · exact h.keys s g
    · intro k hk; exact absurd hk (List.not_mem_nil)
  · rcases hm s hs with g | rfl
    · exact h.needs s g
    · exact Nat.zero_le _
  · rcases hm s hs with g | rfl
    · exact h.keyn s g
    · exact Nat.zero_le _
  · show (D.steps ++ [zS p]).length * 80 ≤ _
    have := hl.len
    rw [List.length_append]
    simp
    omega
theorem cost_no {d : Df} : (checkN d).2 ≠ 0 → ∃ o a0 a1 a2 a3 : Int, costN d = .tuple #[.agg #[.int .i64 o, .int .i64 a0, .int .i64 a1, .int .i64 a2, .int .i64 a3], .int .i64 1] := fun h => ⟨_, _, _, _, _, if_neg h⟩
theorem cost_yes {d : Df} (h : (checkN d).2 = 0) {n : Nat} (hn : d.steps.length = n) : ∃ a : Nat, a = 3 + (namedL d).length + sumO d d.steps.length ∧
    costN d = .tuple #[.agg #[.int .i64 (a : Nat), .int .i64 (cpTo d n 0 : Nat), .int .i64 (cpTo d n 1 : Nat), .int .i64 (cpTo d n 2 : Nat), .int .i64 (cpTo d n 3 : Nat)], .int .i64 0] := by
  subst hn
  exact ⟨_, rfl, if_pos h⟩
/-- what the costs of the longer one come to -/
theorem grown {D d : Df} (h : Like D d) (hc : (checkN d).2 = 0) (h8 : d.steps.length ≠ 8) (p : Nat) (hp : p < 4) (hz : ∀ k, k < d.steps.length → nameAt d k ≠ zName) (A : Option Addr) (c : Nat) :
    ∃ (b : Nat) (g : Nat → Nat), costN ⟨D.name, D.steps ++ [zS p], A, c⟩ = .tuple #[.agg #[.int .i64 (b : Nat), .int .i64 (g 0 : Nat), .int .i64 (g 1 : Nat), .int .i64 (g 2 : Nat), .int .i64 (g 3 : Nat)], .int .i64 0] ∧
      3 + (namedL d).length + sumO d d.steps.length < b ∧ (∀ x, cpTo d d.steps.length x ≤ g x) ∧ cpTo d d.steps.length p < g p := by
  have hm := more_of h (p : Int) A c
  have hcl := hm.clean (clean_of hc).1 h8 (by omega) hz
  have hok : (checkN ⟨D.name, D.steps ++ [zS p], A, c⟩).2 = 0 := by
    rw [clean_check hcl (by show isN D.name = true; rw [h.name]; exact check_isN hc)]
  refine ⟨_, cpTo ⟨D.name, D.steps ++ [zS p], A, c⟩ (D.steps ++ [zS p]).length, if_pos hok, hm.orch, fun x => (hm.cp x).1, (hm.cp p).2 rfl⟩
end Go.Proofs.YtpmoanjeoaeabaaDoor
