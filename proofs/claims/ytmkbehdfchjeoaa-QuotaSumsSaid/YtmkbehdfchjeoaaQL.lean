/- The law QuotaSums: what holds of the numbers; the loops' words. -/
import Derived.Test.YtmkbehdfchjeoaaQH
import Derived.Test.YtmkbehdfchjeoaaQS
import Derived.Test.YtmkbehdfchjeoaaSL
set_option linter.unusedVariables false
set_option linter.unusedSimpArgs false
set_option linter.unnecessarySimpa false
namespace Go.Proofs.Ytmkbehdfchjeoaa
open Go.RowKit Go.ChangeShapes Go.WideShapes Go.ChangeAt
/-- what was admitted and not closed: what there was less what is left -/
def usedV (o p0 p1 p2 p3 : Int) (q : QS) : List Value := [.int .i64 (o - q.orch), .int .i64 (p0 - q.p0), .int .i64 (p1 - q.p1), .int .i64 (p2 - q.p2), .int .i64 (p3 - q.p3)]
def leftV (q : QS) : List Value := [.int .i64 q.orch, .int .i64 q.p0, .int .i64 q.p1, .int .i64 q.p2, .int .i64 q.p3]
def partsV (p0 p1 p2 p3 : Int) : List Value := [.int .i64 p0, .int .i64 p1, .int .i64 p2, .int .i64 p3]
def opV (op co c0 c1 c2 c3 : Int) : List Value := [.int .i64 op, .int .i64 co, .int .i64 c0, .int .i64 c1, .int .i64 c2, .int .i64 c3]
def Inv (l o p0 p1 p2 p3 : Int) (q : QS) : Prop := QOk q ∧ q.most = l ∧ q.orch ≤ o ∧ q.p0 ≤ p0 ∧ q.p1 ≤ p1 ∧ q.p2 ≤ p2 ∧ q.p3 ≤ p3 ∧ o ≤ 100000 ∧ p0 ≤ 100000 ∧ p1 ≤ 100000 ∧ p2 ≤ 100000 ∧ p3 ≤ 100000
theorem inv_beg {l o p0 p1 p2 p3 : Int} (h : newB l o p0 p1 p2 p3 4 = true) : Inv l o p0 p1 p2 p3 (begQ l o p0 p1 p2 p3) := by
  refine ⟨ok_beg h, rfl, ?_⟩
  have := ok_beg h
  unfold QOk begQ at this
  simp only at this
  simp only [begQ]
  omega
theorem inv_next {l o p0 p1 p2 p3 : Int} {q : QS} (c : CS) (h : Inv l o p0 p1 p2 p3 q) : Inv l o p0 p1 p2 p3 (nextA q c) := by
  refine ⟨ok_next c h.1, ?_⟩
  have h2 := h.2
  unfold nextA
  split
  · rename_i hc
    obtain ⟨a, b, _, d, e⟩ := codeA_zero hc
    obtain ⟨b0, b1, b2, b3⟩ := (asked_iff c).1 b
    obtain ⟨e0, e1, e2, e3⟩ := (has_iff q c).1 e
    unfold less
    simp only
    omega
  · exact h2
theorem inv_close {l o p0 p1 p2 p3 : Int} {q : QS} (h : Inv l o p0 p1 p2 p3 q) : Inv l o p0 p1 p2 p3 (nextC q) := by
  refine ⟨ok_close h.1, ?_⟩
  have h2 := h.2
  unfold nextC
  split
  · exact h2
  · simp only; exact h2
theorem sint_eq {a b : Int} (h : a = b) : Value.int .i64 a = .int .i64 b := by rw [h]
def four (a b c d : Int) : Nat → Int | 0 => a | 1 => b | 2 => c | _ => d
/-- the sums, the first z of them with the new cost -/
def mixV (o' : Int) (old new : Nat → Int) (z : Nat) : List Value := [.int .i64 o', .int .i64 (if 0 < z then new 0 else old 0), .int .i64 (if 1 < z then new 1 else old 1), .int .i64 (if 2 < z then new 2 else old 2), .int .i64 (if 3 < z then new 3 else old 3)]
theorem z_cases {z : Nat} (h : z < 4) : z = 0 ∨ z = 1 ∨ z = 2 ∨ z = 3 := by omega
theorem mix_get (o' : Int) (old new : Nat → Int) (z : Nat) (h : z < 4) : (mixV o' old new z)[1 + z]? = some (.int .i64 (old z)) := by
  rcases z_cases h with rfl | rfl | rfl | rfl <;> rfl
theorem mix_set (o' : Int) (old new : Nat → Int) (z : Nat) (h : z < 4) : (mixV o' old new z).set (1 + z) (.int .i64 (new z)) = mixV o' old new (z + 1) := by
  rcases z_cases h with rfl | rfl | rfl | rfl <;> rfl
theorem op_get (op co c0 c1 c2 c3 : Int) (z : Nat) (h : z < 4) : (opV op co c0 c1 c2 c3)[2 + z]? = some (.int .i64 (four c0 c1 c2 c3 z)) := by
  rcases z_cases h with rfl | rfl | rfl | rfl <;> rfl
theorem left_get (q : QS) (z : Nat) (h : z < 4) : (leftV q)[1 + z]? = some (.int .i64 (four q.p0 q.p1 q.p2 q.p3 z)) := by
  rcases z_cases h with rfl | rfl | rfl | rfl <;> rfl
theorem used_get (o p0 p1 p2 p3 : Int) (q : QS) (z : Nat) (h : z < 4) : (usedV o p0 p1 p2 p3 q)[1 + z]? = some (.int .i64 (four (p0 - q.p0) (p1 - q.p1) (p2 - q.p2) (p3 - q.p3) z)) := by
  rcases z_cases h with rfl | rfl | rfl | rfl <;> rfl
theorem parts_get (p0 p1 p2 p3 : Int) (z : Nat) (h : z < 4) : (partsV p0 p1 p2 p3)[z]? = some (.int .i64 (four p0 p1 p2 p3 z)) := by
  rcases z_cases h with rfl | rfl | rfl | rfl <;> rfl
theorem inv_four {l o p0 p1 p2 p3 : Int} {q : QS} (h : Inv l o p0 p1 p2 p3 q) (z : Nat) (hz : z < 4) : 0 ≤ four q.p0 q.p1 q.p2 q.p3 z ∧ four p0 p1 p2 p3 z ≤ 100000 ∧ four q.p0 q.p1 q.p2 q.p3 z + four (p0 - q.p0) (p1 - q.p1) (p2 - q.p2) (p3 - q.p3) z = four p0 p1 p2 p3 z ∧ 0 ≤ four (p0 - q.p0) (p1 - q.p1) (p2 - q.p2) (p3 - q.p3) z := by
  unfold Inv QOk at h
  rcases z_cases hz with rfl | rfl | rfl | rfl <;> simp only [four] <;> omega
/-- the new sums -/
theorem add_four {l o p0 p1 p2 p3 co c0 c1 c2 c3 : Int} {q : QS} (h : Inv l o p0 p1 p2 p3 q) (hc : codeA q ⟨co, c0, c1, c2, c3⟩ = 0) (z : Nat) (hz : z < 4) :
    four (p0 - q.p0) (p1 - q.p1) (p2 - q.p2) (p3 - q.p3) z + four c0 c1 c2 c3 z = four (p0 - (q.p0 - c0)) (p1 - (q.p1 - c1)) (p2 - (q.p2 - c2)) (p3 - (q.p3 - c3)) z ∧ 0 ≤ four (p0 - (q.p0 - c0)) (p1 - (q.p1 - c1)) (p2 - (q.p2 - c2)) (p3 - (q.p3 - c3)) z ∧ four (p0 - (q.p0 - c0)) (p1 - (q.p1 - c1)) (p2 - (q.p2 - c2)) (p3 - (q.p3 - c3)) z ≤ 100000 := by
  obtain ⟨_, hz1, _, _, hz4⟩ := codeA_zero hc
  obtain ⟨z0, z1, z2, z3⟩ := (asked_iff _).1 hz1
  obtain ⟨y0, y1, y2, y3⟩ := (has_iff _ _).1 hz4
  simp only at z0 z1 z2 z3 y0 y1 y2 y3
  unfold Inv QOk at h
  rcases z_cases hz with rfl | rfl | rfl | rfl <;> simp only [four] <;> omega
theorem add_orch {l o p0 p1 p2 p3 co c0 c1 c2 c3 : Int} {q : QS} (h : Inv l o p0 p1 p2 p3 q) (hc : codeA q ⟨co, c0, c1, c2, c3⟩ = 0) : o - q.orch + co = o - (q.orch - co) ∧ 0 ≤ o - (q.orch - co) ∧ o - (q.orch - co) ≤ 100000 := by
  obtain ⟨h0, _, _, h3, _⟩ := codeA_zero hc
  simp only at h0 h3
  unfold Inv QOk at h
  omega
/-- a block that a call has made -/
theorem Sat.blkNew {w0 w w' : World} {L : List HP} {g t : Nat} {vs : List Value} (h : Sat w0 w L) (hb : Below w.heap.size w w') (hg : w.heap.size ≤ g) (ha : At w' g t vs) : Sat w0 w' (Blk g t vs :: L) := by
  have far := h.below hb
  refine ⟨far.os, far.tape, far.output, far.size, fun k => if k = g then some (.cells vs.toArray t) else none, hp w, fun k x hk => ?_, fun k o hk => ?_, fun k => ?_, by simp [Blk, BlkO], h.own⟩
  · by_cases e : k = g
    · subst e; simp at hk; subst hk; exact ha
    · simp [e] at hk
  · exact (hb.block k (Array.getElem?_eq_some_iff.1 hk).1).trans hk
  · by_cases e : k = g
    · subst e; exact .inr (Array.getElem?_eq_none hg)
    · exact .inl (by simp [e])
theorem mix_zero (o p0 p1 p2 p3 : Int) (q : QS) (v : Int) (new : Nat → Int) : (usedV o p0 p1 p2 p3 q).set 0 (.int .i64 v) = mixV v (four (p0 - q.p0) (p1 - q.p1) (p2 - q.p2) (p3 - q.p3)) new 0 := rfl
theorem mix_four (o p0 p1 p2 p3 co c0 c1 c2 c3 : Int) (q : QS) (old : Nat → Int) : mixV (o - (q.orch - co)) old (four (p0 - (q.p0 - c0)) (p1 - (q.p1 - c1)) (p2 - (q.p2 - c2)) (p3 - (q.p3 - c3))) 4 = usedV o p0 p1 p2 p3 (less q ⟨co, c0, c1, c2, c3⟩) := rfl
section
variable (w : World) (l o p0 p1 p2 p3 : Int) (g ub pb : Nat)
def SumsRel (n : Nat) (cn i : Value) (wr : World) : Prop :=
  ∃ (k : Nat) (q : QS), k ≤ n ∧ i = .int .i64 k ∧ cn = .int .i64 q.live ∧ Inv l o p0 p1 p2 p3 q ∧ Sat w wr [Blk g 79 q.vs, Blk ub 42 (usedV o p0 p1 p2 p3 q), Blk pb 34 (partsV p0 p1 p2 p3), Old w]
def MidRel (fb : Nat) (q : QS) (ev cn : Value) (wr : World) : Prop :=
  ∃ (kk : Int) (q2 : QS), ev = .int .i64 kk ∧ cn = .int .i64 q2.live ∧ (kk = 0 ∨ q2 = q) ∧ Inv l o p0 p1 p2 p3 q2 ∧ Sat w wr [Blk g 79 q2.vs, Blk ub 42 (usedV o p0 p1 p2 p3 q2), Blk fb 42 (leftV q), Blk pb 34 (partsV p0 p1 p2 p3), Old w]
def AddRel (o' : Int) (old new : Nat → Int) (q2 : QS) (fb ob : Nat) (fv ov : List Value) (i : Value) (wr : World) : Prop :=
  ∃ z : Nat, z ≤ 4 ∧ i = .int .i64 z ∧ Sat w wr [Blk ub 42 (mixV o' old new z), Blk ob 50 ov, Blk g 79 q2.vs, Blk fb 42 fv, Blk pb 34 (partsV p0 p1 p2 p3), Old w]
def ChkRel (q2 : QS) (xb fb : Nat) (fv : List Value) (i : Value) (wr : World) : Prop :=
  ∃ z : Nat, z ≤ 4 ∧ i = .int .i64 z ∧ Sat w wr [Blk xb 42 (leftV q2), Blk g 79 q2.vs, Blk ub 42 (usedV o p0 p1 p2 p3 q2), Blk fb 42 fv, Blk pb 34 (partsV p0 p1 p2 p3), Old w]
end
end Go.Proofs.Ytmkbehdfchjeoaa
