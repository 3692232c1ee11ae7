/- The plain law: a journal's calls keep it, whatever crashes. -/
import Derived.Test.YtjlpgjfgeikdeaaDoorKB
set_option linter.unusedVariables false
set_option linter.unusedSimpArgs false
set_option linter.unnecessarySimpa false
set_option maxRecDepth 100000
namespace Go.Proofs.YtjlpgjfgeikdeaaDoor
open Go.RowKit Go.ChangeShapes Go.WideShapes Go.ChangeAt
section
variable {M : MD} {J : JS} {snap : ByteArray} {recs : List ByteArray} {t : Nat}
theorem Good.sane (h : Good M J snap recs) : Sane M J := by
  refine ⟨h.ok, h.file, h.gen2, ?_⟩
  rw [h.here, file_size, h.n]
  have := sizeB_len recs
  omega
theorem safe_app' (h : Good M J snap recs) (hs : Safe M J snap recs t) (rec : ByteArray) (hc : (addR M J rec).2.2 = 0) : Safe (addR M J rec).1 (addR M J rec).2.1 snap (recs ++ [rec]) t := by
  obtain ⟨_, e, hsf⟩ := good_add h rec hc
  obtain ⟨h1, h2⟩ := hs
  refine ⟨by simp; omega, ?_⟩
  rw [List.take_append_of_le_length h1, e]
  show (fileS J.gen snap (recs.take t)).size ≤ ((addR M J rec).1.f J.file).safe
  rw [hsf]
  exact h2
theorem add_no {rec : ByteArray} (hc : (addR M J rec).2.2 ≠ 0) : (addR M J rec).1 = M ∧ (addR M J rec).2.1 = J := by
  unfold addR at hc ⊢
  split
  · exact ⟨rfl, rfl⟩
  · rename_i h1
    rw [if_neg h1] at hc
    split
    · rename_i h2; rw [if_pos h2] at hc; exact absurd rfl hc
    · exact ⟨rfl, rfl⟩
/-- a journal that stands, so much of it safe -/
def Stands (M : MD) (J : JS) : Prop := ∃ snap recs t, Good M J snap recs ∧ Safe M J snap recs t
theorem cut_stands {file gen m : Nat} (h : CutG M file gen snap recs m) : (openJ M).2.gen ≠ 0 ∧ Stands (openJ M).1 (openJ M).2 := by
  obtain ⟨h1, h2⟩ := h.taken
  obtain ⟨h3, h4⟩ := h.open_
  have hg := h.gen1
  have e : openJ M = (openM M, ⟨file, gen, (recs.take (fewN gen snap recs m)).length⟩) := by
    unfold openJ
    rw [if_neg (by rw [h2]; show ¬ gen = 0; omega), h1, h2]
  rw [e]
  exact ⟨by show gen ≠ 0; omega, _, _, _, h3, safe_all h3 h4⟩
theorem stands_step (h : Stands M J) (o : JOp) : (stepJ M J o).2.gen ≠ 0 ∧ Stands (stepJ M J o).1 (stepJ M J o).2 := by
  obtain ⟨snap, recs, t, hG, hS⟩ := h
  have hg : J.gen ≠ 0 := by have := hG.gen1; omega
  unfold stepJ
  split
  · by_cases hc : (addR M J o.s).2.2 = 0
    · obtain ⟨h1, h2, _⟩ := good_add hG o.s hc
      exact ⟨by show (addR M J o.s).2.1.gen ≠ 0; rw [h2]; exact hg, _, _, _, h1, safe_app' hG hS o.s hc⟩
    · obtain ⟨h1, h2⟩ := add_no hc
      rw [h1, h2]
      exact ⟨hg, _, _, _, hG, hS⟩
  · split
    · obtain ⟨h1, h2⟩ := good_sync hG
      exact ⟨hg, _, _, _, h1, safe_all h1 h2⟩
    · split
      · rcases good_comp hG o.s with ⟨_, h1, h2, h3, _⟩ | ⟨_, h1, h2⟩
        · rw [h2]
          exact ⟨Nat.succ_ne_zero _, _, _, _, h1, safe_all h1 h3⟩
        · rw [h1, h2]
          exact ⟨hg, _, _, _, hG, hS⟩
      · split
        · exact cut_stands (hG.crash hS _).1
        · split
          · exact cut_stands hG.cutG.1
          · exact ⟨hg, _, _, _, hG, hS⟩
theorem Stands.sane (h : Stands M J) : Sane M J ∧ J.gen ≠ 0 := by
  obtain ⟨snap, recs, t, hG, hS⟩ := h
  exact ⟨hG.sane, by have := hG.gen1; omega⟩
theorem made_safe {room : Nat} (h : 17 ≤ room) : ((madeM room).f 0).safe = (fileS 1 noText []).size := by
  have hl := (lays_yes (M := freshM room) (file := 0) (gen := 1) (snap := noText) (by decide) (made_code (by omega))).2.2.2
  unfold madeM
  rw [hl, set_f, if_pos rfl]
  show ((⟨#[]⟩ : ByteArray) ++ headS 1 noText).size = (headS 1 noText ++ ⟨#[]⟩).size
  rw [ByteArray.size_append, ByteArray.size_append]
  omega
theorem made_stands {room : Nat} (h : 17 ≤ room) (h2 : room ≤ 1048576) : Stands (madeM room) ⟨0, 1, 0⟩ := ⟨_, _, _, good_made h h2, safe_all (good_made h h2) (made_safe h)⟩
/-- the calls, one behind the other -/
def playJ (M : MD) (J : JS) (l : List JOp) : Nat → MD × JS
  | 0 => (M, J)
  | k + 1 => if h : k < l.length then stepJ (playJ M J l k).1 (playJ M J l k).2 l[k] else playJ M J l k
theorem play_next (M : MD) (J : JS) (l : List JOp) (k : Nat) (h : k < l.length) : playJ M J l (k + 1) = stepJ (playJ M J l k).1 (playJ M J l k).2 l[k] := by
  rw [playJ, dif_pos h]
theorem play_stands (h : Stands M J) (l : List JOp) : ∀ k, Stands (playJ M J l k).1 (playJ M J l k).2
  | 0 => h
  | k + 1 => by
    unfold playJ
    split
    · exact (stands_step (play_stands h l k) _).2
    · exact play_stands h l k
end
end Go.Proofs.YtjlpgjfgeikdeaaDoor
