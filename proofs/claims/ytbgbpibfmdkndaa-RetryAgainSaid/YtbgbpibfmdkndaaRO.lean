/- What reading a slice of numbers gives; the walk of RetryMakes. -/
import Derived.Test.YtbgbpibfmdkndaaRM
import Derived.Test.YtbgbpibfmdkndaaDat
import Derived.SizedLaws
set_option linter.unusedVariables false
set_option linter.unusedSimpArgs false
set_option linter.unnecessarySimpa false
set_option maxRecDepth 100000
namespace Go.Proofs.Ytbgbpibfmdkndaa
open Go.RowKit Go.ChangeShapes Go.WideShapes Go.ChangeAt
def intC (n : Int) : List Value := [.int .i64 n]
theorem map_of {α : Type} {vs : α → List Value} {q : α → Prop} (L : List (List Value)) (h : ∀ i, i < L.length → ∃ o : α, L.getD i [] = vs o ∧ q o) : ∃ M : List α, L = M.map vs ∧ ∀ o ∈ M, q o := by
  have : ∀ L : List (List Value), (∀ x ∈ L, ∃ o : α, x = vs o ∧ q o) → ∃ M : List α, L = M.map vs ∧ ∀ o ∈ M, q o := by
    intro L
    induction L with
    | nil => intro _; exact ⟨[], rfl, by simp⟩
    | cons x l ih =>
      intro hx
      obtain ⟨o, e, ho⟩ := hx x (by simp)
      obtain ⟨M, e2, hM⟩ := ih (fun y hy => hx y (by simp [hy]))
      refine ⟨o :: M, by rw [e, e2]; rfl, fun z hz => ?_⟩
      rcases List.mem_cons.1 hz with rfl | hz
      · exact ho
      · exact hM z hz
  refine this L fun x hx => ?_
  obtain ⟨i, hi, rfl⟩ := List.getElem_of_mem hx
  obtain ⟨o, e, ho⟩ := h i hi
  exact ⟨o, by rw [← e, ← List.getElem_eq_getD (h := hi)], ho⟩
/-- numbers that were handed in -/
def NumsAt (W : World) (A : Option Addr) (n c : Nat) (l : List Int) : Prop := n = l.length ∧ Elems W (.slice A n c) 1 (l.map intC) ∧ ∀ x ∈ l, wf64 x
theorem open22n {H : Type} {enc : TypeId × Value → H} {W : World} {base : Nat} {spare : Nat → Bool} {held : Bool} {A : Option Addr} {n c : Nat} {d : DataW H} {ps : List MemPlace} (h : DataW.Trod enc Try.prog W base spare held 22 (.slice A n c) d ps) :
    ∃ l : List Int, NumsAt W A n c l ∧ (n = 0 ∨ ∃ ys rs, d = .slice ys rs ∧ ys.length = n) := by
  obtain ⟨L, ys, rs, hE, hy, hd, hL⟩ := elems_of Try.underlying22 (show Try.prog.cellsOf 3 = 1 by kernel_rfl) (by decide) h
  obtain ⟨M, rfl, hM⟩ := map_of L (vs := intC) (q := wf64) (fun i hi => by
    obtain ⟨f, p, hr⟩ := hL i hi
    obtain ⟨k0, e0, _, w0⟩ := DataW.trod_int Try.underlying3 hr
    exact ⟨k0, e0, wf64_of w0⟩)
  have hn := hE.at_.1
  rw [List.length_map] at hn
  refine ⟨M, ⟨hn, hE, hM⟩, ?_⟩
  rcases hd with ⟨e, _⟩ | e
  · left
    have : M = [] := by simpa using e
    rw [hn, this]; rfl
  · right; exact ⟨ys, rs, e, by rw [hy, List.length_map, hn]⟩
section
variable {P : Program} {H : Type} {ts : List TypeId} {ds : List (DataW H)}
theorem sized_of (h : (DataW.weightsEach P ts ds).all (· ≤ reachBytes) = true) {j : Nat} {t e : TypeId} {d : DataW H} {n b : Nat} (ht : ts[j]? = some t) (hd : ds[j]? = some d) (hu : P.underlying t = some (.slice e))
    (hb : P.bytesOf e = b) (he : n = 0 ∨ ∃ ys rs, d = .slice ys rs ∧ ys.length = n) : n * b ≤ 140737488351232 := by
  rcases he with rfl | ⟨ys, rs, rfl, rfl⟩
  · simp
  · have h1 := sized_slice h ht hd hu
    rw [hb] at h1
    have h2 : ys.length * b ≤ (ys.length + rs.length) * b := Nat.mul_le_mul_right _ (by omega)
    have h3 : reachBytes = 140737488351232 := by decide
    omega
end
theorem NumsAt.ns {W : World} {A : Option Addr} {n c : Nat} {l : List Int} (h : NumsAt W A n c l) : NsAt W A l := by
  obtain ⟨rfl, h, _⟩ := h
  by_cases h0 : l = []
  · exact .inl h0
  · obtain ⟨b, o, e, hc⟩ := h.at_.2.2 (by rw [List.length_map]; exact List.length_pos_iff.2 h0)
    refine .inr ⟨b, o, e, fun j hj => ?_⟩
    have h1 := hc j (by rw [List.length_map]; exact hj) 0 (by decide)
    have hx : (l.map intC).getD j [] = [.int .i64 (l.getD j 0)] := by simp [List.getD, hj, intC]
    rw [hx, Nat.mul_one, Nat.add_zero] at h1
    exact h1
section
variable {w w0 : World} {F : List HP} {A : Option Addr} {c : Nat} {t : List Int} {dl : Int}
set_option maxHeartbeats 1600000 in
theorem makes_any (hT : NsAt w0 A t) (hO : Old w0 ∈ F) (hS : Sat w0 w F) :
    Calls Try.prog 3 #[.slice A t.length c, .int .i64 dl] w fun e w' => e = .returned (.bool true) ∧ Sat w0 w' F := by
  have HNS : Hid (∀ W G, Sat w0 W (G ++ F) → NsAt W A t) := fun W G h => hT.keep (h.old (List.mem_append_right _ hO))
  have HLV : Hid (∀ W G, Sat w0 W G → Calls Try.prog 10 #[] W fun e w' => e = .returned (.bool true) ∧ Sat w0 w' G) := fun W G h => live_any h
  by_cases hc : newC t dl = 0
  · have hmm : mayB t = true ∧ 1 ≤ dl ∧ dl ≤ 1073741824 := by
      unfold newC at hc
      split at hc
      · rename_i hm
        split at hc
        · rename_i hd; exact ⟨hm, hd⟩
        · cases hc
      · cases hc
    obtain ⟨hm, hd⟩ := hmm
    have H8 := Lib.hid (new_ok (c := c) (HNS.out w [] hS) hm hd hS)
    have H9 : Hid (∀ W r, Sat w0 W (RetP r t dl [] [] [] :: F) → Calls Try.prog 9 #[.slice A t.length c, .int .i64 dl] W fun e w' => ∃ x, e = .returned (.tuple #[.pointer (some ⟨x, 0, none⟩), .int .i64 0]) ∧ Sat w0 w' F) := fun W r h => by
      refine (rnew_ok (c := c) (HNS.out W [_] h) hm hd h).mono ?_
      rintro e w' ⟨x, rfl, h2⟩
      exact ⟨x, rfl, h2.tail.tail⟩
    obtain ⟨n, hn⟩ : ∃ n, t.length = n := ⟨_, rfl⟩
    rw [hn] at H8 H9 ⊢
    clear hT hO hS hc hm hd hn HNS
    go_enter Try.func3, Try.ntmps3
    go_wp2_with fail
    refine H8.out.mono ?_
    rintro e w1 ⟨r, rfl, h1⟩
    have H1 := Lib.hid h1
    clear h1 H8
    go_wp2_with fail
    refine (H9.out _ _ H1.out).mono ?_
    rintro e w2 ⟨x, rfl, h2⟩
    have H2 := Lib.hid h2
    clear h2 H9 H1
    go_wp2_with fail
    refine (HLV.out _ _ H2.out).mono ?_
    rintro e w3 ⟨rfl, h3⟩
    have H3 := Lib.hid h3
    clear h3 H2
    go_wp2_with fail
    go_ret
    exact ⟨rfl, H3.out⟩
  · have H8 := Lib.hid (new_bad (c := c) (HNS.out w [] hS) hc hS)
    have H9 : Hid (∀ W, Sat w0 W F → Calls Try.prog 9 #[.slice A t.length c, .int .i64 dl] W fun e w' => e = .returned (.tuple #[.pointer none, .int .i64 (newC t dl)]) ∧ Sat w0 w' F) := fun W h => rnew_bad (c := c) (HNS.out W [] h) hc h
    obtain ⟨n, hn⟩ : ∃ n, t.length = n := ⟨_, rfl⟩
    obtain ⟨v, hv⟩ : ∃ v, newC t dl = v := ⟨_, rfl⟩
    rw [hn, hv] at H8 H9
    rw [hn]
    have b1 : (v == v) = true := by simp
    clear hT hO hS hc hn hv HNS
    go_enter Try.func3, Try.ntmps3
    go_wp2_with fail
    refine H8.out.mono ?_
    rintro e w1 ⟨rfl, h1⟩
    have H1 := Lib.hid h1
    clear h1 H8
    go_wp2_with fail
    refine (H9.out _ H1.out).mono ?_
    rintro e w2 ⟨rfl, h2⟩
    have H2 := Lib.hid h2
    clear h2 H9 H1
    go_wp2_with fail
    refine (HLV.out _ _ H2.out).mono ?_
    rintro e w3 ⟨rfl, h3⟩
    have H3 := Lib.hid h3
    clear h3 H2
    go_wp2_with fail
    go_ret
    exact ⟨rfl, H3.out⟩
end
theorem retryMakes_walk (a0 : Option Addr) (len0 cap0 : Nat) (z0 : List Int) (a1 : Int) (w : World) (w0 : NumsAt w a0 len0 cap0 z0) (y0 : len0 * 8 ≤ 140737488351232) (w1 : (Lit.int .i64 a1).wf = true) :
    Calls Try.prog 3 #[.slice a0 len0 cap0, .int .i64 a1] w fun e w' => e = .returned (.bool true) ∧ Below w.heap.size w w' := by
  have hn := w0.ns
  obtain ⟨rfl, _, _⟩ := w0
  refine (makes_any hn (by simp) (Sat.start w)).mono ?_
  rintro e w' ⟨rfl, h⟩
  exact ⟨rfl, h.old (by simp)⟩
end Go.Proofs.Ytbgbpibfmdkndaa
