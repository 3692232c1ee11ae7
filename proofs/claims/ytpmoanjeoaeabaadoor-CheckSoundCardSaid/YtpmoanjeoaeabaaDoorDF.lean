/- What the reading of a definition gives, with its sizes. -/
import Derived.Test.YtpmoanjeoaeabaaDoorCM
import Derived.SizedLaws
set_option linter.unusedVariables false
set_option linter.unusedSimpArgs false
set_option linter.unnecessarySimpa false
set_option maxRecDepth 100000
namespace Go.Proofs.YtpmoanjeoaeabaaDoor
open Go.RowKit Go.ChangeShapes Go.WideShapes Go.ChangeAt
/-- sizes of what a definition holds, in bytes -/
structure Fits (d : Df) : Prop where
  name : d.name.size ≤ 140737488351232
  names : ∀ s ∈ d.steps, s.name.size ≤ 140737488351232
  keys : ∀ s ∈ d.steps, ∀ k ∈ s.keys, k.size ≤ 140737488351232
  needs : ∀ s ∈ d.steps, s.needs.length * 8 ≤ 140737488351232
  keyn : ∀ s ∈ d.steps, s.keys.length * 16 ≤ 140737488351232
  steps : d.steps.length * 80 ≤ 140737488351232
theorem Fits.sized {d : Df} (h : Fits d) : Sized d :=
  ⟨h.name, h.names, h.keys, fun s hs => by have := h.needs s hs; omega, fun s hs => by have := h.keyn s hs; omega, by have := h.steps; omega⟩
def WB {H : Type} (t : TypeId) (d : DataW H) : Prop := ∀ m ∈ DataW.weights Tryd.prog t d, m ≤ 140737488351232
theorem wb_all {H : Type} {e : TypeId} : ∀ {l : List (DataW H)}, (∀ m ∈ DataW.weightsAll Tryd.prog e l, m ≤ 140737488351232) → ∀ i, i < l.length → WB e (l.getD i .nil)
  | [], _, i, hi => absurd hi (Nat.not_lt_zero _)
  | d :: r, h, 0, _ => fun m hm => h m (by unfold DataW.weightsAll; exact List.mem_append_left _ hm)
  | d :: r, h, i + 1, hi => wb_all (l := r) (fun m hm => h m (by unfold DataW.weightsAll; exact List.mem_append_right _ hm)) i (by simpa using hi)
theorem wb_slice {H : Type} {t e : TypeId} {ys rs : List (DataW H)} (hu : Tryd.prog.underlying t = some (.slice e)) (h : WB t (.slice ys rs)) : ys.length * Tryd.prog.bytesOf e ≤ 140737488351232 ∧ ∀ i, i < ys.length → WB e (ys.getD i .nil) := by
  unfold WB at h
  unfold DataW.weights at h
  rw [hu] at h
  simp only at h
  refine ⟨?_, wb_all fun m hm => h m (List.mem_cons_of_mem _ (List.mem_append_left _ hm))⟩
  have h1 := h _ List.mem_cons_self
  exact Nat.le_trans (Nat.mul_le_mul_right _ (Nat.le_add_right _ _)) h1
theorem wb_str {H : Type} {t : TypeId} {b : ByteArray} (h : WB (H := H) t (.lit (.string b.data.toList))) : b.size ≤ 140737488351232 := by
  unfold WB at h
  unfold DataW.weights at h
  have := h _ List.mem_cons_self
  rwa [Array.length_toList] at this
/-- what each element gives, where the slice is nil or holds ys -/
theorem each_of {H : Type} {t e : TypeId} {L : List (List Value)} {ys rs : List (DataW H)} {d : DataW H} (hu : Tryd.prog.underlying t = some (.slice e)) (hy : ys.length = L.length) (hd : (L = [] ∧ d = .nil) ∨ d = .slice ys rs) (h : WB t d) :
    L.length * Tryd.prog.bytesOf e ≤ 140737488351232 ∧ ∀ i, i < L.length → WB e (ys.getD i .nil) := by
  rcases hd with ⟨rfl, _⟩ | rfl
  · exact ⟨by simp, fun i hi => absurd hi (Nat.not_lt_zero _)⟩
  · obtain ⟨h1, h2⟩ := wb_slice hu h
    rw [hy] at h1 h2
    exact ⟨h1, h2⟩
section
variable {H : Type} {enc : TypeId × Value → H} {W : World} {base fuel : Nat} {spare : Nat → Bool} {held : Bool}
theorem read32s {v : Value} {x : DataW H × List MemPlace} (h : DataW.trod enc Tryd.prog W base spare held fuel 32 [v] = some x) (hw : WB 32 x.1) :
    ∃ (A : Option Addr) (c : Nat) (l : List ByteArray), v = .slice A l.length c ∧ Elems W (.slice A l.length c) 1 (l.map strC) ∧ (∀ k ∈ l, k.size ≤ 9223372036854775807 ∧ k.size ≤ 140737488351232) ∧ l.length * 16 ≤ 140737488351232 := by
  obtain ⟨A, n, c, rfl⟩ := slice_form Tryd.underlying32 h
  obtain ⟨L, ys, rs, hE, hy, hd, hL⟩ := elems_of Tryd.underlying32 (show Tryd.prog.cellsOf 9 = 1 by kernel_rfl) (by decide) (trod_cells rfl h)
  obtain ⟨hb, hws⟩ := each_of Tryd.underlying32 hy hd hw
  obtain ⟨M, rfl, hM⟩ := map_of L (vs := strC) (q := fun k => k.size ≤ 9223372036854775807 ∧ k.size ≤ 140737488351232) (fun i hi => by
    obtain ⟨f, p, hr⟩ := hL i hi
    obtain ⟨k0, e0, ed, w0⟩ := DataW.trod_string Tryd.underlying9 hr
    have hws := hws i hi
    have e1 : ys.getD i .nil = .lit (.string k0.data.toList) := congrArg Prod.fst ed
    rw [e1] at hws
    exact ⟨k0, e0, w0, wb_str hws⟩)
  have hn := hE.at_.1
  rw [List.length_map] at hn hb
  subst hn
  rw [show Tryd.prog.bytesOf 9 = 16 by kernel_rfl] at hb
  exact ⟨A, c, M, rfl, hE, hM, hb⟩
theorem read33s {v : Value} {x : DataW H × List MemPlace} (h : DataW.trod enc Tryd.prog W base spare held fuel 33 [v] = some x) (hw : WB 33 x.1) :
    ∃ (A : Option Addr) (c : Nat) (l : List Int), v = .slice A l.length c ∧ Elems W (.slice A l.length c) 1 (l.map intC) ∧ (∀ k ∈ l, wf64 k) ∧ l.length * 8 ≤ 140737488351232 := by
  obtain ⟨A, n, c, rfl⟩ := slice_form Tryd.underlying33 h
  obtain ⟨L, ys, rs, hE, hy, hd, hL⟩ := elems_of Tryd.underlying33 (show Tryd.prog.cellsOf 3 = 1 by kernel_rfl) (by decide) (trod_cells rfl h)
  obtain ⟨hb, hws⟩ := each_of Tryd.underlying33 hy hd hw
  obtain ⟨M, rfl, hM⟩ := map_of L (vs := intC) (q := wf64) (fun i hi => by
    obtain ⟨f, p, hr⟩ := hL i hi
    obtain ⟨k0, e0, _, w0⟩ := DataW.trod_int Tryd.underlying3 hr
    exact ⟨k0, e0, wf64_of w0⟩)
  have hn := hE.at_.1
  rw [List.length_map] at hn hb
  subst hn
  rw [show Tryd.prog.bytesOf 3 = 8 by kernel_rfl] at hb
  exact ⟨A, c, M, rfl, hE, hM, hb⟩
structure StFits (s : St) : Prop where
  name : s.name.size ≤ 140737488351232
  keys : ∀ k ∈ s.keys, k.size ≤ 140737488351232
  needs : s.needs.length * 8 ≤ 140737488351232
  keyn : s.keys.length * 16 ≤ 140737488351232
theorem read35s {cs : List Value} {x : DataW H × List MemPlace} (h : DataW.trod enc Tryd.prog W base spare held fuel 35 cs = some x) (hw : WB 35 x.1) : ∃ s : St, cs = s.vs ∧ StAt W s ∧ StFits s := by
  obtain ⟨xs, n, rfl, hx, hlen, hn, hel⟩ := DataW.trod_struct Tryd.underlying35 h
  rw [show Tryd.prog.cellsOf 35 = 5 by kernel_rfl] at hlen
  have q3 : Tryd.prog.cellsOf 3 = 1 := by kernel_rfl
  have q9 : Tryd.prog.cellsOf 9 = 1 := by kernel_rfl
  have q32 : Tryd.prog.cellsOf 32 = 1 := by kernel_rfl
  have q33 : Tryd.prog.cellsOf 33 = 1 := by kernel_rfl
  match cs, hlen with
  | [c0, c1, c2, c3, c4], _ =>
    have h0 := hel 0 _ rfl
    have h1 := hel 1 _ rfl
    have h2 := hel 2 _ rfl
    have h3 := hel 3 _ rfl
    have h4 := hel 4 _ rfl
    match xs, hn with
    | [x0, x1, x2, x3, x4], _ =>
      have h3' : DataW.trod enc Tryd.prog W base spare held n 32 [c3] = some x3 := by
        have hq : DataW.trod enc Tryd.prog W base spare held n 32 (([c0, c1, c2, c3, c4].drop 3).take (Tryd.prog.cellsOf 32)) = some x3 := h3
        rw [q32] at hq
        exact hq
      have h4' : DataW.trod enc Tryd.prog W base spare held n 33 [c4] = some x4 := by
        have hq : DataW.trod enc Tryd.prog W base spare held n 33 (([c0, c1, c2, c3, c4].drop 4).take (Tryd.prog.cellsOf 33)) = some x4 := h4
        rw [q33] at hq
        exact hq
      have hwe : ∀ m ∈ DataW.weightsEach Tryd.prog [9, 3, 3, 32, 33] [x0.1, x1.1, x2.1, x3.1, x4.1], m ≤ 140737488351232 := by
        intro m hm
        refine hw m ?_
        rw [hx]
        unfold DataW.weights
        rw [Tryd.underlying35]
        exact hm
      have w0' : WB 9 x0.1 := fun m hm => hwe m (by simp only [DataW.weightsEach, List.mem_append]; exact .inl hm)
      have w3' : WB 32 x3.1 := fun m hm => hwe m (by simp only [DataW.weightsEach, List.mem_append]; exact .inr (.inr (.inr (.inl hm))))
      have w4' : WB 33 x4.1 := fun m hm => hwe m (by simp only [DataW.weightsEach, List.mem_append]; exact .inr (.inr (.inr (.inr (.inl hm)))))
      obtain ⟨k0, e0, d0, w0⟩ := DataW.trod_string Tryd.underlying9 (x := x0) h0
      obtain ⟨k1, e1, _, w1⟩ := DataW.trod_int Tryd.underlying3 (x := x1) h1
      obtain ⟨k2, e2, _, w2⟩ := DataW.trod_int Tryd.underlying3 (x := x2) h2
      obtain ⟨kA, kc, ks, rfl, hks, hkw, hkn⟩ := read32s h3' w3'
      obtain ⟨nA, nc, ns, rfl, hns, hnw, hnn⟩ := read33s h4' w4'
      rw [d0] at w0'
      refine ⟨⟨k0, k1, k2, ks, ns, kA, kc, nA, nc⟩, ?_, ⟨hks, hns, wf64_of w1, wf64_of w2, hnw, w0, fun k hk => (hkw k hk).1⟩, ⟨wb_str w0', fun k hk => (hkw k hk).2, hnn, hkn⟩⟩
      simp [q9, q3] at e0 e1 e2
      simp [St.vs, e0, e1, e2]
theorem read22s {v : Value} {x : DataW H × List MemPlace} (h : DataW.trod enc Tryd.prog W base spare held fuel 22 [v] = some x) (hw : WB 22 x.1) :
    ∃ (A : Option Addr) (c : Nat) (l : List St), v = .slice A l.length c ∧ Elems W (.slice A l.length c) 5 (l.map St.vs) ∧ (∀ s ∈ l, StAt W s ∧ StFits s) ∧ l.length * 80 ≤ 140737488351232 := by
  obtain ⟨A, n, c, rfl⟩ := slice_form Tryd.underlying22 h
  obtain ⟨L, ys, rs, hE, hy, hd, hL⟩ := elems_of Tryd.underlying22 (show Tryd.prog.cellsOf 35 = 5 by kernel_rfl) (by decide) (trod_cells rfl h)
  obtain ⟨hb, hws⟩ := each_of Tryd.underlying22 hy hd hw
  obtain ⟨M, rfl, hM⟩ := map_of L (vs := St.vs) (q := fun s => StAt W s ∧ StFits s) (fun i hi => by
    obtain ⟨f, p, hr⟩ := hL i hi
    exact read35s hr (hws i hi))
  have hn := hE.at_.1
  rw [List.length_map] at hn hb
  subst hn
  rw [show Tryd.prog.bytesOf 35 = 80 by kernel_rfl] at hb
  exact ⟨A, c, M, rfl, hE, hM, hb⟩
theorem read24s {cs : List Value} {x : DataW H × List MemPlace} (h : DataW.trod enc Tryd.prog W base spare held fuel 24 cs = some x) (hw : WB 24 x.1) : ∃ d : Df, cs = d.vs ∧ DefAt W d ∧ Fits d := by
  obtain ⟨xs, n, rfl, hx, hlen, hn, hel⟩ := DataW.trod_struct Tryd.underlying24 h
  rw [show Tryd.prog.cellsOf 24 = 2 by kernel_rfl] at hlen
  have q9 : Tryd.prog.cellsOf 9 = 1 := by kernel_rfl
  have q22 : Tryd.prog.cellsOf 22 = 1 := by kernel_rfl
  match cs, hlen with
  | [c0, c1], _ =>
    have h0 := hel 0 _ rfl
    have h1 := hel 1 _ rfl
    match xs, hn with
    | [x0, x1], _ =>
      have h1' : DataW.trod enc Tryd.prog W base spare held n 22 [c1] = some x1 := by
        have hq : DataW.trod enc Tryd.prog W base spare held n 22 (([c0, c1].drop 1).take (Tryd.prog.cellsOf 22)) = some x1 := h1
        rw [q22] at hq
        exact hq
      have hwe : ∀ m ∈ DataW.weightsEach Tryd.prog [9, 22] [x0.1, x1.1], m ≤ 140737488351232 := by
        intro m hm
        refine hw m ?_
        rw [hx]
        unfold DataW.weights
        rw [Tryd.underlying24]
        exact hm
      have w0' : WB 9 x0.1 := fun m hm => hwe m (by simp only [DataW.weightsEach, List.mem_append]; exact .inl hm)
      have w1' : WB 22 x1.1 := fun m hm => hwe m (by simp only [DataW.weightsEach, List.mem_append]; exact .inr (.inl hm))
      obtain ⟨k0, e0, d0, w0⟩ := DataW.trod_string Tryd.underlying9 (x := x0) h0
      obtain ⟨A, c, l, rfl, hl, hs, hb⟩ := read22s h1' w1'
      rw [d0] at w0'
      refine ⟨⟨k0, l, A, c⟩, ?_, ⟨hl, fun s hm => (hs s hm).1, w0⟩, ⟨wb_str w0', fun s hm => (hs s hm).2.name, fun s hm => (hs s hm).2.keys, fun s hm => (hs s hm).2.needs, fun s hm => (hs s hm).2.keyn, hb⟩⟩
      simp [q9] at e0
      simp [Df.vs, e0]
end
theorem open24s {H : Type} {enc : TypeId × Value → H} {W : World} {base : Nat} {spare : Nat → Bool} {held : Bool} {v : Value} {d : DataW H} {ps : List MemPlace} (hw : WB 24 d) (h : DataW.Trod enc Tryd.prog W base spare held 24 v d ps) : ∃ D : Df, v = D.v ∧ DefAt W D ∧ Fits D := by
  obtain ⟨fuel, hf⟩ := h
  obtain ⟨D, e, hD, hF⟩ := read24s (x := (d, ps)) hf hw
  exact ⟨D, agg_of e, hD, hF⟩
/-- the sizes of an argument, out of the form's word on all of them -/
theorem wb_of {H : Type} {ts : List TypeId} {ds : List (DataW H)} {j : Nat} {t : TypeId} {d : DataW H} (h : (DataW.weightsEach Tryd.prog ts ds).all (· ≤ reachBytes) = true) (ht : ts[j]? = some t) (hd : ds[j]? = some d) : WB t d := fun m hm => by
  have := List.all_eq_true.1 h _ (DataW.weights_mem_each ht hd m hm)
  exact of_decide_eq_true this
end Go.Proofs.YtpmoanjeoaeabaaDoor
