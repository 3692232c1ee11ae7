/- The plain law of wheels; scripts; begun. -/
import Derived.Test.YtnjhnchjlecdoaaWH
import Derived.Test.YtnjhnchjlecdoaaWK
import Derived.Test.YtnjhnchjlecdoaaWL
import Derived.Test.YtnjhnchjlecdoaaWM
import Derived.Test.YtnjhnchjlecdoaaDat
import Derived.SizedLaws
set_option linter.unusedVariables false
set_option linter.unusedSimpArgs false
set_option linter.unnecessarySimpa false
set_option maxRecDepth 100000
namespace Go.Proofs.Ytnjhnchjlecdoaa
open Go.RowKit Go.ChangeShapes Go.WideShapes Go.ChangeAt
theorem stop_eraseP (id : Int) : ∀ L : List Tm, stopL L id = L.eraseP (isId id)
  | [] => rfl
  | x :: l => by
    have ih := stop_eraseP id l
    unfold stopL firstN at ih ⊢
    rw [List.findIdx_cons]
    by_cases h : isId id x = true
    · rw [h, List.eraseP_cons_of_pos h]
      rfl
    · have h' : isId id x = false := by simpa using h
      rw [h', List.eraseP_cons_of_neg h]
      show x :: l.eraseIdx _ = _
      rw [ih]
/-- a wheel in order -/
structure Fine (L : List Tm) : Prop where
  nodup : (L.map (·.1)).Nodup
  len : L.length ≤ 200
  late : ∀ x ∈ L, x.2 ≤ 1073741824
theorem gone_of (id : Int) : ∀ L : List Tm, (L.map (·.1)).Nodup → ∀ y ∈ L.eraseP (isId id), y.1 ≠ id
  | [], _, y, h => by simp at h
  | x :: l, hn, y, h => by
    rw [List.map_cons, List.nodup_cons] at hn
    by_cases hx : isId id x = true
    · rw [List.eraseP_cons_of_pos hx] at h
      have e : x.1 = id := by unfold isId at hx; simpa using hx
      rintro rfl
      exact hn.1 (by rw [e]; exact List.mem_map_of_mem (f := (·.1)) h)
    · rw [List.eraseP_cons_of_neg hx] at h
      rcases List.mem_cons.1 h with rfl | h
      · unfold isId at hx; simpa using hx
      · exact gone_of id l hn.2 y h
section
variable {L : List Tm}
theorem Fine.gone (h : Fine L) (id : Int) : GoneId L id := by
  unfold GoneId
  rw [stop_eraseP]
  exact gone_of id L h.nodup
theorem Fine.sub {K : List Tm} (h : Fine L) (hs : K.Sublist L) : Fine K :=
  ⟨h.nodup.sublist (hs.map _), Nat.le_trans hs.length_le h.len, fun x hx => h.late x (hs.subset hx)⟩
theorem Fine.stop (h : Fine L) (id : Int) : Fine (stopL L id) := h.sub (List.eraseIdx_sublist _ _)
theorem Fine.drop (h : Fine L) (k : Nat) : Fine (L.drop k) := h.sub (List.drop_sublist _ _)
theorem putL_perm (K : List Tm) (x : Tm) : (putL K x).Perm (x :: K) := by
  unfold putL
  rw [List.append_assoc]
  have : K.take (firstN K (after x)) ++ ([x] ++ K.drop (firstN K (after x))) = K.take (firstN K (after x)) ++ x :: K.drop (firstN K (after x)) := rfl
  rw [this]
  refine List.perm_middle.trans ?_
  rw [List.take_append_drop]
theorem Fine.set (h : Fine L) (id at_ : Int) : Fine (setL L id at_) := by
  unfold setL
  split
  · rename_i hr
    split
    · exact h
    · rename_i hf
      have hs := h.stop id
      have hg := h.gone id
      have hp := putL_perm (stopL L id) (id, at_)
      have hl := stop_len L id
      refine ⟨?_, ?_, fun x hx => ?_⟩
      · rw [(hp.map _).nodup_iff, List.map_cons, List.nodup_cons]
        refine ⟨?_, hs.nodup⟩
        intro hm
        obtain ⟨y, hy, e⟩ := List.mem_map.1 hm
        exact hg y hy e
      · rw [hp.length_eq, List.length_cons]
        have := h.len
        by_cases hb : stopB L id = true
        · rw [if_pos hb] at hl
          have : 0 < L.length := by
            unfold stopB at hb
            have := of_decide_eq_true hb
            omega
          omega
        · rw [if_neg hb] at hl
          have : stopB L id = false := by simpa using hb
          have : L.length ≠ 200 := fun e => hf ⟨this, e⟩
          omega
      · rcases List.mem_cons.1 (hp.mem_iff.1 hx) with rfl | hx
        · exact hr.2.2
        · exact hs.late x hx
  · exact h
theorem due_all (h : Fine L) : dueN L 1073741824 = L.length := by
  unfold dueN
  refine first_none fun j hj => ?_
  unfold isLate
  exact decide_eq_false (by have := h.late _ (List.getElem_mem hj); omega)
end
def begL : List Tm := [(900000, 1073741824), (900001, 1073741824)]
theorem beg1 : setL [] 900001 1073741824 = [(900001, 1073741824)] := by decide
theorem beg2 : setL [(900001, 1073741824)] 900000 1073741824 = begL := by decide
theorem beg_fine1 : Fine [(900001, 1073741824)] := ⟨by decide, by decide, by decide⟩
theorem beg_fine : Fine begL := ⟨by decide, by decide, by decide⟩
/-- a call -/
structure TOp where
  act : Int
  id : Int
  at_ : Int
def TOp.vs (o : TOp) : List Value := [.int .i64 o.act, .int .i64 o.id, .int .i64 o.at_]
def TOp.wf (o : TOp) : Prop := wf64 o.act ∧ wf64 o.id ∧ wf64 o.at_
theorem map_of {α : Type} {vs : α → List Value} {q : α → Prop} (L : List (List Value)) (h : ∀ i, i < L.length → ∃ o : α, L.getD i [] = vs o ∧ q o) : ∃ M : List α, L = M.map vs ∧ ∀ o ∈ M, q o := by
  have : ∀ L : List (List Value), (∀ x ∈ L, ∃ o : α, x = vs o ∧ q o) → ∃ M : List α, L = M.map vs ∧ ∀ o ∈ M, q o := by
    intro L
    induction L with
    | nil => intro _; exact ⟨[], rfl, by simp⟩
    | cons x l ih =>
      intro hx
      obtain ⟨o, rfl, ho⟩ := hx x (by simp)
      obtain ⟨M, rfl, hM⟩ := ih fun y hy => hx y (by simp [hy])
      refine ⟨o :: M, rfl, fun p hp => ?_⟩
      rcases List.mem_cons.1 hp with rfl | hp
      · exact ho
      · exact hM p hp
  refine this L fun x hx => ?_
  obtain ⟨i, hi, rfl⟩ := List.getElem_of_mem hx
  obtain ⟨o, e, ho⟩ := h i hi
  exact ⟨o, by rw [← e, ← List.getElem_eq_getD (h := hi)], ho⟩
theorem read29 {H : Type} {enc : TypeId × Value → H} {W : World} {base fuel : Nat} {spare : Nat → Bool} {held : Bool} {cs : List Value} {x : DataW H × List MemPlace}
    (h : DataW.trod enc Try.prog W base spare held fuel 29 cs = some x) : ∃ o : TOp, cs = o.vs ∧ o.wf := by
  obtain ⟨xs, n, rfl, hx, hlen, hn, hel⟩ := DataW.trod_struct Try.underlying29 h
  rw [show Try.prog.cellsOf 29 = 3 by kernel_rfl] at hlen
  match cs, hlen with
  | [c0, c1, c2], _ =>
    have h0 := hel 0 _ rfl
    have h1 := hel 1 _ rfl
    have h2 := hel 2 _ rfl
    match xs, hn with
    | [x0, x1, x2], _ =>
      obtain ⟨k0, e0, _, w0⟩ := DataW.trod_int Try.underlying3 (x := x0) h0
      obtain ⟨k1, e1, _, w1⟩ := DataW.trod_int Try.underlying3 (x := x1) h1
      obtain ⟨k2, e2, _, w2⟩ := DataW.trod_int Try.underlying3 (x := x2) h2
      refine ⟨⟨k0, k1, k2⟩, ?_, i64_of w0, i64_of w1, i64_of w2⟩
      have q0 : Try.prog.cellsOf 3 = 1 := by kernel_rfl
      simp [q0] at e0 e1 e2
      simp [TOp.vs, e0, e1, e2]
def OpsAt (w : World) (A : Option Addr) (n c : Nat) (l : List TOp) : Prop := Elems w (.slice A n c) 3 (l.map TOp.vs) ∧ ∀ o ∈ l, o.wf
theorem open22 {H : Type} {enc : TypeId × Value → H} {W : World} {base : Nat} {spare : Nat → Bool} {held : Bool} {A : Option Addr} {n c : Nat} {d : DataW H} {ps : List MemPlace} (h : DataW.Trod enc Try.prog W base spare held 22 (.slice A n c) d ps) :
    ∃ l : List TOp, OpsAt W A n c l ∧ (n = 0 ∨ ∃ ys rs, d = .slice ys rs ∧ ys.length = n) := by
  obtain ⟨L, ys, rs, hE, hy, hd, hL⟩ := elems_of Try.underlying22 (show Try.prog.cellsOf 29 = 3 by kernel_rfl) (by decide) h
  obtain ⟨M, rfl, hM⟩ := map_of L (vs := TOp.vs) (q := TOp.wf) (fun i hi => by
    obtain ⟨f, p, hr⟩ := hL i hi
    exact read29 hr)
  have hn := hE.at_.1
  refine ⟨M, ⟨hE, hM⟩, ?_⟩
  rcases hd with ⟨e, _⟩ | e
  · left; rw [hn, e]; rfl
  · right; exact ⟨ys, rs, e, by rw [hy, hn]⟩
section
variable {P : Program} {H : Type} {ts : List TypeId} {ds : List (DataW H)}
theorem sized_of (h : (DataW.weightsEach P ts ds).all (· ≤ reachBytes) = true) {j : Nat} {t e : TypeId} {d : DataW H} {n b : Nat} (ht : ts[j]? = some t) (hd : ds[j]? = some d) (hu : P.underlying t = some (.slice e))
    (hb : P.bytesOf e = b) (he : n = 0 ∨ ∃ ys rs, d = .slice ys rs ∧ ys.length = n) : n * b ≤ 140737488351232 := by
  rcases he with rfl | ⟨ys, rs, rfl, rfl⟩
  · simp
  · have h1 := sized_slice h ht hd hu
    rw [hb] at h1
    have h2 : ys.length * b ≤ (ys.length + rs.length) * b := Nat.mul_le_mul_right _ (by omega)
    have h3 : reachBytes = 140737488351232 := by decide
    omega
end
theorem op_cells {w0 w' : World} {b of c : Nat} {l : List TOp} (hE : Elems w0 (.slice (some ⟨b, of, none⟩) l.length c) 3 (l.map TOp.vs)) (hb : Below w0.heap.size w0 w') (k : Nat) (hk : k < l.length) :
    w'.cell? ⟨b, of + k * 3, none⟩ = some (.int .i64 l[k].act) ∧ w'.cell? ⟨b, of + k * 3 + 1, none⟩ = some (.int .i64 l[k].id) ∧ w'.cell? ⟨b, of + k * 3 + 2, none⟩ = some (.int .i64 l[k].at_) := by
  obtain ⟨b', of', e, hc⟩ := (hE.keep hb).at_.2.2 (by rw [List.length_map]; omega)
  cases e
  have hc' := hc k (by rw [List.length_map]; exact hk)
  have hx : (l.map TOp.vs).getD k [] = (l[k]).vs := by simp [List.getD, hk]
  rw [hx] at hc'
  exact ⟨hc' 0 (by decide), hc' 1 (by decide), hc' 2 (by decide)⟩
theorem op_addr {w0 : World} {A : Option Addr} {c : Nat} {l : List TOp} (hE : Elems w0 (.slice A l.length c) 3 (l.map TOp.vs)) (hk : 0 < l.length) : ∃ b of, A = some ⟨b, of, none⟩ := by
  obtain ⟨b', of', e, hc⟩ := hE.at_.2.2 (by rw [List.length_map]; omega)
  exact ⟨b', of', e⟩
section
variable {w0 w : World} {F : List HP}
theorem begun_any (hS : Sat w0 w F) : Calls Try.prog 8 #[] w fun e w' => ∃ g, e = .returned (.pointer (some ⟨g, 0, none⟩)) ∧ Sat w0 w' (WheelC g 48 50 begL :: F) := by
  have b1 : setC [] 900001 1073741824 = 0 := by decide
  have b2 : setC [(900001, 1073741824)] 900000 1073741824 = 0 := by decide
  have B1 := Lib.hid b1
  have B2 := Lib.hid b2
  clear b1 b2
  go_enter Try.func8, Try.ntmps8
  go_wp2_with fail
  refine (wnew_any hS).mono ?_
  rintro e w1 ⟨rfl, h1⟩
  obtain ⟨g, hg⟩ : ∃ g, w.heap.size = g := ⟨_, rfl⟩
  rw [hg] at h1 ⊢
  clear hg hS
  go_wp2_with fail
  refine (wset_any 900001 1073741824 h1 (by decide)).mono ?_
  rw [B1.out, beg1]
  rintro e w2 ⟨rfl, h2⟩
  clear h1
  go_wp2_with fail
  refine (wset_any 900000 1073741824 h2 (by decide)).mono ?_
  rw [B2.out, beg2]
  rintro e w3 ⟨rfl, h3⟩
  clear h2
  go_wp2_with fail
  refine (wlen_any h3).mono ?_
  rintro e w4 ⟨rfl, rfl⟩
  have hl : ((begL.length : Nat) : Int) = 2 := by decide
  rw [hl]
  go_wp2_with fail
  go_ret
  exact ⟨g, rfl, h3⟩
end
end Go.Proofs.Ytnjhnchjlecdoaa
