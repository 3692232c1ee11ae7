/- Words for RegistryScripts: its calls, as they lie in memory; what both registries answer to Add. -/
import Derived.Test.YtpmoanjeoaeabaaDoorTA
set_option linter.unusedVariables false
set_option linter.unusedSimpArgs false
set_option linter.unnecessarySimpa false
set_option maxRecDepth 100000
namespace Go.Proofs.YtpmoanjeoaeabaaDoor
open Go.RowKit Go.ChangeShapes Go.WideShapes Go.ChangeAt
structure ROp where
  act : Int
  d : Df
  nm : ByteArray
  ver : Int
def ROp.vs (o : ROp) : List Value := [.int .i64 o.act, .string o.d.name, .slice o.d.A o.d.steps.length o.d.c, .string o.nm, .int .i64 o.ver]
structure ROpOk (W : World) (o : ROp) : Prop where
  at_ : DefAt W o.d
  wf : Wf o.d
  nm : o.nm.size ≤ maxLen
  ver : wf64 o.ver
structure ROpsAt (w : World) (A : Option Addr) (c : Nat) (L : List ROp) : Prop where
  elems : Elems w (.slice A L.length c) 5 (L.map ROp.vs)
  each : ∀ o ∈ L, ROpOk w o
  bytes : L.length ≤ 140737488351232
theorem read59 {H : Type} {enc : TypeId × Value → H} {W : World} {base fuel : Nat} {spare : Nat → Bool} {held : Bool} {cs : List Value} {x : DataW H × List MemPlace} (h : DataW.trod enc Tryd.prog W base spare held fuel 59 cs = some x) (hw : WB 59 x.1) : ∃ o : ROp, cs = o.vs ∧ ROpOk W o := by
  obtain ⟨xs, n, rfl, hx, hlen, hn, hel⟩ := DataW.trod_struct Tryd.underlying59 h
  rw [show Tryd.prog.cellsOf 59 = 5 by kernel_rfl] at hlen
  have q3 : Tryd.prog.cellsOf 3 = 1 := by kernel_rfl
  have q9 : Tryd.prog.cellsOf 9 = 1 := by kernel_rfl
  have q24 : Tryd.prog.cellsOf 24 = 2 := by kernel_rfl
  match cs, hlen with
  | [c0, c1, c2, c3, c4], _ =>
    have h0 := hel 0 _ rfl
    have h1 := hel 1 _ rfl
    have h2 := hel 2 _ rfl
    have h3 := hel 3 _ rfl
    match xs, hn with
    | [x0, x1, x2, x3], _ =>
      have h1' : DataW.trod enc Tryd.prog W base spare held n 24 [c1, c2] = some x1 := by
        have hq : DataW.trod enc Tryd.prog W base spare held n 24 (([c0, c1, c2, c3, c4].drop 1).take (Tryd.prog.cellsOf 24)) = some x1 := h1
        rw [q24] at hq
        exact hq
      have hwe : ∀ m ∈ DataW.weightsEach Tryd.prog [3, 24, 9, 3] [x0.1, x1.1, x2.1, x3.1], m ≤ 140737488351232 := by
        intro m hm
        refine hw m ?_
        rw [hx]
        unfold DataW.weights
        rw [Tryd.underlying59]
        exact hm
      have w1' : WB 24 x1.1 := fun m hm => hwe m (by simp only [DataW.weightsEach, List.mem_append]; exact .inr (.inl hm))
      have w2' : WB 9 x2.1 := fun m hm => hwe m (by simp only [DataW.weightsEach, List.mem_append]; exact .inr (.inr (.inl hm)))
      obtain ⟨k0, e0, _, w0⟩ := DataW.trod_int Tryd.underlying3 (x := x0) h0
      obtain ⟨D, e1, hD, hF⟩ := read24s h1' w1'
      obtain ⟨k2, e2, d2, w2⟩ := DataW.trod_string Tryd.underlying9 (x := x2) h2
      obtain ⟨k3, e3, _, w3⟩ := DataW.trod_int Tryd.underlying3 (x := x3) h3
      simp [q3, q9, q24] at e0 e2 e3
      simp [Df.vs] at e1
      obtain ⟨e1, e1'⟩ := e1
      refine ⟨⟨k0, D, k2, k3⟩, ?_, ⟨hD, wf_of hD hF, w2, wf64_of w3⟩⟩
      simp [ROp.vs, e0, e1, e1', e2, e3]
theorem open54q {H : Type} {enc : TypeId × Value → H} {W : World} {base : Nat} {spare : Nat → Bool} {held : Bool} {A : Option Addr} {n c : Nat} {d : DataW H} {ps : List MemPlace} {ts : List TypeId} {ds : List (DataW H)}
    (hsz : (DataW.weightsEach Tryd.prog (54 :: ts) (d :: ds)).all (· ≤ reachBytes) = true) (h : DataW.Trod enc Tryd.prog W base spare held 54 (.slice A n c) d ps) :
    ∃ L : List ROp, (n = L.length ∧ ROpsAt W A c L) ∧ (n = 0 ∨ ∃ ys rs, d = .slice ys rs ∧ ys.length = n) := by
  obtain ⟨L, ys, rs, hE, hy, hd, hL⟩ := elems_of Tryd.underlying54 (show Tryd.prog.cellsOf 59 = 5 by kernel_rfl) (by decide) h
  obtain ⟨hb, hws⟩ := each_of Tryd.underlying54 hy hd (wb_of (j := 0) hsz rfl rfl)
  obtain ⟨M, rfl, hM⟩ := map_of L (vs := ROp.vs) (q := ROpOk W) (fun i hi => by
    obtain ⟨f, p, hr⟩ := hL i hi
    exact read59 hr (hws i hi))
  have hn := hE.at_.1
  rw [List.length_map] at hn hb
  have hb59 : 1 ≤ Tryd.prog.bytesOf 59 := by rw [show Tryd.prog.bytesOf 59 = 72 by kernel_rfl]; decide
  refine ⟨M, ⟨hn, by rw [← hn]; exact hE, hM, Nat.le_trans (Nat.le_mul_of_pos_right _ hb59) hb⟩, ?_⟩
  rcases hd with ⟨e, _⟩ | e
  · left
    have : M = [] := by simpa using e
    rw [hn, this]; rfl
  · right; exact ⟨ys, rs, e, by rw [hy, List.length_map, hn]⟩
/-- is the newest one of its name the same? -/
def There (R : List Ver) (d : Df) : Prop := ∃ r, findV R (d.name, (verN R d.name : Int)) = some r ∧ Like r.d d
open Classical in
/-- what both answer to Add -/
noncomputable def addV (R : List Ver) (d : Df) : Int × Int × Bool :=
  if (checkN d).2 ≠ 0 then (0, 1, false) else if There R d then (verN R d.name, 0, false) else if 16 ≤ R.length then (0, 141, false) else ((verN R d.name : Int) + 1, 0, true)
def Next (R : List Ver) (d : Df) (R' : List Ver) : Prop := if (addV R d).2.2 = true then ∃ D, Like D d ∧ R' = R ++ [⟨D, (verN R d.name : Int) + 1⟩] else R' = R
theorem There.like {R : List Ver} {a d : Df} (h : Like a d) : There R a ↔ There R d := by
  unfold There
  rw [h.name]
  exact ⟨fun ⟨r, h1, h2⟩ => ⟨r, h1, h2.trans h⟩, fun ⟨r, h1, h2⟩ => ⟨r, h1, h2.trans h.symm⟩⟩
theorem addV_like {R : List Ver} {a d : Df} (h : Like a d) : addV R a = addV R d := by
  have e : There R a = There R d := propext (There.like h)
  unfold addV
  rw [h.check, h.name, e]
theorem Next.like {R R' : List Ver} {a d : Df} (h : Like a d) (k : Next R a R') : Next R d R' := by
  unfold Next at *
  rw [addV_like h] at k
  split
  · rename_i hc
    rw [if_pos hc] at k
    obtain ⟨D, h1, h2⟩ := k
    exact ⟨D, h1.trans h, by rw [← h.name]; exact h2⟩
  · rename_i hc
    rw [if_neg hc] at k
    exact k
structure RegGood (R : List Ver) : Prop where
  ok : RegOk R
  names : ∀ r ∈ R, isN r.d.name = true
  some : 0 < R.length
theorem RegGood.next {R R' : List Ver} {d : Df} (h : RegGood R) (hw : Wf d) (k : Next R d R') : RegGood R' := by
  unfold Next at k
  split at k
  · rename_i hc
    obtain ⟨D, hD, rfl⟩ := k
    have hck : (checkN d).2 = 0 ∧ ¬ 16 ≤ R.length := by
      unfold addV at hc
      split at hc
      · cases hc
      · rename_i h1
        split at hc
        · cases hc
        · split at hc
          · cases hc
          · rename_i h2
            exact ⟨by simpa using h1, h2⟩
    have h1 := h.ok.snoc (hD.wf hw) (by omega)
    rw [hD.name] at h1
    refine ⟨h1, fun r hr => ?_, by simp⟩
    rcases List.mem_append.1 hr with hr | hr
    · exact h.names r hr
    · have e : r = ⟨D, (verN R d.name : Int) + 1⟩ := by simpa using hr
      subst e
      show isN D.name = true
      rw [hD.name]
      exact check_isN hck.1
  · subst k; exact h
theorem addV_range (R : List Ver) (d : Df) (h : R.length ≤ 16) : 0 ≤ (addV R d).1 ∧ (addV R d).1 ≤ 17 := by
  have := verN_le R d.name
  unfold addV
  split
  · decide
  · split
    · simp only; omega
    · split
      · decide
      · simp only; omega
section
variable {w w0 : World} {F : List HP} {rb xb : Nat} {R : List Ver}
theorem add_v (d : Df) (hw : Wf d) (hR : RegOk R) (hDF : ∀ W L, Sat w0 W (L ++ F) → DefAt W d) (hT0 : Lib.Utf8Tabs 0 1 w0) (hO : Old w0 ∈ F) (hS : Sat w0 w (RegP rb R :: F)) :
    Calls Tryd.prog 25 #[.pointer (some ⟨rb, 0, none⟩), d.v] w fun e w' => e = .returned (.tuple #[.int .i64 (addV R d).1, .int .i64 (addV R d).2.1]) ∧ ∃ R', Next R d R' ∧ Sat w0 w' (RegP rb R' :: F) := by
  refine (add_any d hw hR.wf hR.grown hR.len hDF hT0 hO hS).mono ?_
  have hkeep : ∀ {X : Prop}, (addV R d).2.2 = false → X → ∃ R', Next R d R' ∧ X ∧ R' = R := fun h hx => ⟨R, by unfold Next; rw [h, if_neg (by decide)], hx, rfl⟩
  rintro e w' (⟨h1, rfl, hs⟩ | ⟨h1, r, hr, hl, rfl, hs⟩ | ⟨h1, hno, ⟨h2, rfl, hs⟩ | ⟨h2, D, hD, rfl, hs⟩⟩)
  · have e1 : addV R d = (0, 1, false) := by unfold addV; rw [if_pos h1]
    rw [e1]
    exact ⟨rfl, R, by unfold Next; rw [e1]; rfl, hs⟩
  · have e1 : addV R d = ((verN R d.name : Int), 0, false) := by unfold addV; rw [if_neg (by simpa using h1), if_pos ⟨r, hr, hl⟩]
    rw [e1]
    exact ⟨rfl, R, by unfold Next; rw [e1]; rfl, hs⟩
  · have e1 : addV R d = (0, 141, false) := by unfold addV; rw [if_neg (by simpa using h1), if_neg (fun ⟨r, hr, hl⟩ => hno r hr hl), if_pos h2]
    rw [e1]
    exact ⟨rfl, R, by unfold Next; rw [e1]; rfl, hs⟩
  · have e1 : addV R d = ((verN R d.name : Int) + 1, 0, true) := by unfold addV; rw [if_neg (by simpa using h1), if_neg (fun ⟨r, hr, hl⟩ => hno r hr hl), if_neg (by omega)]
    rw [e1]
    exact ⟨rfl, _, by unfold Next; rw [e1, if_pos rfl]; exact ⟨D, hD, rfl⟩, hs⟩
theorem docAdd_v (d : Df) (hw : Wf d) (hR : RegOk R) (hDF : ∀ W L, Sat w0 W (L ++ F) → DefAt W d) (hS : Sat w0 w (DocP xb R :: F)) :
    Calls Tryd.prog 31 #[.pointer (some ⟨xb, 0, none⟩), d.v] w fun e w' => e = .returned (.tuple #[.int .i64 (addV R d).1, .int .i64 (addV R d).2.1]) ∧ ∀ R', Next R d R' → Sat w0 w' (DocP xb R' :: F) := by
  refine (docAdd_any d hw hR.wf hR.grown hR.len hDF hS).mono ?_
  rintro e w' (⟨h1, rfl, hs⟩ | ⟨h1, r, hr, hl, rfl, hs⟩ | ⟨h1, hno, ⟨h2, rfl, hs⟩ | ⟨h2, rfl, hs⟩⟩)
  · have e1 : addV R d = (0, 1, false) := by unfold addV; rw [if_pos h1]
    refine ⟨by rw [e1], fun R' h => ?_⟩
    unfold Next at h; rw [e1] at h
    obtain rfl : R' = R := h
    exact hs
  · have e1 : addV R d = ((verN R d.name : Int), 0, false) := by unfold addV; rw [if_neg (by simpa using h1), if_pos ⟨r, hr, hl⟩]
    refine ⟨by rw [e1], fun R' h => ?_⟩
    unfold Next at h; rw [e1] at h
    obtain rfl : R' = R := h
    exact hs
  · have e1 : addV R d = (0, 141, false) := by unfold addV; rw [if_neg (by simpa using h1), if_neg (fun ⟨r, hr, hl⟩ => hno r hr hl), if_pos h2]
    refine ⟨by rw [e1], fun R' h => ?_⟩
    unfold Next at h; rw [e1] at h
    obtain rfl : R' = R := h
    exact hs
  · have e1 : addV R d = ((verN R d.name : Int) + 1, 0, true) := by unfold addV; rw [if_neg (by simpa using h1), if_neg (fun ⟨r, hr, hl⟩ => hno r hr hl), if_neg (by omega)]
    refine ⟨by rw [e1], fun R' h => ?_⟩
    unfold Next at h; rw [e1, if_pos rfl] at h
    obtain ⟨D, hD, rfl⟩ := h
    exact hs D _ hD
end
end Go.Proofs.YtpmoanjeoaeabaaDoor
