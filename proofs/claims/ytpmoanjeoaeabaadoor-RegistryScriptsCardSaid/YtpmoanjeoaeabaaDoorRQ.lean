/- Words for the registry's laws: slices of definitions; what Add, Find and Same answer where things stand well. -/
import Derived.Test.YtpmoanjeoaeabaaDoorRP
set_option linter.unusedVariables false
set_option linter.unusedSimpArgs false
set_option linter.unnecessarySimpa false
set_option maxRecDepth 100000
namespace Go.Proofs.YtpmoanjeoaeabaaDoor
open Go.RowKit Go.ChangeShapes Go.WideShapes Go.ChangeAt
theorem run_bs47 (w : World) (v0 v1 : Value) : (Instr.buildSlice 47 1 #[(0, .agg #[v0, v1])]).run Tryd.prog w = .ok (.slice (some ⟨w.heap.size, 0, none⟩) 1 1) (w.alloc (.cells #[v0, v1] 24)) := by
  kernel_rfl
theorem wp_bs47 {w : World} {o : Oper} {a : Act} {K : Act → World → Prop} {Q : Exit → Act → World → Prop} (t : Tmp) (ho : o.op = .buildSlice 47 1 #[(0, .tmp t)]) (v0 v1 : Value)
    (hv : a.eval (.tmp t) = .agg #[v0, v1]) (h : K (a.put o.dst (.slice (some ⟨w.heap.size, 0, none⟩) 1 1)) (w.alloc (.cells #[v0, v1] 24))) : o.wp Tryd.prog a w K Q := by
  unfold Oper.wp execOp
  have := run_bs47 w v0 v1
  simp only [ho, resolve, Sem.run_bind, Sem.run_pure, Result.andThen_ok, List.map_toArray, List.map_cons, List.map_nil, hv, this]
  exact h
theorem wpList_bs47 {w : World} {ops : Array Oper} {rest : List Oper} {o : Oper} {a : Act} {Q : Exit → Act → World → Prop} (hgd : o.guard = none) (t : Tmp) (ho : o.op = .buildSlice 47 1 #[(0, .tmp t)]) (v0 v1 : Value)
    (hv : a.eval (.tmp t) = .agg #[v0, v1]) (h : wpList Tryd.prog ops Q rest (a.put o.dst (.slice (some ⟨w.heap.size, 0, none⟩) 1 1)) (w.alloc (.cells #[v0, v1] 24))) : wpList Tryd.prog ops Q (o :: rest) a w :=
  wpList_plain hgd fun _ hK => wp_bs47 t ho v0 v1 hv (hK _ _ h)
/-- definitions that stand in memory -/
structure DefsAt (w : World) (A : Option Addr) (c : Nat) (L : List Df) : Prop where
  elems : Elems w (.slice A L.length c) 2 (L.map Df.vs)
  each : ∀ d ∈ L, DefAt w d
  wf : ∀ d ∈ L, Wf d
  bytes : L.length * 40 ≤ 140737488351232
theorem DefsAt.keep {w w' : World} {A : Option Addr} {c : Nat} {L : List Df} (h : DefsAt w A c L) (hb : Below w.heap.size w w') : DefsAt w' A c L := ⟨h.elems.keep hb, fun d hd => (h.each d hd).keep hb, h.wf, h.bytes⟩
theorem open47q {H : Type} {enc : TypeId × Value → H} {W : World} {base : Nat} {spare : Nat → Bool} {held : Bool} {A : Option Addr} {n c : Nat} {d : DataW H} {ps : List MemPlace} {ts : List TypeId} {ds : List (DataW H)}
    (hsz : (DataW.weightsEach Tryd.prog (47 :: ts) (d :: ds)).all (· ≤ reachBytes) = true) (h : DataW.Trod enc Tryd.prog W base spare held 47 (.slice A n c) d ps) :
    ∃ L : List Df, (n = L.length ∧ DefsAt W A c L) ∧ (n = 0 ∨ ∃ ys rs, d = .slice ys rs ∧ ys.length = n) := by
  obtain ⟨L, ys, rs, hE, hy, hd, hL⟩ := elems_of Tryd.underlying47 (show Tryd.prog.cellsOf 24 = 2 by kernel_rfl) (by decide) h
  obtain ⟨hb, hws⟩ := each_of Tryd.underlying47 hy hd (wb_of (j := 0) hsz rfl rfl)
  obtain ⟨M, rfl, hM⟩ := map_of L (vs := Df.vs) (q := fun d => DefAt W d ∧ Fits d) (fun i hi => by
    obtain ⟨f, p, hr⟩ := hL i hi
    exact read24s hr (hws i hi))
  have hn := hE.at_.1
  rw [List.length_map] at hn hb
  rw [show Tryd.prog.bytesOf 24 = 40 by kernel_rfl] at hb
  refine ⟨M, ⟨hn, by rw [← hn]; exact hE, fun d hd => (hM d hd).1, fun d hd => wf_of (hM d hd).1 (hM d hd).2, hb⟩, ?_⟩
  rcases hd with ⟨e, _⟩ | e
  · left
    have : M = [] := by simpa using e
    rw [hn, this]; rfl
  · right; exact ⟨ys, rs, e, by rw [hy, List.length_map, hn]⟩
/-- what Add leaves where it puts in (or finds it there) -/
structure PutIn (R : List Ver) (d : Df) (R' : List Ver) : Prop where
  ok : RegOk R'
  keep : ∀ k r, findV R k = some r → findV R' k = some r
  check : (checkN d).2 = 0
  pos : 0 < verN R' d.name
  got : ∃ r, findV R' (d.name, (verN R' d.name : Int)) = some r ∧ Like r.d d
section
variable {w w0 : World} {F : List HP} {rb : Nat} {R : List Ver}
theorem add_two (d : Df) (hw : Wf d) (hR : RegOk R) (hDF : ∀ W L, Sat w0 W (L ++ F) → DefAt W d) (hT0 : Lib.Utf8Tabs 0 1 w0) (hO : Old w0 ∈ F) (hS : Sat w0 w (RegP rb R :: F)) :
    Calls Tryd.prog 25 #[.pointer (some ⟨rb, 0, none⟩), d.v] w fun e w' =>
      (∃ E : Int, (E = 1 ∨ E = 141) ∧ e = .returned (.tuple #[.int .i64 0, .int .i64 E]) ∧ Sat w0 w' (RegP rb R :: F)) ∨
      (∃ R', PutIn R d R' ∧ e = .returned (.tuple #[.int .i64 (verN R' d.name : Int), .int .i64 0]) ∧ Sat w0 w' (RegP rb R' :: F)) := by
  refine (add_any d hw hR.wf hR.grown hR.len hDF hT0 hO hS).mono ?_
  rintro e w' (⟨_, rfl, hs⟩ | ⟨hc, r, hr, hl, rfl, hs⟩ | ⟨hc, hno, ⟨_, rfl, hs⟩ | ⟨hl, D, hD, rfl, hs⟩⟩)
  · exact .inl ⟨1, .inl rfl, rfl, hs⟩
  · refine .inr ⟨R, ⟨hR, fun k r h => h, hc, ?_, r, hr, hl⟩, rfl, hs⟩
    have h1 := grown_range hR.grown r (findV_mem hr).1
    have h2 := (ver_name hr).2
    omega
  · exact .inl ⟨141, .inr rfl, rfl, hs⟩
  · have hn : verN (R ++ [(⟨D, (verN R d.name : Int) + 1⟩ : Ver)]) d.name = verN R d.name + 1 := by
      rw [verN_snoc]
      show _ + (if D.name = d.name then 1 else 0) = _
      rw [if_pos hD.name]
    have hk := hR.snoc (hD.wf hw) hl
    rw [hD.name] at hk
    refine .inr ⟨R ++ [⟨D, (verN R d.name : Int) + 1⟩], ⟨hk, fun k r h => findV_keep h _, hc, by omega, ⟨D, (verN R d.name : Int) + 1⟩, ?_, hD⟩, ?_, hs⟩
    · have h1 : findV R (Ver.p ⟨D, (verN R d.name : Int) + 1⟩) = none := by
        show findV R (D.name, _) = none
        rw [hD.name]
        exact grown_new hR.grown d.name
      have h2 := findV_snoc h1
      have e2 : Ver.p ⟨D, (verN R d.name : Int) + 1⟩ = (d.name, ((verN (R ++ [(⟨D, (verN R d.name : Int) + 1⟩ : Ver)]) d.name : Nat) : Int)) := by
        rw [hn]
        show (D.name, _) = _
        rw [hD.name]
        rfl
      rw [e2] at h2
      exact h2
    · rw [hn]; rfl
theorem add_again (d : Df) (hw : Wf d) (hR : RegOk R) (hc : (checkN d).2 = 0) {r : Ver} (hr : findV R (d.name, (verN R d.name : Int)) = some r) (hl : Like r.d d) (hDF : ∀ W L, Sat w0 W (L ++ F) → DefAt W d) (hT0 : Lib.Utf8Tabs 0 1 w0) (hO : Old w0 ∈ F) (hS : Sat w0 w (RegP rb R :: F)) :
    Calls Tryd.prog 25 #[.pointer (some ⟨rb, 0, none⟩), d.v] w fun e w' => e = .returned (.tuple #[.int .i64 (verN R d.name : Int), .int .i64 0]) ∧ Sat w0 w' (RegP rb R :: F) := by
  refine (add_any d hw hR.wf hR.grown hR.len hDF hT0 hO hS).mono ?_
  rintro e w' (⟨h1, _⟩ | ⟨_, _, _, _, rfl, hs⟩ | ⟨_, hno, _⟩)
  · exact absurd hc h1
  · exact ⟨rfl, hs⟩
  · exact absurd hl (hno r hr)
theorem find_got (nm : ByteArray) (ver : Int) (hn : nm.size ≤ maxLen) (hv : wf64 ver) (hR : RegOk R) {r : Ver} (hr : findV R (nm, verOf R nm ver) = some r) (hS : Sat w0 w (RegP rb R :: F)) :
    Calls Tryd.prog 27 #[.pointer (some ⟨rb, 0, none⟩), .string nm, .int .i64 ver] w fun e w' => ∃ D : Df, e = .returned (.tuple #[.agg #[.string D.name, .slice D.A D.steps.length D.c], .int .i64 (verOf R nm ver), .int .i64 0]) ∧ Like D r.d ∧ Wf D ∧ Sat w0 w' (OwnP D :: RegP rb R :: F) := by
  refine (find_any nm ver hn hv hR.wf hR.len hS).mono ?_
  intro e w' ho
  unfold FindOut at ho
  rw [hr] at ho
  obtain ⟨D, rfl, hl, hs⟩ := ho
  exact ⟨D, by rw [← like_v hl]; rfl, hl, hl.wf (hR.wf r (findV_mem hr).1), hs⟩
end
end Go.Proofs.YtpmoanjeoaeabaaDoor
