/- The document's New. -/
import Derived.Test.YtbgbpibfmdkndaaRD
set_option linter.unusedVariables false
set_option linter.unusedSimpArgs false
set_option linter.unnecessarySimpa false
set_option maxRecDepth 100000
namespace Go.Proofs.Ytbgbpibfmdkndaa
open Go.RowKit Go.ChangeShapes Go.WideShapes Go.ChangeAt
/-- nobody waits -/
def noneW : List Wt := List.replicate 61 zW
def bigA (d : Int) : Array Value := (Value.slice none 0 0 :: Value.int .i64 d :: wsC noneW).toArray
theorem run_build60 (w : World) (d : Int) : (Instr.build 60 #[(1, .int .i64 d)]).run Try.prog w = .ok (.agg (bigA d)) w := by kernel_rfl
theorem run_box60 (w : World) (d : Int) : (Instr.box 60 (.agg (bigA d))).run Try.prog w = .ok (.pointer (some ⟨w.heap.size, 0, none⟩)) (w.alloc (.cells (bigA d) 60)) := by kernel_rfl
theorem wpList_build60 {w : World} {ops : Array Oper} {rest : List Oper} {o : Oper} {a : Act} {Q : Exit → Act → World → Prop} (hgd : o.guard = none) (t : Operand) (ho : o.op = .build 60 #[(1, t)]) (d : Int)
    (hv : a.eval t = .int .i64 d) (h : wpList Try.prog ops Q rest (a.put o.dst (.agg (bigA d))) w) : wpList Try.prog ops Q (o :: rest) a w := by
  refine wpList_plain hgd fun K hK => ?_
  unfold Oper.wp execOp
  have := run_build60 w d
  simp only [ho, resolve, Sem.run_bind, Sem.run_pure, Result.andThen_ok, List.map_toArray, List.map_cons, List.map_nil, hv, this]
  exact hK _ _ h
theorem wpList_box60 {w : World} {ops : Array Oper} {rest : List Oper} {o : Oper} {a : Act} {Q : Exit → Act → World → Prop} (hgd : o.guard = none) (t : Operand) (ho : o.op = .box 60 t) (d : Int)
    (hv : a.eval t = .agg (bigA d)) (h : wpList Try.prog ops Q rest (a.put o.dst (.pointer (some ⟨w.heap.size, 0, none⟩))) (w.alloc (.cells (bigA d) 60))) : wpList Try.prog ops Q (o :: rest) a w := by
  refine wpList_plain hgd fun K hK => ?_
  unfold Oper.wp execOp
  have := run_box60 w d
  simp only [ho, resolve, Sem.run_bind, Sem.run_pure, Result.andThen_ok, hv, this]
  exact hK _ _ h
/-- what New tells -/
def newC (t : List Int) (dl : Int) : Int := if mayB t then (if 1 ≤ dl ∧ dl ≤ 1073741824 then 0 else 1) else 200
theorem infoI : (Try.prog.info? 3).map (fun i => (i.zero, i.size, i.bytes)) = some (some (.int .i64 0), 1, 8) := by kernel_rfl
section
variable {w w0 : World} {F : List HP} {A : Option Addr} {c : Nat} {t : List Int} {dl : Int}
set_option maxHeartbeats 1600000 in
theorem rnew_bad (hT : NsAt w A t) (hc : newC t dl ≠ 0) (hS : Sat w0 w F) :
    Calls Try.prog 9 #[.slice A t.length c, .int .i64 dl] w fun e w' => e = .returned (.tuple #[.pointer none, .int .i64 (newC t dl)]) ∧ Sat w0 w' F := by
  have HC := Lib.hid (rmay_any (c := c) hT)
  have HS := Lib.hid hS
  cases hm : mayB t with
  | false =>
    have HE : Hid (newC t dl = 200) := by show _ = _; unfold newC; rw [hm]; rfl
    rw [HE.out]
    rw [hm] at HC
    clear hT hc hS hm
    go_enter Try.func9, Try.ntmps9
    go_wp2_with fail
    refine HC.out.mono ?_
    rintro e w1 ⟨rfl, q, rfl⟩
    go_wp2_with fail
    go_ret2
    exact ⟨rfl, HS.out.drewN q⟩
  | true =>
    have hd : ¬ (1 ≤ dl ∧ dl ≤ 1073741824) := fun h => hc (by unfold newC; rw [hm, if_pos rfl, if_pos h])
    have HE : Hid (newC t dl = 1) := by show _ = _; unfold newC; rw [hm, if_pos rfl, if_neg hd]
    rw [HE.out]
    rw [hm] at HC
    clear hT hc hS hm
    by_cases h1 : dl < 1
    · have t1 : decide (dl < 1) = true := decide_eq_true h1
      go_enter Try.func9, Try.ntmps9
      go_wp2_with fail
      refine HC.out.mono ?_
      rintro e w1 ⟨rfl, q, rfl⟩
      go_wp2_with fail
      go_ret2
      exact ⟨rfl, HS.out.drewN q⟩
    · have t1 : decide (dl < 1) = false := decide_eq_false h1
      have t2 : decide (1073741824 < dl) = true := decide_eq_true (by omega)
      go_enter Try.func9, Try.ntmps9
      go_wp2_with fail
      refine HC.out.mono ?_
      rintro e w1 ⟨rfl, q, rfl⟩
      go_wp2_with fail
      go_ret2
      exact ⟨rfl, HS.out.drewN q⟩
set_option maxHeartbeats 1600000 in
theorem rnew_ok (hT : NsAt w A t) (hm : mayB t = true) (hd : 1 ≤ dl ∧ dl ≤ 1073741824) (hS : Sat w0 w F) :
    Calls Try.prog 9 #[.slice A t.length c, .int .i64 dl] w fun e w' => ∃ x, e = .returned (.tuple #[.pointer (some ⟨x, 0, none⟩), .int .i64 0]) ∧ Sat w0 w' (RDoc x t dl noneW :: F) := by
  have HC := Lib.hid (rmay_any (c := c) hT)
  obtain ⟨l1, l8, _⟩ := may_len hm
  rw [hm] at HC
  obtain ⟨x, hx⟩ : ∃ x, w.heap.size = x := ⟨_, rfl⟩
  have HX : Hid (∀ q, Sat w0 ((w.drewN q).alloc (.cells (bigA dl) 60)) (Row 3 1 none 0 0 [] :: Blk x 60 (.slice none 0 0 :: .int .i64 dl :: wsC noneW) :: F)) := fun q => by
    have h := (hS.drewN q).new (bigA dl) 60
    have e : (w.drewN q).heap.size = x := hx
    rw [e] at h
    exact h.nilRow 3 1
  have HR : Hid (∀ q, Rd ((w.drewN q).alloc (.cells (bigA dl) 60)) A t.length 1 (nums t)) := fun q => ((hT.drewN q).keep ((Below.refl _ _).alloc (Nat.le_refl _) _)).rd
  obtain ⟨i3, hi3, hz3, hs3, hb3⟩ := info_parts infoI
  have HI3 := Lib.hid hi3
  have HO1 := Lib.hid (nums_one t)
  obtain ⟨n, hn⟩ : ∃ n, t.length = n := ⟨_, rfl⟩
  have HN := Lib.hid hn
  rw [hn] at HC HR l1 l8 ⊢
  have hb1 : 0 + n ≤ maxLen ∧ (0 + n) * 8 ≤ 140737488355328 := by unfold maxLen; omega
  have t1 : decide (dl < 1) = false := decide_eq_false (by omega)
  have t2 : decide (1073741824 < dl) = false := decide_eq_false (by omega)
  have HSZ : Hid (∀ q, (w.drewN q).heap.size = x) := fun q => hx
  clear hT hS hm hn hd hx hi3
  go_enter Try.func9, Try.ntmps9
  go_wp2_with fail
  refine HC.out.mono ?_
  rintro e w1 ⟨rfl, q, rfl⟩
  go_wp2_with (first
    | (refine wpList_build60 rfl (.tmp 16) rfl dl rfl ?_)
    | (refine wpList_box60 rfl (.tmp 17) rfl dl rfl ?_; rw [HSZ.out q]; have H1 := Lib.hid (HX.out q); have HR1 := Lib.hid (HR.out q); obtain ⟨W1, hW1⟩ : ∃ X, X = (w.drewN q).alloc (.cells (bigA dl) 60) := ⟨_, rfl⟩; rw [← hW1] at H1 HR1 ⊢; clear hW1; have x0 := H1.out.r2.blk.cell 0)
    | (at_builtin; refine wpList_appS rfl (.tmp 23) (.tmp 24) 22 rfl 3 i3 (.int .i64 0) 1 8 Try.underlying22 HI3.out hz3 hs3 hb3 rfl (by decide) rfl H1.out rfl HR1.out HO1.out hb1.1 hb1.2 ?_; intro A3 c3 W8 hS8; rw [Nat.zero_add, List.nil_append] at hS8; have y0 := hS8.r2.blk.cell 0; have yf := hS8.r2.blk.free 0; have H8 := Lib.hid (hS8.r2.set 0 (.slice A3 n c3)); clear hS8 x0))
  go_ret2
  refine ⟨x, rfl, ?_⟩
  have hn := HN.out
  subst hn
  exact Sat.rdClose H8.out
end
end Go.Proofs.Ytbgbpibfmdkndaa
