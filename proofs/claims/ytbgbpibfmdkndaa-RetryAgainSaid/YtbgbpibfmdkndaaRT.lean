/- filled; Due of both at any tick in the same words; the reading of a script. -/
import Derived.Test.YtbgbpibfmdkndaaRS
import Derived.Test.YtbgbpibfmdkndaaRO
set_option linter.unusedVariables false
set_option linter.unusedSimpArgs false
set_option linter.unnecessarySimpa false
set_option maxRecDepth 100000
namespace Go.Proofs.Ytbgbpibfmdkndaa
open Go.RowKit Go.ChangeShapes Go.WideShapes Go.ChangeAt
section
variable {w0 w : World} {F : List HP} {A : Option Addr} {c : Nat}
def FlRel (w0 : World) (F : List HP) (A : Option Addr) (c n : Nat) (i : Value) (wr : World) : Prop :=
  ∃ (k : Nat) (K : List Value), K.length = n ∧ k ≤ n ∧ i = .int .i64 k ∧ Sat w0 wr (Row 3 1 A n c K :: F)
theorem filled_last {A' : Option Addr} {c' n : Nat} {K : List Value} (hKL : K.length = n) (hT2 : Sat w0 w (Row 3 1 A' (n + 2) c' (K ++ [.int .i64 (-9), .int .i64 (-9)]) :: F)) :
    ∃ g', w.cell? ⟨g', n + 1, none⟩ = some (.int .i64 (-9)) ∧ w.frozen? ⟨g', n + 1, none⟩ = false ∧ Hid (Sat w0 (w.setCell ⟨g', n + 1, none⟩ (.int .i64 (-8))) F) ∧ A' = some ⟨g', 0, none⟩ := by
  obtain ⟨g', rfl, hc', hfr'⟩ := hT2.rowCell (by simp)
  refine ⟨g', ?_, hfr' _, Lib.hid (hT2.rowSet (n + 1) (.int .i64 (-8))).tail, rfl⟩
  rw [hc' (n + 1) (by simp [hKL]), List.getElem?_append_right (by omega)]
  simp [hKL]
set_option maxHeartbeats 1600000 in
theorem filled_any {n : Nat} {xs : List Value} (hS : Sat w0 w (Row 3 1 A n c xs :: F)) (hl : n ≤ 1000000) :
    Calls Try.prog 20 #[.slice A n c] w fun e w' => e = .returned (.tuple #[]) ∧ Sat w0 w' F := by
  obtain ⟨ii, hi, hz, hsz9, hby⟩ := info_parts infoI
  have hxl := hS.rowLen
  go_enter Try.func20, Try.ntmps20
  go_wp2_with fail
  go_loopw [2] (FlRel w0 F A c n) (fun i _ => n - (intOf i).toNat)
  case atStart => exact ⟨0, xs, by omega, by omega, rfl, hS⟩
  case round =>
    obtain ⟨k, K, hKL, hk, rfl, hT⟩ := hrel
    clear hS hxl
    by_cases hlt : k < n
    · obtain ⟨g, rfl, hc, hfr⟩ := hT.rowCell (by intro e; rw [e] at hKL; simp at hKL; omega)
      have x := hc k (by omega)
      rw [List.getElem?_eq_getElem (by omega)] at x
      have f := hfr k
      have hT2 := Lib.hid (hT.rowSet k (.int .i64 (-7 - k)))
      clear hc hfr
      go_wp2_with fail
      go_roundw
      case rel => exact ⟨k + 1, K.set k (.int .i64 (-7 - k)), by simp [hKL], by omega, by go_num, hT2.out⟩
      case measure => simp [intOf]; omega
    · have hm1 : n + 2 ≤ maxLen := by unfold maxLen; omega
      have hm2 : (n + 2) * 8 ≤ 140737488355328 := by omega
      have hNB := hT.new #[.int .i64 (-9), .int .i64 (-9)] 3
      go_wp2_with (at_builtin; refine wpList_appS rfl (.tmp 14) (.tmp 15) 22 rfl 3 ii (.int .i64 0) 1 8 Try.underlying22 hi hz hsz9 hby rfl (by decide) (by rfl) hNB.tail (by rfl) (hNB.rdBlk 2 1 (by simp)) (by intro u hu; simp at hu; subst hu; rfl) hm1 hm2 ?_; intro A' c' w' hT2; obtain ⟨g', x, f, HT3, rfl⟩ := filled_last hKL hT2; clear hT2 hNB)
      go_end0
      exact ⟨rfl, HT3.out⟩
end
/-! Due of both -/
def agT (W : List Wt) (now : Int) : List Int := if tickB now = true then agK W now 60 else []
def ltT (W : List Wt) (now : Int) : List Int := if tickB now = true then ltK W now 60 else []
def dueT (t : List Int) (now : Int) (W : List Wt) : List Wt := if tickB now = true then dueK t now W 60 else W
theorem agT_len (W : List Wt) (now : Int) : (agT W now).length ≤ 60 := by
  unfold agT; split
  · exact agK_len W now 60
  · simp
theorem ltT_len (W : List Wt) (now : Int) : (ltT W now).length ≤ 60 := by
  unfold ltT; split
  · exact ltK_len W now 60
  · simp
theorem tick_of {now : Int} (h : tickB now = true) : 0 ≤ now ∧ now ≤ 1073741824 := of_decide_eq_true h
theorem WOk.dueT {W : List Wt} {N : Int} (h : WOk W N) (hN : 0 ≤ N) {t : List Int} {now : Int} (hm : mayB t = true) : WOk (dueT t now W) (N + 1) := by
  unfold Ytbgbpibfmdkndaa.dueT
  split
  · rename_i ht
    exact h.due hN (tick_of ht) hm 60 (by omega)
  · exact h.up (by omega)
section
variable {w w0 : World} {F : List HP} {t : List Int} {dl : Int} {r x : Nat} {W : List Wt}
set_option maxHeartbeats 3200000 in
theorem rdue_bad {now : Int} (ht : tickB now = false) (hS : Sat w0 w F) : Calls Try.prog 24 #[.pointer (some ⟨x, 0, none⟩), .int .i64 now] w fun e w' => e = .returned (.tuple #[.slice none 0 0, .slice none 0 0]) ∧ Sat w0 w' F := by
  have HC := Lib.hid (rtick_any (now := now) (w := w))
  rw [ht] at HC
  go_enter Try.func24, Try.ntmps24
  go_wp2_with fail
  refine HC.out.mono ?_
  rintro e w1 ⟨rfl, rfl⟩
  go_wp2_with fail
  go_ret2
  exact ⟨rfl, hS⟩
theorem pdue_all {now N : Int} (hm : mayB t = true) (hW : WOk W N) (hN : 0 ≤ N ∧ N ≤ 4611686018427387904) (hS : Sat w0 w (PRet r t dl W :: F)) :
    Calls Try.prog 16 #[.pointer (some ⟨r, 0, none⟩), .int .i64 now] w fun e w' => ∃ A1 c1 A2 c2, e = .returned (.tuple #[.slice A1 (agT W now).length c1, .slice A2 (ltT W now).length c2]) ∧
      Sat w0 w' (Row 3 1 A1 (agT W now).length c1 (nums (agT W now)) :: Row 3 1 A2 (ltT W now).length c2 (nums (ltT W now)) :: PRet r t dl (dueT t now W) :: F) := by
  unfold agT ltT Ytbgbpibfmdkndaa.dueT
  cases h : tickB now with
  | true => exact pdue_any (tick_of h) hm hW hN hS
  | false =>
    refine (due_bad h hS).mono ?_
    rintro e w' ⟨rfl, h2⟩
    exact ⟨none, 0, none, 0, rfl, (h2.nilRow 3 1).nilRow 3 1⟩
theorem rdue_all {now N : Int} (hm : mayB t = true) (hW : WOk W N) (hN : 0 ≤ N ∧ N ≤ 4611686018427387904) (hS : Sat w0 w (RDoc x t dl W :: F)) :
    Calls Try.prog 24 #[.pointer (some ⟨x, 0, none⟩), .int .i64 now] w fun e w' => ∃ A1 c1 A2 c2, e = .returned (.tuple #[.slice A1 (agT W now).length c1, .slice A2 (ltT W now).length c2]) ∧
      Sat w0 w' (Row 3 1 A1 (agT W now).length c1 (nums (agT W now)) :: Row 3 1 A2 (ltT W now).length c2 (nums (ltT W now)) :: RDoc x t dl (dueT t now W) :: F) := by
  unfold agT ltT Ytbgbpibfmdkndaa.dueT
  cases h : tickB now with
  | true => exact rdue_any hW hN.2 hm hS (tick_of h)
  | false =>
    refine (rdue_bad h hS).mono ?_
    rintro e w' ⟨rfl, h2⟩
    exact ⟨none, 0, none, 0, rfl, (h2.nilRow 3 1).nilRow 3 1⟩
end
/-! the reading of a script -/
structure ROp where
  act : Int
  id : Int
  at_ : Int
def ROp.vs (o : ROp) : List Value := [.int .i64 o.act, .int .i64 o.id, .int .i64 o.at_]
def ROp.wf (o : ROp) : Prop := wf64 o.act ∧ wf64 o.id ∧ wf64 o.at_
theorem read45 {H : Type} {enc : TypeId × Value → H} {W : World} {base fuel : Nat} {spare : Nat → Bool} {held : Bool} {cs : List Value} {x : DataW H × List MemPlace}
    (h : DataW.trod enc Try.prog W base spare held fuel 45 cs = some x) : ∃ o : ROp, cs = o.vs ∧ o.wf := by
  obtain ⟨xs, n, rfl, hx, hlen, hn, hel⟩ := DataW.trod_struct Try.underlying45 h
  rw [show Try.prog.cellsOf 45 = 3 by kernel_rfl] at hlen
  match cs, hlen with
  | [c0, c1, c2], _ =>
    have h0 := hel 0 _ rfl
    have h1 := hel 1 _ rfl
    have h2 := hel 2 _ rfl
    match xs, hn with
    | [x0, x1, x2], _ =>
      obtain ⟨k0, e0, _, w0⟩ := DataW.trod_int Try.underlying3 (x := x0) h0
      obtain ⟨k1, e1, _, w1⟩ := DataW.trod_int Try.underlying3 (x := x1) h1
      obtain ⟨k2, e2, _, w2⟩ := DataW.trod_int Try.underlying3 (x := x2) h2
      refine ⟨⟨k0, k1, k2⟩, ?_, wf64_of w0, wf64_of w1, wf64_of w2⟩
      have q0 : Try.prog.cellsOf 3 = 1 := by kernel_rfl
      simp [q0] at e0 e1 e2
      simp [ROp.vs, e0, e1, e2]
def OpsAt (w : World) (A : Option Addr) (n c : Nat) (l : List ROp) : Prop := n = l.length ∧ Elems w (.slice A n c) 3 (l.map ROp.vs) ∧ ∀ o ∈ l, o.wf
theorem open42n {H : Type} {enc : TypeId × Value → H} {W : World} {base : Nat} {spare : Nat → Bool} {held : Bool} {A : Option Addr} {n c : Nat} {d : DataW H} {ps : List MemPlace} (h : DataW.Trod enc Try.prog W base spare held 42 (.slice A n c) d ps) :
    ∃ l : List ROp, OpsAt W A n c l ∧ (n = 0 ∨ ∃ ys rs, d = .slice ys rs ∧ ys.length = n) := by
  obtain ⟨L, ys, rs, hE, hy, hd, hL⟩ := elems_of Try.underlying42 (show Try.prog.cellsOf 45 = 3 by kernel_rfl) (by decide) h
  obtain ⟨M, rfl, hM⟩ := map_of L (vs := ROp.vs) (q := ROp.wf) (fun i hi => by
    obtain ⟨f, p, hr⟩ := hL i hi
    exact read45 hr)
  have hn := hE.at_.1
  rw [List.length_map] at hn
  refine ⟨M, ⟨hn, hE, hM⟩, ?_⟩
  rcases hd with ⟨e, _⟩ | e
  · left
    have : M = [] := by simpa using e
    rw [hn, this]; rfl
  · right; exact ⟨ys, rs, e, by rw [hy, List.length_map, hn]⟩
theorem rop_cells {w0 w' : World} {A : Option Addr} {c : Nat} {l : List ROp} (hE : Elems w0 (.slice A l.length c) 3 (l.map ROp.vs)) (hb : Below w0.heap.size w0 w') (k : Nat) (hk : k < l.length) :
    ∃ b of, A = some ⟨b, of, none⟩ ∧ w'.cell? ⟨b, of + k * 3, none⟩ = some (.int .i64 l[k].act) ∧ w'.cell? ⟨b, of + k * 3 + 1, none⟩ = some (.int .i64 l[k].id) ∧ w'.cell? ⟨b, of + k * 3 + 2, none⟩ = some (.int .i64 l[k].at_) := by
  obtain ⟨b', of', e, hc⟩ := (hE.keep hb).at_.2.2 (by rw [List.length_map]; omega)
  have hc' := hc k (by rw [List.length_map]; exact hk)
  have hx : (l.map ROp.vs).getD k [] = (l[k]).vs := by simp [List.getD, hk]
  rw [hx] at hc'
  exact ⟨b', of', e, hc' 0 (by decide), hc' 1 (by decide), hc' 2 (by decide)⟩
end Go.Proofs.Ytbgbpibfmdkndaa
