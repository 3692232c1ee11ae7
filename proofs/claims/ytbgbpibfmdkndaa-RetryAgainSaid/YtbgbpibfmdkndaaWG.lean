/- The wheel: New, Len, Next, Stop, Set. -/
import Derived.Test.YtbgbpibfmdkndaaWF
set_option linter.unusedVariables false
set_option linter.unusedSimpArgs false
set_option linter.unnecessarySimpa false
set_option maxRecDepth 100000
namespace Go.Proofs.Ytbgbpibfmdkndaa
open Go.RowKit Go.ChangeShapes Go.WideShapes Go.ChangeAt
/-- a wheel in a block -/
def WheelC (g T E : Nat) (L : List Tm) : HP := ex fun x : Option Addr × Nat => sep [Blk g T [.slice x.1 L.length x.2], Row E 2 x.1 L.length x.2 (tc L)]
def isId (id : Int) (x : Tm) : Bool := x.1 == id
def isLate (now : Int) (x : Tm) : Bool := decide (now < x.2)
def stopL (L : List Tm) (id : Int) : List Tm := L.eraseIdx (firstN L (isId id))
def stopB (L : List Tm) (id : Int) : Bool := decide (firstN L (isId id) < L.length)
def putL (L : List Tm) (x : Tm) : List Tm := L.take (firstN L (after x)) ++ [x] ++ L.drop (firstN L (after x))
def okT (id at_ : Int) : Prop := 0 ≤ id ∧ 0 ≤ at_ ∧ at_ ≤ 1073741824
def setC (L : List Tm) (id at_ : Int) : Int := if 0 ≤ id ∧ 0 ≤ at_ ∧ at_ ≤ 1073741824 then (if stopB L id = false ∧ L.length = 200 then 2 else 0) else 1
def setL (L : List Tm) (id at_ : Int) : List Tm := if 0 ≤ id ∧ 0 ≤ at_ ∧ at_ ≤ 1073741824 then (if stopB L id = false ∧ L.length = 200 then L else putL (stopL L id) (id, at_)) else L
def nextN (L : List Tm) : Int := match L with | [] => 0 | x :: _ => x.2
def nextB (L : List Tm) : Bool := match L with | [] => false | _ :: _ => true
theorem erase_cells (L : List Tm) (i : Nat) (h : i < L.length) : (tc L).take (i * 2) ++ (tc L).drop ((i + 1) * 2) = tc (L.eraseIdx i) := by
  rw [tc_take, tc_drop, ← tc_append, List.eraseIdx_eq_take_drop_succ]
theorem put_cells (L : List Tm) (x : Tm) (i : Nat) : (tc L).take (i * 2) ++ [.int .i64 x.1, .int .i64 x.2] ++ (tc L).drop (i * 2) = tc (L.take i ++ [x] ++ L.drop i) := by
  rw [tc_take, tc_drop, tc_append, tc_append]
  rfl
theorem put_len (L : List Tm) (x : Tm) : (putL L x).length = L.length + 1 := by
  have := first_le L (after x)
  unfold putL
  simp only [List.length_append, List.length_take, List.length_drop, List.length_cons, List.length_nil]
  omega
theorem stop_len (L : List Tm) (id : Int) : (stopL L id).length = if stopB L id then L.length - 1 else L.length := by
  unfold stopL stopB
  by_cases h : firstN L (isId id) < L.length
  · rw [decide_eq_true h, List.length_eraseIdx_of_lt h]; rfl
  · rw [decide_eq_false h, List.eraseIdx_of_length_le (by omega)]; rfl
section
variable {w0 w : World} {F : List HP} {g T E n c : Nat} {A : Option Addr} {L : List Tm}
theorem Sat.openW (h : Sat w0 w (WheelC g T E L :: F)) : ∃ A c, Sat w0 w (Blk g T [.slice A L.length c] :: Row E 2 A L.length c (tc L) :: F) := by
  obtain ⟨⟨A, c⟩, h⟩ := h.open_ex
  exact ⟨A, c, h.open_⟩
theorem Sat.closeW (hn : n = L.length) (h : Sat w0 w (Blk g T [.slice A n c] :: Row E 2 A n c (tc L) :: F)) : Sat w0 w (WheelC g T E L :: F) := by
  subst hn
  exact Sat.close_ex (A, c) h.close2
theorem wnew_any (hS : Sat w0 w F) : Calls Try.prog 30 #[] w fun e w' => e = .returned (.pointer (some ⟨w.heap.size, 0, none⟩)) ∧ Sat w0 w' (WheelC w.heap.size 68 70 [] :: F) := by
  go_enter Try.func30, Try.ntmps30
  go_wp2
  go_ret
  exact ⟨rfl, Sat.closeW rfl ((hS.nilRow 70 2).new _ _)⟩
set_option maxHeartbeats 800000 in
theorem wstop_any (id : Int) (hS : Sat w0 w (WheelC g 68 70 L :: F)) (hm : L.length ≤ 1000000) :
    Calls Try.prog 37 #[.pointer (some ⟨g, 0, none⟩), .int .i64 id] w fun e w' => e = .returned (.bool (stopB L id)) ∧ Sat w0 w' (WheelC g 68 70 (stopL L id) :: F) := by
  obtain ⟨A, c, hS⟩ := hS.openW
  have h1 := hS.new #[.int .i64 id] 3
  have hw := hS.blk.lt
  obtain ⟨b, hb⟩ : ∃ b, w.heap.size = b := ⟨_, rfl⟩
  rw [hb] at h1
  have HT : Hid (Tells (w.alloc (.cells #[.int .i64 id] 3)) 51 #[.pointer (some ⟨b, 0, none⟩)] (isId id)) := tells34 b id (by rw [← hb]; simp) (h1.blk.cell 0)
  have HF := Lib.hid (first_any34 #[.pointer (some ⟨b, 0, none⟩)] (isId id) HT.out h1.r3 hm)
  have hfl := first_le L (isId id)
  have HSB : Hid (stopB L id = decide (firstN L (isId id) < L.length)) := rfl
  have HSL : Hid (stopL L id = L.eraseIdx (firstN L (isId id))) := rfl
  obtain ⟨q, hq⟩ : ∃ q, firstN L (isId id) = q := ⟨_, rfl⟩
  rw [hq] at HF hfl HSB HSL
  unfold Quietly at HF
  have c0 : (w.alloc (.cells #[.int .i64 id] 3)).cell? ⟨g, 0, none⟩ = some (.slice A L.length c) := h1.r2.blk.cell 0
  have H1 := Lib.hid h1
  clear hq h1 hS HT hw
  go_enter Try.func37, Try.ntmps37
  go_wp2_with fail
  try simp only [hb]
  refine HF.out.mono ?_
  rintro e w1 ⟨rfl, hbl⟩
  have h2 := H1.out.below hbl
  have c1 : w1.cell? ⟨g, 0, none⟩ = some (.slice A L.length c) := h2.r2.blk.cell 0
  clear hbl c0 H1 hb HF
  by_cases hlt : q < L.length
  · have HB : Hid (stopB L id = true) := by show _ = _; rw [HSB.out, decide_eq_true hlt]
    have t0 : ((q : Int) == (L.length : Int)) = false := by rw [beq_eq_false_iff_ne]; omega
    have HD := Lib.hid (del_some q (q + 1) h2.r3 (by omega) (by omega) (tc_one L))
    rw [erase_cells L q hlt, ← HSL.out] at HD
    have hql : q + (L.length - (q + 1)) = L.length - 1 := by omega
    rw [hql] at HD
    have HLL : Hid (L.length - 1 = (stopL L id).length) := by show _ = _; rw [HSL.out, List.length_eraseIdx_of_lt hlt]
    have hcast : ((q : Int) + 1) = ((q + 1 : Nat) : Int) := by omega
    rw [← hcast] at HD
    have H2 := Lib.hid h2
    clear hql hcast h2
    go_wp2_with fail
    refine HD.out.mono ?_
    rintro e w2 ⟨rfl, h3⟩
    have y0 : w2.cell? ⟨g, 0, none⟩ = some (.slice A L.length c) := h3.r3.blk.cell 0
    have yf := h3.r3.blk.free 0
    have H4 := Lib.hid ((h3.r3.set 0 (.slice A (L.length - 1) c)).r2.r3.tail.r2)
    clear c1 h3
    go_wp2_with fail
    go_ret
    rw [HB.out]
    exact ⟨rfl, Sat.closeW HLL.out H4.out⟩
  · have HB : Hid (stopB L id = false) := by show _ = _; rw [HSB.out, decide_eq_false hlt]
    have HL : Hid (stopL L id = L) := by show _ = _; rw [HSL.out, List.eraseIdx_of_length_le (by omega)]
    have t0 : ((q : Int) == (L.length : Int)) = true := by rw [beq_iff_eq]; omega
    have H2 := Lib.hid h2.tail
    clear h2
    go_wp2_with fail
    go_ret
    rw [HB.out, HL.out]
    exact ⟨rfl, Sat.closeW rfl H2.out⟩
end
end Go.Proofs.Ytbgbpibfmdkndaa
