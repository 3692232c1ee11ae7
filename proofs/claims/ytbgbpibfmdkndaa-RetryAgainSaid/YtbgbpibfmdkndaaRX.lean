/- The reading of a slice of truths; one wait alone (plain). -/
import Derived.Test.YtbgbpibfmdkndaaRV
set_option linter.unusedVariables false
set_option linter.unusedSimpArgs false
set_option linter.unnecessarySimpa false
set_option maxRecDepth 100000
namespace Go.Proofs.Ytbgbpibfmdkndaa
open Go.RowKit Go.ChangeShapes Go.WideShapes Go.ChangeAt
def boolC (b : Bool) : List Value := [.bool b]
def BoolsAt (W : World) (A : Option Addr) (n c : Nat) (l : List Bool) : Prop := n = l.length ∧ Elems W (.slice A n c) 1 (l.map boolC)
theorem open35n {H : Type} {enc : TypeId × Value → H} {W : World} {base : Nat} {spare : Nat → Bool} {held : Bool} {A : Option Addr} {n c : Nat} {d : DataW H} {ps : List MemPlace} (h : DataW.Trod enc Try.prog W base spare held 35 (.slice A n c) d ps) :
    ∃ l : List Bool, BoolsAt W A n c l ∧ (n = 0 ∨ ∃ ys rs, d = .slice ys rs ∧ ys.length = n) := by
  obtain ⟨L, ys, rs, hE, hy, hd, hL⟩ := elems_of Try.underlying35 (show Try.prog.cellsOf 4 = 1 by kernel_rfl) (by decide) h
  obtain ⟨M, rfl, hM⟩ := map_of L (vs := boolC) (q := fun _ => True) (fun i hi => by
    obtain ⟨f, p, hr⟩ := hL i hi
    obtain ⟨b, e0, _⟩ := DataW.trod_bool Try.underlying4 hr
    exact ⟨b, e0, trivial⟩)
  have hn := hE.at_.1
  rw [List.length_map] at hn
  refine ⟨M, ⟨hn, hE⟩, ?_⟩
  rcases hd with ⟨e, _⟩ | e
  · left
    have : M = [] := by simpa using e
    rw [hn, this]; rfl
  · right; exact ⟨ys, rs, e, by rw [hy, List.length_map, hn]⟩
theorem bool_cells {w0 w' : World} {A : Option Addr} {c : Nat} {l : List Bool} (hE : Elems w0 (.slice A l.length c) 1 (l.map boolC)) (hb : Below w0.heap.size w0 w') (k : Nat) (hk : k < l.length) :
    ∃ b of v, A = some ⟨b, of, none⟩ ∧ w'.cell? ⟨b, of + k, none⟩ = some (.bool v) := by
  obtain ⟨b', of', e, hc⟩ := (hE.keep hb).at_.2.2 (by rw [List.length_map]; omega)
  have hc' := hc k (by rw [List.length_map]; exact hk) 0 (by decide)
  have hx : (l.map boolC).getD k [] = boolC l[k] := by simp [List.getD, hk]
  rw [hx, Nat.mul_one, Nat.add_zero] at hc'
  exact ⟨b', of', l[k], e, hc'⟩
/-! plain: one wait alone -/
structure Lone (i : Nat) (W : List Wt) (y : Wt) : Prop where
  len : W.length = 61
  at_ : atW W i = y
  off : ∀ j, j ≠ i → (atW W j).is = false
def stW (dl now : Int) (tr : Nat) (nx : Int) : Wt := ⟨true, (tr : Int), nx, dl, decide (dl < now)⟩
section
variable {W : List Wt} {i : Nat} {y : Wt} {t : List Int} {dl now nx : Int} {tr : Nat}
theorem Lone.two (h : Lone i W y) : Alone i W W := ⟨h.len, h.len, rfl, h.off⟩
theorem Lone.set (h : Lone i W y) (hi : i < 61) (z : Wt) : Lone i (W.set i z) z := by
  refine ⟨by rw [List.length_set]; exact h.len, ?_, fun j hj => ?_⟩
  · rw [atW_set (by rw [h.len]; exact hi), if_pos rfl]
  · rw [atW_set (by rw [h.len]; exact hi), if_neg hj]; exact h.off j hj
theorem Lone.start : Lone i noneW zW := by
  have h := Alone.start (i := i)
  have h0 : ∀ j, atW noneW j = zW := fun j => by
    by_cases hj : j < 61
    · unfold atW noneW
      rw [← List.getElem_eq_getD (h := by rw [List.length_replicate]; exact hj) zW, List.getElem_replicate]
    · unfold atW noneW
      rw [List.getD, List.getElem?_eq_none (by rw [List.length_replicate]; omega)]
      rfl
  exact ⟨h.lw, h0 i, h.off⟩
theorem later_is {now d : Int} (h : now + d < 1073741824) : laterV now d = now + d := by
  rcases later_of now d with ⟨_, e⟩ | ⟨e, _⟩ | ⟨e, _⟩ <;> omega
theorem getD_in (hm : mayB t = true) : 1 ≤ t.getD 0 0 ∧ t.getD 0 0 ≤ 1000 := by
  have h := delay_in hm 0
  rw [delay_zero] at h
  exact h
theorem lone_begin (hm : mayB t = true) (hd : 1 ≤ dl ∧ dl ≤ 60) (h1 : 1 ≤ i) (h6 : i ≤ 60) : ∃ E, beginE t dl noneW (i : Int) 0 = (0, E) ∧ Lone i E (stW dl 1 0 (t.getD 0 0)) := by
  have h := Lone.start (i := i)
  have hg := getD_in hm
  unfold beginE
  rw [Int.toNat_natCast, h.at_, if_pos ⟨by omega, by omega, rfl⟩, later_is (by omega), later_is (by omega), Int.zero_add, Int.zero_add]
  have hq : decide (dl < 1) = false := decide_eq_false (by omega)
  refine ⟨_, rfl, ?_⟩
  have h2 := h.set (by omega) ⟨true, 0, t.getD 0 0, dl, false⟩
  unfold stW
  rw [hq]
  exact h2
theorem Lone.isAg (h : Lone i W (stW dl now tr nx)) (h1 : 1 ≤ i) (h6 : i ≤ 60) (hn : 1 ≤ now ∧ now ≤ 100) (hx : now ≤ nx) :
    hasI (agT W now) (i : Int) = decide (now = nx) := by
  have ht : tickB now = true := decide_eq_true (by omega)
  unfold agT hasI
  rw [if_pos ht, decide_eq_decide, agK_mem]
  constructor
  · rintro ⟨n, e, _, _, ha⟩
    obtain rfl : i = n := by omega
    rw [h.at_] at ha
    unfold Ytbgbpibfmdkndaa.isAg stW at ha
    simp at ha
    omega
  · intro e
    refine ⟨i, rfl, h1, h6, ?_⟩
    rw [h.at_]
    unfold Ytbgbpibfmdkndaa.isAg stW
    simp
    omega
theorem Lone.isLt (h : Lone i W (stW dl now tr nx)) (h1 : 1 ≤ i) (h6 : i ≤ 60) (hn : 1 ≤ now ∧ now ≤ 100) :
    hasI (ltT W now) (i : Int) = decide (now = dl) := by
  have ht : tickB now = true := decide_eq_true (by omega)
  unfold ltT hasI
  rw [if_pos ht, decide_eq_decide, ltK_mem]
  constructor
  · rintro ⟨n, e, _, _, ha⟩
    obtain rfl : i = n := by omega
    rw [h.at_] at ha
    unfold Ytbgbpibfmdkndaa.isLt stW at ha
    simp at ha
    omega
  · intro e
    refine ⟨i, rfl, h1, h6, ?_⟩
    rw [h.at_]
    unfold Ytbgbpibfmdkndaa.isLt stW
    simp
    omega
theorem Lone.due (hm : mayB t = true) (h : Lone i W (stW dl now tr nx)) (h1 : 1 ≤ i) (h6 : i ≤ 60) (hn : 1 ≤ now ∧ now ≤ 100) (hx : now ≤ nx) :
    Lone i (dueT t now W) (if now = nx then stW dl (now + 1) (tr + 1) (now + delayV t ((tr + 1 : Nat) : Int)) else stW dl (now + 1) tr nx) := by
  have ht : tickB now = true := decide_eq_true (by omega)
  have hA := h.two.due (t := t) h1 h6 now
  refine ⟨hA.lw, ?_, hA.off⟩
  have hd := delay_in hm ((tr + 1 : Nat) : Int)
  unfold dueT
  rw [if_pos ht, dueK_all h.len 60 (Nat.le_refl _) i h1 h6, h.at_]
  have hag : Ytbgbpibfmdkndaa.isAg now (stW dl now tr nx) = decide (now = nx) := by
    unfold Ytbgbpibfmdkndaa.isAg stW
    simp only [Bool.true_and]
    rw [decide_eq_decide]; omega
  have hlt : Ytbgbpibfmdkndaa.isLt now (stW dl now tr nx) = decide (now = dl) := by
    unfold Ytbgbpibfmdkndaa.isLt stW
    simp only [Bool.true_and]
    by_cases e : now = dl
    · rw [decide_eq_true e, decide_eq_false (p := dl < now) (by omega), decide_eq_true (p := dl ≤ now) (by omega)]; rfl
    · rw [decide_eq_false e]
      by_cases e2 : dl < now
      · rw [decide_eq_true e2]; rfl
      · rw [decide_eq_false e2, decide_eq_false (p := dl ≤ now) (by omega)]; rfl
  unfold due1 agW
  rw [hag, hlt]
  have hz : laterV now (delayV t ((stW dl now tr nx).tries + 1)) = now + delayV t ((tr + 1 : Nat) : Int) := by
    show laterV now (delayV t ((tr : Int) + 1)) = _
    rw [later_is (by have := hd.2; rw [Int.natCast_succ] at this; omega)]
    rfl
  rw [hz]
  have hk : decide (dl < now + 1) = (decide (now = dl) || decide (dl < now)) := by
    by_cases e : now = dl
    · rw [decide_eq_true e, decide_eq_true (p := dl < now + 1) (by omega)]; rfl
    · rw [decide_eq_false e]
      by_cases e2 : dl < now
      · rw [decide_eq_true e2, decide_eq_true (p := dl < now + 1) (by omega)]; rfl
      · rw [decide_eq_false e2, decide_eq_false (p := dl < now + 1) (by omega)]; rfl
  unfold stW
  rw [hk]
  by_cases e : now = nx
  · rw [if_pos e, decide_eq_true e]
    generalize decide (now = dl) = bb
    cases bb <;> rfl
  · rw [if_neg e, decide_eq_false e]
    generalize decide (now = dl) = bb
    cases bb <;> rfl
theorem Lone.moved (hm : mayB t = true) {nn : Int} (h : Lone i W (stW dl nn tr nx)) (h1 : 1 ≤ i) (h6 : i ≤ 60) (hn : 1 ≤ now ∧ now ≤ 100) :
    ∃ E, movedE t W (i : Int) now = (0, E) ∧ Lone i E (stW dl nn 0 (now + t.getD 0 0)) := by
  have hg := getD_in hm
  have hw : waitsB W (i : Int) = true := by
    unfold waitsB
    rw [Int.toNat_natCast, h.at_, decide_eq_true (by omega)]
    rfl
  have ht : tickB now = true := decide_eq_true (by omega)
  unfold movedE
  rw [Int.toNat_natCast, h.at_, if_pos ⟨hw, ht⟩, later_is (by omega)]
  exact ⟨_, rfl, h.set (by omega) _⟩
theorem Lone.stop (h : Lone i W y) (hy : y.is = true) (h1 : 1 ≤ i) (h6 : i ≤ 60) : ∃ E, stopE W (i : Int) = (0, E) ∧ (stopE E (i : Int)).1 = 1 := by
  have hw : waitsB W (i : Int) = true := by
    unfold waitsB
    rw [Int.toNat_natCast, h.at_, hy, decide_eq_true (by omega)]
    rfl
  have h2 := h.set (by omega) zW
  have hw2 : waitsB (W.set i zW) (i : Int) = false := by
    unfold waitsB
    rw [Int.toNat_natCast, h2.at_]
    exact Bool.and_false _
  refine ⟨W.set i zW, ?_, ?_⟩
  · unfold stopE; rw [if_pos hw, Int.toNat_natCast]
  · unfold stopE; rw [hw2]; rfl
end
end Go.Proofs.Ytbgbpibfmdkndaa
