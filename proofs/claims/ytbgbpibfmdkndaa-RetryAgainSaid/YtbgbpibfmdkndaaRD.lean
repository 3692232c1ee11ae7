/- The document's Retry: the waits, in cells; waits, Begin, Moved, Stop. -/
import Derived.Test.YtbgbpibfmdkndaaRC
import Derived.StillTailTactics
set_option linter.unusedVariables false
set_option linter.unusedSimpArgs false
set_option linter.unnecessarySimpa false
set_option maxRecDepth 100000
namespace Go.Proofs.Ytbgbpibfmdkndaa
open Go.RowKit Go.ChangeShapes Go.WideShapes Go.ChangeAt
/-- an instance that waits: its tries, its times; was it told as late? -/
structure Wt where
  is : Bool
  tries : Int
  again : Int
  late : Int
  told : Bool
def zW : Wt := ⟨false, 0, 0, 0, false⟩
def wv (x : Wt) : List Value := [.bool x.is, .int .i64 x.tries, .int .i64 x.again, .int .i64 x.late, .bool x.told]
def wsC (W : List Wt) : List Value := W.flatMap wv
theorem wsC_len : ∀ W : List Wt, (wsC W).length = W.length * 5
  | [] => rfl
  | x :: W => by
    have ih := wsC_len W
    unfold wsC at ih ⊢
    rw [List.flatMap_cons, List.length_append, ih, List.length_cons]
    show 5 + _ = _
    omega
theorem wsC_cons (x : Wt) (W : List Wt) : wsC (x :: W) = wv x ++ wsC W := rfl
theorem wsC_get : ∀ (W : List Wt) (i : Nat) (x : Wt), W[i]? = some x → ∀ k, k < 5 → (wsC W)[i * 5 + k]? = (wv x)[k]?
  | [], i, x, h, _, _ => by simp at h
  | y :: W, 0, x, h, k, hk => by
    obtain rfl : y = x := by simpa using h
    rw [wsC_cons, Nat.zero_mul, Nat.zero_add, List.getElem?_append_left hk]
  | y :: W, i + 1, x, h, k, hk => by
    have ih := wsC_get W i x (by simpa using h) k hk
    rw [wsC_cons, List.getElem?_append_right (by show 5 ≤ _; omega), show (i + 1) * 5 + k - (wv y).length = i * 5 + k by show _ - 5 = _; omega]
    exact ih
theorem over_app (h cs us : List Value) (o : Nat) : over (h ++ cs) (h.length + o) us = h ++ over cs o us := by
  unfold over
  have e1 : (h ++ cs).take (h.length + o) = h ++ cs.take o := by rw [List.take_append, List.take_of_length_le (by omega)]; congr 2; omega
  have e2 : (h ++ cs).drop (h.length + o + us.length) = cs.drop (o + us.length) := by rw [List.drop_append, List.drop_of_length_le (by omega), List.nil_append]; congr 1; omega
  rw [e1, e2]
  simp [List.append_assoc]
theorem wsC_over : ∀ (W : List Wt) (i : Nat) (x : Wt), i < W.length → over (wsC W) (i * 5) (wv x) = wsC (W.set i x)
  | [], i, x, h => by simp at h
  | y :: W, 0, x, h => by
    rw [wsC_cons, Nat.zero_mul, List.set_cons_zero, wsC_cons]
    unfold over
    rw [List.take_zero, List.nil_append, Nat.zero_add, List.drop_append, List.drop_of_length_le (by show 5 ≤ 5; omega), List.nil_append]
    rfl
  | y :: W, i + 1, x, h => by
    have ih := wsC_over W i x (by simpa using h)
    rw [wsC_cons, List.set_cons_succ, wsC_cons, ← ih, show (i + 1) * 5 = (wv y).length + i * 5 by show _ = 5 + _; omega, over_app]
theorem wsC_set : ∀ (W : List Wt) (i k : Nat) (x x' : Wt) (v : Value), W[i]? = some x → k < 5 → (wv x).set k v = wv x' → (wsC W).set (i * 5 + k) v = wsC (W.set i x')
  | [], i, k, x, x', v, h, _, _ => by simp at h
  | y :: W, 0, k, x, x', v, h, hk, e => by
    obtain rfl : y = x := by simpa using h
    rw [wsC_cons, Nat.zero_mul, Nat.zero_add, List.set_append_left _ _ hk, e]
    rfl
  | y :: W, i + 1, k, x, x', v, h, hk, e => by
    have ih := wsC_set W i k x x' v (by simpa using h) hk e
    rw [wsC_cons, List.set_append_right _ _ (by show 5 ≤ _; omega), show (i + 1) * 5 + k - (wv y).length = i * 5 + k by show _ - 5 = _; omega, ih]
    rfl
/-- the document's Retry -/
def RDoc (x : Nat) (t : List Int) (dl : Int) (W : List Wt) : HP := ex fun y : Option Addr × Nat => sep [Blk x 60 (.slice y.1 t.length y.2 :: .int .i64 dl :: wsC W), Row 3 1 y.1 t.length y.2 (nums t)]
/-- what stands of a Retry -/
structure WOk (W : List Wt) (N : Int) : Prop where
  len : W.length = 61
  tries : ∀ x ∈ W, 0 ≤ x.tries ∧ x.tries ≤ N
  times : ∀ x ∈ W, 0 ≤ x.again ∧ x.again ≤ 1073741824 ∧ 0 ≤ x.late ∧ x.late ≤ 1073741824
def atW (W : List Wt) (i : Nat) : Wt := W.getD i zW
def waitsB (W : List Wt) (id : Int) : Bool := decide (1 ≤ id ∧ id ≤ 60) && (atW W id.toNat).is
theorem atW_get {W : List Wt} {i : Nat} (h : i < W.length) : W[i]? = some (atW W i) := by
  unfold atW
  rw [List.getElem?_eq_getElem h, List.getElem_eq_getD (h := h) zW]
section
variable {w w0 : World} {F : List HP} {x : Nat} {t : List Int} {dl : Int} {W : List Wt}
theorem Sat.rdOpen (h : Sat w0 w (RDoc x t dl W :: F)) : ∃ A c, Sat w0 w (Blk x 60 (.slice A t.length c :: .int .i64 dl :: wsC W) :: Row 3 1 A t.length c (nums t) :: F) := by
  obtain ⟨⟨A, c⟩, h⟩ := h.open_ex
  exact ⟨A, c, h.open_⟩
theorem Sat.rdClose {A : Option Addr} {c : Nat} (h : Sat w0 w (Blk x 60 (.slice A t.length c :: .int .i64 dl :: wsC W) :: Row 3 1 A t.length c (nums t) :: F)) : Sat w0 w (RDoc x t dl W :: F) :=
  Sat.close_ex (α := Option Addr × Nat) ⟨A, c⟩ h.close2
theorem rd_cells {A : Option Addr} {c : Nat} (h : Sat w0 w (Blk x 60 (.slice A t.length c :: .int .i64 dl :: wsC W) :: F)) {i : Nat} (hi : i < W.length) :
    w.cell? ⟨x, 2 + i * 5, none⟩ = some (.bool (atW W i).is) ∧ w.cell? ⟨x, 2 + i * 5 + 1, none⟩ = some (.int .i64 (atW W i).tries) ∧ w.cell? ⟨x, 2 + i * 5 + 2, none⟩ = some (.int .i64 (atW W i).again) ∧
      w.cell? ⟨x, 2 + i * 5 + 3, none⟩ = some (.int .i64 (atW W i).late) ∧ w.cell? ⟨x, 2 + i * 5 + 4, none⟩ = some (.bool (atW W i).told) := by
  have h1 := wsC_get W i _ (atW_get hi)
  have h2 : ∀ k, k < 5 → w.cell? ⟨x, 2 + i * 5 + k, none⟩ = (wv (atW W i))[k]? := fun k hk => by
    rw [h.blk.cell (2 + i * 5 + k), ← h1 k hk, show 2 + i * 5 + k = (i * 5 + k) + 1 + 1 by omega, List.getElem?_cons_succ, List.getElem?_cons_succ]
  exact ⟨h2 0 (by decide), h2 1 (by decide), h2 2 (by decide), h2 3 (by decide), h2 4 (by decide)⟩
theorem rwaits_any (id : Int) (hW : W.length = 61) (hS : Sat w0 w (RDoc x t dl W :: F)) : Calls Try.prog 39 #[.pointer (some ⟨x, 0, none⟩), .int .i64 id] w fun e w' => e = .returned (.bool (waitsB W id)) ∧ w' = w := by
  by_cases h1 : 1 ≤ id
  · by_cases h2 : id ≤ 60
    · obtain ⟨A, c, h⟩ := hS.rdOpen
      obtain ⟨i, rfl⟩ : ∃ i : Nat, id = (i : Int) := ⟨id.toNat, by omega⟩
      obtain ⟨c0, _⟩ := rd_cells h (i := i) (by omega)
      have HV : Hid (waitsB W i = (atW W i).is) := by show _ = _; unfold waitsB; rw [decide_eq_true ⟨h1, h2⟩, Int.toNat_natCast]; rfl
      obtain ⟨v, hv⟩ : ∃ v, (atW W i).is = v := ⟨_, rfl⟩
      rw [hv] at c0 HV
      have g1 : (0 : Int) ≤ (i : Int) := by omega
      have g2 : (i : Int) < 61 := by omega
      have t1 : decide ((1 : Int) ≤ (i : Int)) = true := decide_eq_true h1
      have t2 : decide ((i : Int) ≤ (60 : Int)) = true := decide_eq_true h2
      clear hS h hW hv
      go_enter Try.func39, Try.ntmps39
      go_wp2_with fail
      go_ret
      exact ⟨by rw [HV.out]; rfl, rfl⟩
    · have HV : Hid (waitsB W id = false) := by show _ = _; unfold waitsB; rw [decide_eq_false (fun h => h2 h.2)]; rfl
      have t1 : decide ((1 : Int) ≤ id) = true := decide_eq_true h1
      have t2 : decide (id ≤ (60 : Int)) = false := decide_eq_false h2
      go_enter Try.func39, Try.ntmps39
      go_wp2_with fail
      go_ret
      exact ⟨by rw [HV.out]; rfl, rfl⟩
  · have HV : Hid (waitsB W id = false) := by show _ = _; unfold waitsB; rw [decide_eq_false (fun h => h1 h.1)]; rfl
    have t1 : decide ((1 : Int) ≤ id) = false := decide_eq_false h1
    go_enter Try.func39, Try.ntmps39
    go_wp2_with fail
    go_ret
    exact ⟨by rw [HV.out]; rfl, rfl⟩
def stopE (W : List Wt) (id : Int) : Int × List Wt := if waitsB W id then (0, W.set id.toNat zW) else (1, W)
set_option maxHeartbeats 1600000 in
theorem rstop_any (id : Int) (hW : W.length = 61) (hS : Sat w0 w (RDoc x t dl W :: F)) : Calls Try.prog 23 #[.pointer (some ⟨x, 0, none⟩), .int .i64 id] w fun e w' => e = .returned (.int .i64 (stopE W id).1) ∧ Sat w0 w' (RDoc x t dl (stopE W id).2 :: F) := by
  have HC := Lib.hid (rwaits_any id hW hS)
  by_cases hw : waitsB W id = true
  · have HE : Hid (stopE W id = (0, W.set id.toNat zW)) := by show _ = _; unfold stopE; rw [if_pos hw]
    rw [hw] at HC
    have hr : 1 ≤ id ∧ id ≤ 60 := by
      unfold waitsB at hw
      rw [Bool.and_eq_true] at hw
      exact of_decide_eq_true hw.1
    obtain ⟨i, rfl⟩ : ∃ i : Nat, id = (i : Int) := ⟨id.toNat, by omega⟩
    rw [Int.toNat_natCast] at HE
    rw [HE.out]
    obtain ⟨A, c, h⟩ := hS.rdOpen
    obtain ⟨c0, c1, c2, c3, c4⟩ := rd_cells h (i := i) (by omega)
    have hfr := h.blk.free
    have q0 := hfr (2 + i * 5)
    have q1 := hfr (2 + i * 5 + 1)
    have q2 := hfr (2 + i * 5 + 2)
    have q3 := hfr (2 + i * 5 + 3)
    have q4 := hfr (2 + i * 5 + 4)
    have hl := wsC_len W
    have HX := Lib.hid (Sat.setCells (wv zW) (2 + i * 5) h (by simp only [List.length_cons, hl, hW]; show 2 + i * 5 + 5 ≤ _; omega))
    have e : over (.slice A t.length c :: .int .i64 dl :: wsC W) (2 + i * 5) (wv zW) = .slice A t.length c :: .int .i64 dl :: wsC (W.set i zW) := by
      have h1 := over_app [.slice A t.length c, .int .i64 dl] (wsC W) (wv zW) (i * 5)
      rw [wsC_over W i zW (by omega)] at h1
      exact h1
    rw [e] at HX
    have g1 : (0 : Int) ≤ (i : Int) := by omega
    have g2 : (i : Int) < 61 := by omega
    clear hS h hfr e hl HE hw hW
    go_enter Try.func23, Try.ntmps23
    go_wp2_with fail
    refine HC.out.mono ?_
    rintro e w1 ⟨rfl, rfl⟩
    go_wp2_with fail
    go_ret
    exact ⟨rfl, Sat.rdClose HX.out⟩
  · have hw' : waitsB W id = false := by simpa using hw
    have HE : Hid (stopE W id = (1, W)) := by show _ = _; unfold stopE; rw [hw']; rfl
    rw [hw'] at HC
    rw [HE.out]
    have HS := Lib.hid hS
    clear hS hw hw'
    go_enter Try.func23, Try.ntmps23
    go_wp2_with fail
    refine HC.out.mono ?_
    rintro e w1 ⟨rfl, rfl⟩
    go_wp2_with fail
    go_ret
    exact ⟨rfl, HS.out⟩
theorem set5 (w : World) (g o : Nat) (a b c d e : Value) : w.setCells g o [a, b, c, d, e] = ((((w.setCell ⟨g, o, none⟩ a).setCell ⟨g, o + 1, none⟩ b).setCell ⟨g, o + 2, none⟩ c).setCell ⟨g, o + 3, none⟩ d).setCell ⟨g, o + 4, none⟩ e := rfl
def beginE (t : List Int) (dl : Int) (W : List Wt) (id now : Int) : Int × List Wt :=
  if (1 ≤ id ∧ id ≤ 60) ∧ (0 ≤ now ∧ now ≤ 1073741824) ∧ (atW W id.toNat).is = false then (0, W.set id.toNat ⟨true, 0, laterV now (t.getD 0 0), laterV now dl, false⟩) else (1, W)
def movedE (t : List Int) (W : List Wt) (id now : Int) : Int × List Wt :=
  if waitsB W id = true ∧ tickB now = true then (0, W.set id.toNat { atW W id.toNat with tries := 0, again := laterV now (t.getD 0 0) }) else (1, W)
theorem later_of (now d : Int) : (now + d < 1073741824 ∧ laterV now d = now + d) ∨ (now + d = 1073741824 ∧ laterV now d = 1073741824) ∨ (1073741824 < now + d ∧ laterV now d = 1073741824) := by
  unfold laterV
  rcases Int.lt_trichotomy (now + d) 1073741824 with h | h | h
  · exact .inl ⟨h, by rw [if_pos (by omega)]⟩
  · exact .inr (.inl ⟨h, by rw [if_pos (by omega), h]⟩)
  · exact .inr (.inr ⟨h, by rw [if_neg (by omega)]⟩)
end
end Go.Proofs.Ytbgbpibfmdkndaa
