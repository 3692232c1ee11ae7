/- The program's Retry: its pieces; sorting a row; New; sent. -/
import Derived.Test.YtbgbpibfmdkndaaRG
import Derived.Test.YtbgbpibfmdkndaaShelf
import Derived.Test.YtbgbpibfmdkndaaSLP
import Derived.Laws.EntriesVeiled
set_option linter.unusedVariables false
set_option linter.unusedSimpArgs false
set_option linter.unnecessarySimpa false
set_option maxRecDepth 100000
namespace Go.Proofs.Ytbgbpibfmdkndaa
open Go.RowKit Go.ChangeShapes Go.WideShapes Go.ChangeAt
def sortI (L : List Int) : List Int := L.mergeSort fun x y => decide (x ≤ y)
theorem sortI_len (L : List Int) : (sortI L).length = L.length := List.length_mergeSort L
section
variable {w w0 : World} {F : List HP} {A : Option Addr} {c : Nat}
theorem sort_row {L : List Int} (hl : L.length ≤ 1000000) (hS : Sat w0 w (Row 3 1 A L.length c (nums L) :: F)) :
    Calls Try.prog 36 #[.slice A L.length c] w fun e w' => e = .returned (.tuple #[]) ∧ Sat w0 w' (Row 3 1 A L.length c (nums (sortI L)) :: F) := by
  by_cases h0 : L = []
  · subst h0
    refine (Try.slices_Sort_int_none A c w).mono ?_
    rintro e w' ⟨rfl, rfl⟩
    refine ⟨rfl, ?_⟩
    rw [show sortI [] = [] by unfold sortI; simp]
    exact hS
  · have hpos := List.length_pos_iff.2 h0
    obtain ⟨g, rfl, hc, hfr⟩ := hS.rowCell (by unfold nums; simpa using h0)
    have hH : Go.Sort.Holds (Value.int .i64) w g 0 L.toArray := fun j hj => by
      have hj' : j < L.length := by simpa using hj
      rw [Nat.zero_add, getElem!_pos L.toArray j hj]
      refine ⟨?_, hfr j⟩
      rw [hc j (by rw [nums_len]; exact hj')]
      simp [nums, hj']
    have hblk : g < w.heap.size := by
      have h1 := hc 0 (by rw [nums_len]; exact hpos)
      rw [List.getElem?_eq_getElem (by rw [nums_len]; exact hpos)] at h1
      exact World.block_lt_of_cell? w _ h1
    refine (Try.slices_Sort_int g 0 c L w hH hblk (by omega)).mono ?_
    rintro e w' ⟨rfl, n, os, rfl⟩
    refine ⟨rfl, ?_⟩
    have h := hS.putRow (Value.int .i64) (sortI L).toArray (by simp [sortI_len]) n
    rw [show (sortI L).toArray.toList.map (Value.int .i64) = nums (sortI L) from rfl] at h
    exact h.below ⟨rfl, rfl, rfl, by simp [Go.Sort.grow], fun k hk => Go.Sort.heap_grow_old _ os hk⟩
end
structure RP where
  ag : Nat
  lt : Nat
  mb : Nat
  tb : Nat
  A : Option Addr
  c : Nat
/-- the program's Retry -/
def RetP (r : Nat) (t : List Int) (dl : Int) (L K : List Tm) (M : List Ent) : HP := ex fun y : RP =>
  sep [Blk r 55 [.func (.func 28) #[] #[.pointer (some ⟨y.tb, 0, none⟩)], .func (.func 29) #[] #[], .int .i64 dl, .pointer (some ⟨y.ag, 0, none⟩), .pointer (some ⟨y.lt, 0, none⟩), .map (some y.mb)],
    Blk y.tb 22 [.slice y.A t.length y.c], Row 3 1 y.A t.length y.c (nums t), WheelC y.ag 68 70 L, WheelC y.lt 68 70 K, MapS y.mb M]
/-- the same, opened -/
def Open (F : List HP) (r : Nat) (t : List Int) (dl : Int) (y : RP) (L K : List Tm) (M : List Ent) : List HP :=
  Blk r 55 [.func (.func 28) #[] #[.pointer (some ⟨y.tb, 0, none⟩)], .func (.func 29) #[] #[], .int .i64 dl, .pointer (some ⟨y.ag, 0, none⟩), .pointer (some ⟨y.lt, 0, none⟩), .map (some y.mb)] ::
    Blk y.tb 22 [.slice y.A t.length y.c] :: Row 3 1 y.A t.length y.c (nums t) :: WheelC y.ag 68 70 L :: WheelC y.lt 68 70 K :: MapS y.mb M :: F
section
variable {w w0 : World} {F : List HP} {r : Nat} {t : List Int} {dl : Int} {L K : List Tm} {M : List Ent} {y : RP}
theorem Sat.rpOpen (h : Sat w0 w (RetP r t dl L K M :: F)) : ∃ y, Sat w0 w (Open F r t dl y L K M) := by
  obtain ⟨y, h⟩ := h.open_ex
  exact ⟨y, h.open_⟩
theorem Sat.rpClose (h : Sat w0 w (Open F r t dl y L K M)) : Sat w0 w (RetP r t dl L K M :: F) := Sat.close_ex y (Sat.close (M := [_, _, _, _, _, _]) h)
theorem open_cells (h : Sat w0 w (Open F r t dl y L K M)) :
    w.cell? ⟨r, 0, none⟩ = some (.func (.func 28) #[] #[.pointer (some ⟨y.tb, 0, none⟩)]) ∧ w.cell? ⟨r, 1, none⟩ = some (.func (.func 29) #[] #[]) ∧ w.cell? ⟨r, 2, none⟩ = some (.int .i64 dl) ∧
      w.cell? ⟨r, 3, none⟩ = some (.pointer (some ⟨y.ag, 0, none⟩)) ∧ w.cell? ⟨r, 4, none⟩ = some (.pointer (some ⟨y.lt, 0, none⟩)) ∧ w.cell? ⟨r, 5, none⟩ = some (.map (some y.mb)) :=
  ⟨h.blk.cell 0, h.blk.cell 1, h.blk.cell 2, h.blk.cell 3, h.blk.cell 4, h.blk.cell 5⟩
theorem open_delay (hm : mayB t = true) (h : Sat w0 w (Open F r t dl y L K M)) {k : Int} (hk : 0 ≤ k) :
    Calls Try.prog 28 #[.int .i64 k, .pointer (some ⟨y.tb, 0, none⟩)] w fun e w' => e = .returned (.int .i64 (delayV t k)) ∧ w' = w :=
  clDelay_any hk hm (Sat.rowNs (h.r3)) (h.r2.blk.cell 0)
theorem open_set (hL : L.length ≤ 200) (h : Sat w0 w (Open F r t dl y L K M)) (id at_ : Int) :
    Calls Try.prog 34 #[.pointer (some ⟨y.ag, 0, none⟩), .int .i64 id, .int .i64 at_] w fun e w' => e = .returned (.int .i64 (setC L id at_)) ∧ Sat w0 w' (Open F r t dl y (setL L id at_) K M) := by
  refine (wset_any id at_ h.r4 hL).mono ?_
  rintro e w' ⟨rfl, h2⟩
  exact ⟨rfl, h2.b4⟩
theorem open_setLate (hK : K.length ≤ 200) (h : Sat w0 w (Open F r t dl y L K M)) (id at_ : Int) :
    Calls Try.prog 34 #[.pointer (some ⟨y.lt, 0, none⟩), .int .i64 id, .int .i64 at_] w fun e w' => e = .returned (.int .i64 (setC K id at_)) ∧ Sat w0 w' (Open F r t dl y L (setL K id at_) M) := by
  refine (wset_any id at_ h.r5 hK).mono ?_
  rintro e w' ⟨rfl, h2⟩
  exact ⟨rfl, h2.b5⟩
set_option maxHeartbeats 3200000 in
theorem sent_any {id tries now : Int} (hm : mayB t = true) (hL : L.length ≤ 200) (hn : (M.map Prod.fst).Nodup) (htr : 0 ≤ tries) (ht : 0 ≤ now ∧ now ≤ 1073741824) (hS : Sat w0 w (RetP r t dl L K M :: F)) :
    Calls Try.prog 33 #[.pointer (some ⟨r, 0, none⟩), .int .i64 id, .int .i64 tries, .int .i64 now] w fun e w' => e = .returned (.tuple #[]) ∧ Sat w0 w' (RetP r t dl (setL L id (laterV now (delayV t tries))) K (putE M id tries) :: F) := by
  obtain ⟨y, h⟩ := hS.rpOpen
  obtain ⟨c0, c1, c2, c3, c4, c5⟩ := open_cells h
  have HN := Lib.hid hn
  have H6 : Hid (Sat w0 w (MapS y.mb M :: (Blk r 55 [.func (.func 28) #[] #[.pointer (some ⟨y.tb, 0, none⟩)], .func (.func 29) #[] #[], .int .i64 dl, .pointer (some ⟨y.ag, 0, none⟩), .pointer (some ⟨y.lt, 0, none⟩), .map (some y.mb)] ::
    Blk y.tb 22 [.slice y.A t.length y.c] :: Row 3 1 y.A t.length y.c (nums t) :: WheelC y.ag 68 70 L :: WheelC y.lt 68 70 K :: F))) := h.r6
  have hd := delay_in hm tries
  have HC28 : Hid (∀ W N, Sat w0 W (Open F r t dl y L K N) → Calls Try.prog 28 #[.int .i64 tries, .pointer (some ⟨y.tb, 0, none⟩)] W fun e w' => e = .returned (.int .i64 (delayV t tries)) ∧ w' = W) := fun W N h => open_delay hm h htr
  have HC29 : Hid (∀ W, Calls Try.prog 29 #[.int .i64 now, .int .i64 (delayV t tries)] W fun e w' => e = .returned (.int .i64 (laterV now (delayV t tries))) ∧ w' = W) := fun W => later_any ht ⟨by omega, by omega⟩
  have HC34 : Hid (∀ W N, Sat w0 W (Open F r t dl y L K N) → Calls Try.prog 34 #[.pointer (some ⟨y.ag, 0, none⟩), .int .i64 id, .int .i64 (laterV now (delayV t tries))] W fun e w' => ∃ v, e = .returned (.int .i64 v) ∧ Sat w0 w' (Open F r t dl y (setL L id (laterV now (delayV t tries))) K N)) := fun W N h => by
    refine (open_set hL h id _).mono ?_
    rintro e w' ⟨rfl, h2⟩
    exact ⟨_, rfl, h2⟩
  obtain ⟨d, hdd⟩ : ∃ d, delayV t tries = d := ⟨_, rfl⟩
  rw [hdd] at HC28 HC29 HC34 ⊢
  obtain ⟨p, hp⟩ : ∃ p, laterV now d = p := ⟨_, rfl⟩
  rw [hp] at HC29 HC34 ⊢
  have HCELL : Hid (∀ W N Q, Sat w0 W (Open F r t dl y Q K N) → W.cell? ⟨r, 3, none⟩ = some (.pointer (some ⟨y.ag, 0, none⟩)) ∧ W.cell? ⟨r, 1, none⟩ = some (.func (.func 29) #[] #[]) ∧ W.cell? ⟨r, 0, none⟩ = some (.func (.func 28) #[] #[.pointer (some ⟨y.tb, 0, none⟩)])) := fun W N Q h => by
    obtain ⟨a, b, _, d, _⟩ := open_cells h
    exact ⟨d, b, a⟩
  obtain ⟨ag, lt, mb, tb, yA, yc⟩ := y
  simp only at c0 c1 c2 c3 c4 c5 H6 HC28 HC34 HCELL
  clear hS h hn hm hd hdd hp htr ht hL
  go_enter Try.func33, Try.ntmps33
  go_wp2_with (at_mapUpdate; refine wpList_mpPut rfl _ _ _ rfl rfl H6.out HN.out rfl rfl ?_; intro w5 h5; have H5 : Hid (Sat w0 w5 (Open F r t dl ⟨ag, lt, mb, tb, yA, yc⟩ L K (putE M id tries))) := h5.perm (List.perm_middle (l₁ := [_, _, _, _, _])).symm; clear h5)
  obtain ⟨x3, x1, x0⟩ := HCELL.out w5 _ _ H5.out
  have hS := H5.out
  clear c0 c1 c2 c3 c4 c5 H6
  go_region_held3 (fun w' => w'.cell? ⟨r, 3, none⟩ = some (.pointer (some ⟨ag, 0, none⟩)) ∧ w'.cell? ⟨r, 1, none⟩ = some (.func (.func 29) #[] #[]) ∧ w'.cell? ⟨r, 0, none⟩ = some (.func (.func 28) #[] #[.pointer (some ⟨tb, 0, none⟩)]))
    (first | exact ⟨x3, x1, x0⟩ | exact ⟨y3, y1, y0⟩)
    (first
      | (go_at_call 28; refine (HC28.out _ _ hS.drew).mono ?_; rintro e w7 ⟨rfl, rfl⟩)
      | (go_at_call 29; refine (HC29.out _).mono ?_; rintro e w7 ⟨rfl, rfl⟩)
      | (go_at_call 34; refine (HC34.out _ _ hS.drew).mono ?_; rintro e w7 ⟨v7, rfl, h7⟩; obtain ⟨y3, y1, y0⟩ := HCELL.out w7 _ _ h7))
  all_goals
    have H7 := Lib.hid h7
    clear h7 hS x3 x1 x0 y3 y1 y0
    go_wp2_with fail
    go_end0
    exact ⟨rfl, Sat.rpClose H7.out⟩
end
end Go.Proofs.Ytbgbpibfmdkndaa
