/- What the reading of a script gives; plays. -/
import Derived.Test.YtbgbpibfmdkndaaDoorLP
import Derived.Test.YtbgbpibfmdkndaaDoorDat
import Derived.Deep.RegionHeld3
set_option linter.unusedVariables false
set_option linter.unusedSimpArgs false
set_option linter.unnecessarySimpa false
set_option maxRecDepth 100000
namespace Go.Proofs.YtbgbpibfmdkndaaDoor
open Go.RowKit Go.ChangeShapes Go.WideShapes Go.ChangeAt
def strC (b : ByteArray) : List Value := [.string b]
structure LOp where
  act : Int
  inst : Int
  keys : List ByteArray
  A : Option Addr
  c : Nat
def LOp.vs (o : LOp) : List Value := [.int .i64 o.act, .int .i64 o.inst, .slice o.A o.keys.length o.c]
structure LOpAt (w : World) (o : LOp) : Prop where
  keys : Elems w (.slice o.A o.keys.length o.c) 1 (o.keys.map strC)
  act : wf64 o.act
  inst : wf64 o.inst
def bulkS (L : List ByteArray) : Nat := (L.map fun x => x.size + 1).sum
def bulkO (l : List LOp) : Nat := (l.map fun o => bulkS o.keys + 1).sum
structure OpsAt (w : World) (A : Option Addr) (c : Nat) (l : List LOp) : Prop where
  elems : Elems w (.slice A l.length c) 3 (l.map LOp.vs)
  each : ∀ o ∈ l, LOpAt w o
theorem bulkS_len (L : List ByteArray) : L.length ≤ bulkS L := by
  unfold bulkS
  induction L with
  | nil => exact Nat.le_refl _
  | cons x L ih => simp only [List.map_cons, List.sum_cons, List.length_cons]; omega
theorem bulkS_mem {L : List ByteArray} {k : ByteArray} (h : k ∈ L) : k.size ≤ bulkS L := by
  unfold bulkS
  induction L with
  | nil => cases h
  | cons x L ih =>
    simp only [List.map_cons, List.sum_cons]
    rcases List.mem_cons.1 h with rfl | h
    · omega
    · have := ih h; omega
theorem bulkS_ok {L : List ByteArray} (h : bulkS L ≤ 1048576) : KeysOk L := ⟨by have := bulkS_len L; omega, fun k hk => by have := bulkS_mem hk; omega⟩
theorem bulkO_len (l : List LOp) : l.length ≤ bulkO l := by
  unfold bulkO
  induction l with
  | nil => exact Nat.le_refl _
  | cons x L ih => simp only [List.map_cons, List.sum_cons, List.length_cons]; omega
theorem bulkO_mem {l : List LOp} {o : LOp} (h : o ∈ l) : bulkS o.keys ≤ bulkO l := by
  unfold bulkO
  induction l with
  | nil => cases h
  | cons x L ih =>
    simp only [List.map_cons, List.sum_cons]
    rcases List.mem_cons.1 h with rfl | h
    · omega
    · have := ih h; omega
theorem map_ofB {H : Type} {α : Type} {vs : α → List Value} {q : α → Prop} {b : α → Nat} : ∀ (L : List (List Value)) (ys : List (DataW H)), ys.length = L.length →
    (∀ i, i < L.length → ∃ o : α, L.getD i [] = vs o ∧ q o ∧ b o ≤ Rows.uptoBulk (ys.getD i .nil)) → ∃ M : List α, L = M.map vs ∧ (∀ o ∈ M, q o) ∧ (M.map b).sum ≤ Rows.uptoBulkAll ys
  | [], _, _, _ => ⟨[], rfl, by simp, Nat.zero_le _⟩
  | x :: L, [], h, _ => by simp at h
  | x :: L, y :: ys, h, hi => by
    obtain ⟨o, e, ho, hb⟩ := hi 0 (by simp)
    obtain ⟨M, e2, hM, hs⟩ := map_ofB L ys (by simpa using h) fun i hl => by
      have := hi (i + 1) (by simpa using hl)
      simpa using this
    have e' : x = vs o := by simpa using e
    have hb' : b o ≤ Rows.uptoBulk y := by simpa using hb
    refine ⟨o :: M, by rw [e', e2]; rfl, fun z hz => ?_, ?_⟩
    · rcases List.mem_cons.1 hz with rfl | hz
      · exact ho
      · exact hM z hz
    · simp only [List.map_cons, List.sum_cons, Rows.uptoBulkAll]
      omega
section
variable {H : Type} {enc : TypeId × Value → H} {W : World} {base fuel : Nat} {spare : Nat → Bool} {held : Bool}
theorem slice_form {t e : TypeId} {v : Value} {x : DataW H × List MemPlace} (ht : Tryd.prog.underlying t = some (.slice e)) (h : DataW.trod enc Tryd.prog W base spare held fuel t [v] = some x) : ∃ A n c, v = .slice A n c := by
  rcases DataW.trod_slice ht h with ⟨h, _⟩ | ⟨x, l, c, _, _, _, _, h, _⟩
  · injection h with h; exact ⟨_, _, _, h⟩
  · injection h with h; exact ⟨_, _, _, h⟩
theorem trod_cells {t : TypeId} {v : Value} {x : DataW H × List MemPlace} (hv : v.cells.toList = [v]) (h : DataW.trod enc Tryd.prog W base spare held fuel t [v] = some x) : DataW.Trod enc Tryd.prog W base spare held t v x.1 x.2 := ⟨fuel, by rw [hv]; exact h⟩
theorem bulk_slice {d : DataW H} {ys rs : List (DataW H)} {n : Nat} (hd : (n = 0 ∧ d = .nil) ∨ d = .slice ys rs) (hy : ys.length = n) : Rows.uptoBulkAll ys ≤ Rows.uptoBulk d := by
  rcases hd with ⟨rfl, rfl⟩ | rfl
  · have : ys = [] := List.eq_nil_of_length_eq_zero hy
    subst this
    exact Nat.zero_le _
  · simp only [Rows.uptoBulk]; omega
theorem read27d {A : Option Addr} {n c : Nat} {d : DataW H} {ps : List MemPlace} (h : DataW.Trod enc Tryd.prog W base spare held 27 (.slice A n c) d ps) :
    ∃ l : List ByteArray, n = l.length ∧ Elems W (.slice A n c) 1 (l.map strC) ∧ bulkS l ≤ Rows.uptoBulk d := by
  obtain ⟨L, ys, rs, hE, hy, hd, hL⟩ := elems_of Tryd.underlying27 (show Tryd.prog.cellsOf 9 = 1 by kernel_rfl) (by decide) h
  obtain ⟨M, rfl, hM, hs⟩ := map_ofB (vs := strC) (q := fun _ => True) (b := fun x : ByteArray => x.size + 1) L ys hy (fun i hi => by
    obtain ⟨f, p, hr⟩ := hL i hi
    obtain ⟨k0, e0, e1, _⟩ := DataW.trod_string Tryd.underlying9 hr
    refine ⟨k0, e0, trivial, ?_⟩
    have e2 : ys.getD i .nil = .lit (.string k0.data.toList) := (Prod.mk.inj e1).1
    rw [e2]
    simp only [Rows.uptoBulk]
    rw [show k0.data.toList.length = k0.size from Array.length_toList]
    exact Nat.le_refl _)
  have hn := hE.at_.1
  rw [List.length_map] at hn
  refine ⟨M, hn, hE, Nat.le_trans hs (bulk_slice (n := (M.map strC).length) (hd.imp (fun h => ⟨by rw [h.1]; rfl, h.2⟩) id) hy)⟩
theorem read29 {cs : List Value} {x : DataW H × List MemPlace} (h : DataW.trod enc Tryd.prog W base spare held fuel 29 cs = some x) : ∃ o : LOp, cs = o.vs ∧ LOpAt W o ∧ bulkS o.keys + 1 ≤ Rows.uptoBulk x.1 := by
  obtain ⟨xs, n, hxs, hx, hlen, hn, hel⟩ := DataW.trod_struct Tryd.underlying29 h
  rw [show Tryd.prog.cellsOf 29 = 3 by kernel_rfl] at hlen
  have q3 : Tryd.prog.cellsOf 3 = 1 := by kernel_rfl
  have q27 : Tryd.prog.cellsOf 27 = 1 := by kernel_rfl
  match cs, hlen with
  | [c0, c1, c2], _ =>
    have h0 := hel 0 _ rfl
    have h1 := hel 1 _ rfl
    have h2 := hel 2 _ rfl
    match xs, hn with
    | [x0, x1, x2], _ =>
      have h2' : DataW.trod enc Tryd.prog W base spare held n 27 [c2] = some x2 := by
        have hq : DataW.trod enc Tryd.prog W base spare held n 27 (([c0, c1, c2].drop 2).take (Tryd.prog.cellsOf 27)) = some x2 := h2
        rw [q27] at hq
        exact hq
      obtain ⟨k0, e0, _, w0⟩ := DataW.trod_int Tryd.underlying3 (x := x0) h0
      obtain ⟨k1, e1, _, w1⟩ := DataW.trod_int Tryd.underlying3 (x := x1) h1
      obtain ⟨A, m, c, rfl⟩ := slice_form Tryd.underlying27 h2'
      obtain ⟨l, rfl, hl, hb⟩ := read27d (trod_cells rfl h2')
      refine ⟨⟨k0, k1, l, A, c⟩, ?_, ⟨hl, wf64_of w0, wf64_of w1⟩, ?_⟩
      · simp [q3] at e0 e1
        simp [LOp.vs, e0, e1]
      · subst hx
        simp only [List.map_cons, List.map_nil, Rows.uptoBulk, Rows.uptoBulkAll]
        show bulkS l + 1 ≤ _
        omega
theorem open22u {A : Option Addr} {n c : Nat} {d : DataW H} {ps : List MemPlace} (h : DataW.Trod enc Tryd.prog W base spare held 22 (.slice A n c) d ps) :
    ∃ l : List LOp, (n = l.length ∧ OpsAt W A c l) ∧ bulkO l ≤ Rows.uptoBulk d := by
  obtain ⟨L, ys, rs, hE, hy, hd, hL⟩ := elems_of Tryd.underlying22 (show Tryd.prog.cellsOf 29 = 3 by kernel_rfl) (by decide) h
  obtain ⟨M, rfl, hM, hs⟩ := map_ofB (vs := LOp.vs) (q := fun o => LOpAt W o) (b := fun o : LOp => bulkS o.keys + 1) L ys hy (fun i hi => by
    obtain ⟨f, p, hr⟩ := hL i hi
    exact read29 hr)
  have hn := hE.at_.1
  rw [List.length_map] at hn
  refine ⟨M, ⟨hn, by rw [← hn]; exact hE, hM⟩, Nat.le_trans hs (bulk_slice (n := (M.map LOp.vs).length) (hd.imp (fun h => ⟨by rw [h.1]; rfl, h.2⟩) id) hy)⟩
theorem open27u {A : Option Addr} {n c : Nat} {d : DataW H} {ps : List MemPlace} (h : DataW.Trod enc Tryd.prog W base spare held 27 (.slice A n c) d ps) :
    ∃ l : List ByteArray, (n = l.length ∧ Elems W (.slice A n c) 1 (l.map strC)) ∧ bulkS l ≤ Rows.uptoBulk d := by
  obtain ⟨l, h1, h2, h3⟩ := read27d h
  exact ⟨l, ⟨h1, h2⟩, h3⟩
end
theorem elems_keys {w : World} {A : Option Addr} {c : Nat} {keys : List ByteArray} (h : Elems w (.slice A keys.length c) 1 (keys.map strC)) : KsAt w A keys := by
  by_cases h0 : keys = []
  · exact .inl h0
  · obtain ⟨b, o, e, hc⟩ := h.at_.2.2 (by rw [List.length_map]; exact List.length_pos_iff.2 h0)
    refine .inr ⟨b, o, e, fun j k hk => ?_⟩
    obtain ⟨hj, rfl⟩ := List.getElem?_eq_some_iff.1 hk
    have h1 := hc j (by rw [List.length_map]; exact hj) 0 (by decide)
    have hx : (keys.map strC).getD j [] = [.string keys[j]] := by simp [List.getD, hj, strC]
    rw [hx, Nat.mul_one, Nat.add_zero] at h1
    exact h1
theorem ks_same {w w' : World} {A : Option Addr} {keys : List ByteArray} (h : KsAt w A keys) (hb : Below w.heap.size w w') : KsAt w' A keys := by
  rcases h with h | ⟨b, o, h1, h2⟩
  · exact .inl h
  · exact .inr ⟨b, o, h1, fun j k hk => old_cell hb (h2 j k hk)⟩
theorem KsAt.kf {w0 : World} {F : List HP} {A : Option Addr} {keys : List ByteArray} (h : KsAt w0 A keys) (hO : Old w0 ∈ F) : KeysF w0 F A keys := by
  rcases h with h | ⟨b, o, h1, h2⟩
  · exact .inl h
  · exact .inr ⟨b, o, h1, fun W L hS j k hk => old_cell (hS.old (List.mem_append_right _ hO)) (h2 j k hk)⟩
/-- a script's cells, in any world -/
def OpsF (w0 : World) (F : List HP) (A : Option Addr) (l : List LOp) : Prop :=
  l = [] ∨ ∃ b s, A = some ⟨b, s, none⟩ ∧ ∀ W L, Sat w0 W (L ++ F) → ∀ k o, l[k]? = some o → W.cell? ⟨b, s + k * 3, none⟩ = some (.int .i64 o.act) ∧ W.cell? ⟨b, s + k * 3 + 1, none⟩ = some (.int .i64 o.inst) ∧ W.cell? ⟨b, s + k * 3 + 2, none⟩ = some (.slice o.A o.keys.length o.c)
theorem OpsAt.opsF {w0 : World} {F : List HP} {A : Option Addr} {c : Nat} {l : List LOp} (h : OpsAt w0 A c l) (hO : Old w0 ∈ F) : OpsF w0 F A l := by
  by_cases h0 : l = []
  · exact .inl h0
  · obtain ⟨b, s, e, hc⟩ := h.elems.at_.2.2 (by rw [List.length_map]; exact List.length_pos_iff.2 h0)
    refine .inr ⟨b, s, e, fun W L hS k o hk => ?_⟩
    have hb := hS.old (List.mem_append_right _ hO)
    obtain ⟨hj, rfl⟩ := List.getElem?_eq_some_iff.1 hk
    have h1 := hc k (by rw [List.length_map]; exact hj)
    have hx : (l.map LOp.vs).getD k [] = (l[k]).vs := by simp [List.getD, hj]
    rw [hx] at h1
    exact ⟨old_cell hb (h1 0 (by decide)), old_cell hb (h1 1 (by decide)), old_cell hb (h1 2 (by decide))⟩
/-- what a call of a script does to a table -/
def plE (D : List Ent) (o : LOp) : List Ent := if o.act = 1 then dropE D (smN o.inst : Nat) else (takeE D (smN o.inst : Nat) o.keys).2.2
def playsE (l : List LOp) : List Ent := l.foldl plE begD
theorem pl_ok {D : List Ent} (h : TabOk D) (o : LOp) : TabOk (plE D o) := by
  unfold plE
  split
  · exact h.drop _
  · exact take_ok h
theorem pl_len (D : List Ent) (o : LOp) : (plE D o).length ≤ D.length + bulkS o.keys := by
  unfold plE
  have hb := bulkS_len o.keys
  split
  · have := drop_len D (smN o.inst : Nat); omega
  · have := take_len (D := D) (inst := (smN o.inst : Nat)) (keys := o.keys); omega
theorem fold_ok : ∀ (l : List LOp) (D : List Ent), TabOk D → TabOk (l.foldl plE D)
  | [], D, h => h
  | o :: l, D, h => fold_ok l _ (pl_ok h o)
theorem plays_ok (l : List LOp) : TabOk (playsE l) := fold_ok l _ begD_ok
theorem fold_len : ∀ (l : List LOp) (D : List Ent), (l.foldl plE D).length ≤ D.length + bulkO l
  | [], D => Nat.le_add_right _ _
  | o :: l, D => by
    have h1 := fold_len l (plE D o)
    have h2 := pl_len D o
    have e : bulkO (o :: l) = bulkS o.keys + 1 + bulkO l := by unfold bulkO; rfl
    rw [List.foldl_cons, e]
    omega
theorem plays_len (l : List LOp) : (playsE l).length ≤ 3 + bulkO l := fold_len l begD
theorem bulkO_take (l : List LOp) : ∀ j, bulkO (l.take j) ≤ bulkO l := by
  induction l with
  | nil => intro j; simp
  | cons o l ih =>
    intro j
    cases j with
    | zero => exact Nat.zero_le _
    | succ j =>
      have e : ∀ m : List LOp, bulkO (o :: m) = bulkS o.keys + 1 + bulkO m := fun m => by unfold bulkO; rfl
      rw [List.take_succ_cons, e, e]
      have := ih j
      omega
theorem plays_succ {l : List LOp} {j : Nat} {o : LOp} (h : l[j]? = some o) : playsE (l.take (j + 1)) = plE (playsE (l.take j)) o := by
  unfold playsE
  rw [take_snoc h, List.foldl_append]
  rfl
section
variable {w w0 : World} {F : List HP} {A : Option Addr} {c : Nat}
def PlRel (w0 : World) (F : List HP) (tb : Nat) (l : List LOp) (i : Value) (wr : World) : Prop := ∃ j : Nat, j ≤ l.length ∧ i = .int .i64 j ∧ Sat w0 wr (TabP tb (playsE (l.take j)) :: F)
set_option maxHeartbeats 3200000 in
theorem plays_any {l : List LOp} (hT0 : Lib.Utf8Tabs 0 1 w0) (hO : Old w0 ∈ F) (hE : OpsAt w0 A c l) (hb : bulkO l ≤ 1048576) (hS : Sat w0 w F) :
    Calls Tryd.prog 20 #[.slice A l.length c] w fun e w' => ∃ tb : Nat, e = .returned (.pointer (some ⟨tb, 0, none⟩)) ∧ Sat w0 w' (TabP tb (playsE l) :: F) := by
  have HB := Lib.hid (begun_any hT0 hO hS)
  have HF := Lib.hid (hE.opsF hO)
  have HE := Lib.hid hE.each
  have HO := Lib.hid hO
  have HBK := Lib.hid hb
  obtain ⟨n, hn⟩ : ∃ n, l.length = n := ⟨_, rfl⟩
  have HN := Lib.hid hn
  have hlen := bulkO_len l
  rw [hn] at hlen ⊢
  have hlen2 : n ≤ 1048576 := by omega
  clear hS hn hE hO hb hlen
  go_enter Tryd.func20, Tryd.ntmps20
  go_wp2_with fail
  refine HB.out.mono ?_
  rintro e w1 ⟨tb, rfl, h1⟩
  have H1 := Lib.hid h1
  clear h1 HB
  go_wp2_with fail
  go_loopw [4] (PlRel w0 F tb l) (fun i _ => n - (intOf i).toNat)
  case atStart => exact ⟨0, Nat.zero_le _, rfl, H1.out⟩
  case round =>
    obtain ⟨j, hj, rfl, hS⟩ := hrel
    rw [HN.out] at hj
    clear H1
    by_cases hlt : j < n
    · obtain ⟨o, ho⟩ : ∃ x, l[j]? = some x := ⟨_, List.getElem?_eq_getElem (by rw [HN.out]; exact hlt)⟩
      obtain ⟨b, s, rfl, hc⟩ := HF.out.resolve_left (by rintro rfl; simp at ho)
      have CELL : Hid (∀ W L, Sat w0 W (L ++ F) → W.cell? ⟨b, s + j * 3 + 1, none⟩ = some (.int .i64 o.inst) ∧ W.cell? ⟨b, s + j * 3 + 2, none⟩ = some (.slice o.A o.keys.length o.c)) := fun W L h => (hc W L h j o ho).2
      obtain ⟨x0, x1, x2⟩ := hc wr [_] hS j o ho
      have hmem := List.mem_of_getElem? ho
      have HA := Lib.hid (HE.out o hmem)
      have HKO := Lib.hid (bulkS_ok (Nat.le_trans (bulkO_mem hmem) HBK.out))
      have HSU := Lib.hid (plays_succ ho)
      have HOK := Lib.hid (plays_ok (l.take j))
      have hDl : (playsE (l.take j)).length ≤ 4194304 := by
        have h1 := plays_len (l.take j)
        have h2 := bulkO_take l j
        have h3 := HBK.out
        omega
      have HDL := Lib.hid hDl
      obtain ⟨D, hD⟩ : ∃ D, playsE (l.take j) = D := ⟨_, rfl⟩
      rw [hD] at hS HSU HOK HDL
      obtain ⟨act, inst, keys, kA, kc⟩ := o
      simp only at x0 x1 x2 HA HKO HSU CELL
      have HI := Lib.hid HA.out.inst
      obtain ⟨sm, hsm⟩ : ∃ v, smN inst = v := ⟨_, rfl⟩
      have HS := Lib.hid hS
      have HC21 : Hid (∀ W, Calls Tryd.prog 21 #[.int .i64 inst] W fun e w' => e = .returned (.int .i64 sm) ∧ w' = W) := fun W => by
        have := small_any inst W HI.out
        rw [hsm] at this
        exact this
      have HST : Hid (plE D ⟨act, inst, keys, kA, kc⟩ = if act = 1 then dropE D (sm : Nat) else (takeE D (sm : Nat) keys).2.2) := by show _ = _; unfold plE; rw [hsm]
      clear hS hc ho hmem hDl hD hsm HE
      by_cases ha : act = 1
      · have HX : Hid (playsE (l.take (j + 1)) = dropE D sm) := by show _ = _; rw [HSU.out, HST.out, if_pos ha]
        have t1 : (act == 1) = true := by simp [ha]
        have HC14 := Lib.hid (drop_any HOK.out HDL.out (sm : Int) HS.out)
        clear ha HSU HST
        go_wp2_with fail
        refine (HC21.out _).mono ?_
        rintro e w2 ⟨rfl, rfl⟩
        go_wp2_with fail
        refine HC14.out.mono ?_
        rintro e w3 ⟨rfl, h3⟩
        have H3 := Lib.hid h3
        clear h3 x0 x1 x2
        go_wp2_with fail
        go_roundw
        case rel => exact ⟨j + 1, by rw [HN.out]; omega, by go_num, by rw [HX.out]; exact H3.out⟩
        case measure => simp [intOf]; omega
      · have HX : Hid (playsE (l.take (j + 1)) = (takeE D (sm : Nat) keys).2.2) := by show _ = _; rw [HSU.out, HST.out, if_neg ha]
        have t1 : (act == 1) = false := by simp [ha]
        have HKS := Lib.hid ((elems_keys HA.out.keys).kf HO.out)
        have HC9 : Hid (∀ W, Sat w0 W (TabP tb D :: F) → Calls Tryd.prog 9 #[.slice kA keys.length kc] W fun e w' => ∃ A' c', e = .returned (.slice A' keys.length c') ∧ Sat w0 w' (Row 9 1 A' keys.length c' (strV keys) :: TabP tb D :: F)) := fun W h => copied_any (HKS.out.ks (L := [_]) h) HKO.out.len h
        have HC10 : Hid (∀ A' c' W, Sat w0 W (Row 9 1 A' keys.length c' (strV keys) :: TabP tb D :: F) → Calls Tryd.prog 10 #[.pointer (some ⟨tb, 0, none⟩), .int .i64 sm, .slice A' keys.length c'] W fun e w' =>
            ∃ r y, e = .returned (.tuple #[.string r, .bool y]) ∧ Sat w0 w' (TabP tb (takeE D (sm : Nat) keys).2.2 :: F)) := fun A' c' W h => by
          have h2 : Sat w0 W (Row 9 1 A' keys.length c' (strV keys) :: F) := h.r2.tail
          refine (take_any (c := c') HOK.out (sm : Int) HKO.out h2.rowKF h.r2).mono ?_
          rintro e w' ⟨rfl, h3⟩
          exact ⟨_, _, rfl, h3.r2.tail⟩
        obtain ⟨kn, hkn⟩ : ∃ v, keys.length = v := ⟨_, rfl⟩
        rw [hkn] at HC9 HC10 x2 CELL
        clear ha HSU HST hkn HKO HA
        go_wp2_with fail
        have hS := HS.out
        go_region_held3 (fun w' => w'.cell? ⟨b, s + j * 3 + 1, none⟩ = some (.int .i64 inst) ∧ w'.cell? ⟨b, s + j * 3 + 2, none⟩ = some (.slice kA kn kc))
          (first | exact ⟨x1, x2⟩ | exact ⟨y1, y2⟩ | exact ⟨v1, v2⟩)
          (first
            | (go_at_call 21; refine (HC21.out _).mono ?_; rintro e w7 ⟨rfl, rfl⟩)
            | (go_at_call 9; refine (HC9.out _ hS.drew).mono ?_; rintro e w5 ⟨A5, c5, rfl, h5⟩; obtain ⟨y1, y2⟩ := CELL.out w5 [_, _] h5)
            | (go_at_call 10; refine (HC10.out _ _ _ h5).mono ?_; rintro e w6 ⟨r6, q6, rfl, h6⟩; obtain ⟨v1, v2⟩ := CELL.out w6 [_] h6))
        all_goals
          have H6 := Lib.hid h6
          clear h5 h6 x0 x1 x2 y1 y2 v1 v2 hS
          go_wp2_with fail
          go_roundw
          case rel => exact ⟨j + 1, by rw [HN.out]; omega, by go_num, by rw [HX.out]; exact H6.out⟩
          case measure => simp [intOf]; omega
    · obtain rfl : j = n := by omega
      have e : l.take j = l := List.take_of_length_le (by rw [HN.out]; exact Nat.le_refl _)
      rw [e] at hS
      have HS := Lib.hid hS
      clear hS hlt e
      go_wp2_with fail
      go_ret
      exact ⟨tb, rfl, HS.out⟩
end
end Go.Proofs.YtbgbpibfmdkndaaDoor
