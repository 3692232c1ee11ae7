/- The document's ring. -/
import Derived.Test.YtpmoanjeoaeabaaDoorCM
import Derived.Test.YtpmoanjeoaeabaaDoorCP
set_option linter.unusedVariables false
set_option linter.unusedSimpArgs false
set_option linter.unnecessarySimpa false
set_option maxRecDepth 100000
namespace Go.Proofs.YtpmoanjeoaeabaaDoor
open Go.RowKit Go.ChangeShapes Go.WideShapes Go.ChangeAt
theorem info4 : (Tryd.prog.info? 4).map (fun i => (i.zero, i.size, i.bytes)) = some (some (.bool false), 1, 1) := by kernel_rfl
theorem make4 (n : Nat) (hn : n ≤ 1000000) (W : World) : (Instr.makeSlice 37 (.int .i64 (n : Int)) (.int .i64 (n : Int))).run Tryd.prog W = .ok (.slice (some ⟨W.heap.size, 0, none⟩) n n) (W.alloc (.cells (madeCells #[.bool false] n) 4)) := by
  obtain ⟨i0, hi, hz0, hz1, hz2⟩ := info_parts info4
  have := run_make (P := Tryd.prog) W 37 4 i0 (.bool false) Tryd.underlying37 hi hz0 .i64 .i64 n n (by omega) (by omega) (by rw [hz2]; omega) (by omega)
  rw [hz1, show (n : Int).toNat * 1 = n by omega] at this
  exact this
def bv (M : List Bool) : List Value := M.map Value.bool
theorem made_bv (n : Nat) : (madeCells #[.bool false] n).toList = bv (List.replicate n false) := by
  apply List.ext_getElem?
  intro i
  simp [madeCells, bv, Nat.mod_one, List.getElem?_replicate, List.getElem?_map, List.getElem?_range]
  split <;> simp_all
theorem bv_get (M : List Bool) (x : Nat) (h : x < M.length) : (bv M)[x]? = some (.bool (metB M x)) := by
  unfold bv metB
  rw [List.getElem?_map, List.getElem?_eq_getElem h, List.getD_eq_getElem?_getD, List.getElem?_eq_getElem h]
  rfl
theorem bv_set (M : List Bool) (x : Nat) : (bv M).set x (.bool true) = bv (M.set x true) := by unfold bv; rw [List.map_set]
/-- what a step needs, as places -/
def needN (d : Df) (k : Nat) : List Nat := (needsAt d k).map Int.toNat
def ringM (d : Df) (i : Nat) : List Bool := rounds (needN d) d.steps.length (markAll (List.replicate d.steps.length false) (needN d i)) d.steps.length
/-- does a step need itself through others? -/
def ringB (d : Df) (i : Nat) : Bool := metB (ringM d i) i
theorem mark_take (S : List Bool) (l : List Nat) (j : Nat) (h : j < l.length) : markAll S (l.take (j + 1)) = (markAll S (l.take j)).set (l.getD j 0) true := by
  rw [List.take_succ_eq_append_getElem h, ← List.getElem_eq_getD (h := h)]
  unfold markAll
  rw [List.foldl_append]
  rfl
/-- needs are steps -/
def NeedIn (d : Df) : Prop := ∀ k, k < d.steps.length → ∀ m ∈ needsAt d k, 0 ≤ m ∧ m < d.steps.length
theorem need_nat {d : Df} (h : NeedIn d) {k : Nat} (hk : k < d.steps.length) {j : Nat} (hj : j < (needsAt d k).length) : (needsAt d k).getD j 0 = (((needN d k).getD j 0 : Nat) : Int) ∧ (needN d k).getD j 0 < d.steps.length := by
  have hm := h k hk _ (List.getElem_mem hj)
  have e : (needN d k).getD j 0 = ((needsAt d k)[j]).toNat := by
    unfold needN
    rw [List.getD_eq_getElem?_getD, List.getElem?_map, List.getElem?_eq_getElem hj]
    rfl
  rw [e, ← List.getElem_eq_getD (h := hj)]
  omega
theorem needN_len (d : Df) (k : Nat) : (needN d k).length = (needsAt d k).length := by simp [needN]
theorem needN_in {d : Df} (h : NeedIn d) (k : Nat) : ∀ y ∈ needN d k, y < d.steps.length := by
  intro y hy
  unfold needN at hy
  rw [List.mem_map] at hy
  obtain ⟨m, hm, rfl⟩ := hy
  by_cases hk : k < d.steps.length
  · have := h k hk m hm
    omega
  · unfold needsAt at hm
    rw [List.getD_eq_getElem?_getD, List.getElem?_eq_none (by omega)] at hm
    cases hm
def nAat (d : Df) (k : Nat) : Option Addr := (d.steps.getD k ⟨.empty, 0, 0, [], [], none, 0, none, 0⟩).nA
def ncat (d : Df) (k : Nat) : Nat := (d.steps.getD k ⟨.empty, 0, 0, [], [], none, 0, none, 0⟩).nc
theorem nA_at (d : Df) (k : Nat) (h : k < d.steps.length) : d.steps[k].nA = nAat d k ∧ d.steps[k].nc = ncat d k := by
  unfold nAat ncat
  rw [← List.getElem_eq_getD (h := h)]
  exact ⟨rfl, rfl⟩
theorem need_cell {w : World} (d : Df) (hD : DefAt w d) (k : Nat) (hk : k < d.steps.length) (j : Nat) (hj : j < (needsAt d k).length) : ∃ b o, nAat d k = some ⟨b, o, none⟩ ∧ w.cell? ⟨b, o + j, none⟩ = some (.int .i64 ((needsAt d k).getD j 0)) := by
  have hE := (hD.each _ (List.getElem_mem hk)).needs
  have hn := needs_at d k hk
  obtain ⟨b, o, e, hc⟩ := need_cells hE (by rw [hn]; omega)
  refine ⟨b, o, (nA_at d k hk).1 ▸ e, ?_⟩
  have h1 := hc j (by rw [hn]; exact hj)
  rw [h1]
  have : d.steps[k].needs[j]'(by rw [hn]; exact hj) = (needsAt d k).getD j 0 := by
    rw [List.getElem_eq_getD 0, hn]
  rw [this]
def RgS (W : World) (b mb : Nat) (V : List Value) (M : List Bool) (wr : World) : Prop := Sat W wr [Blk mb 4 (bv M), Blk b 24 V, Old W]
def Rg1 (W : World) (b mb : Nat) (V : List Value) (S : List Bool) (l : List Nat) (x : Value) (wr : World) : Prop := ∃ k : Nat, k ≤ l.length ∧ x = .int .i64 k ∧ RgS W b mb V (markAll S (l.take k)) wr
def Rg2 (W : World) (b mb : Nat) (V : List Value) (N : Nat → List Nat) (n : Nat) (S : List Bool) (x : Value) (wr : World) : Prop := ∃ r : Nat, r ≤ n ∧ x = .int .i64 r ∧ RgS W b mb V (rounds N n S r) wr
def Rg3 (W : World) (b mb : Nat) (V : List Value) (N : Nat → List Nat) (n : Nat) (S : List Bool) (x : Value) (wr : World) : Prop := ∃ r : Nat, r ≤ n ∧ x = .int .i64 r ∧ RgS W b mb V (sweepTo N S r) wr
def Rg4 (W : World) (b mb : Nat) (V : List Value) (S : List Bool) (k : Nat) (l : List Nat) (x : Value) (wr : World) : Prop :=
  ∃ j : Nat, j ≤ l.length ∧ x = .int .i64 j ∧ (metB S k = false → j = 0) ∧ RgS W b mb V (markAll S (l.take j)) wr
theorem sweep_out {N : Nat → List Nat} {S : List Bool} {k : Nat} (h : metB S k = false) : sweep1 N S k = S := by unfold sweep1; rw [if_neg (by rw [h]; decide)]
theorem sweep_in {N : Nat → List Nat} {S : List Bool} {k : Nat} (h : metB S k = true) : sweep1 N S k = markAll S (N k) := by unfold sweep1; rw [if_pos h]
set_option maxHeartbeats 6400000 in
theorem rring_any {w : World} (d : Df) (i : Nat) (hD : DefAt w d) (hi : i < d.steps.length) (hn : d.steps.length ≤ 1000000) (hin : NeedIn d) (hl : ∀ k, (needsAt d k).length ≤ 1000000000000000000) :
    Calls Tryd.prog 79 #[d.v, .int .i64 i] w (Quietly w (.bool (ringB d i))) := by
  obtain ⟨g, o, hA, hc⟩ := step_cells hD (by omega)
  have HD := Lib.hid hD
  have HC : Hid (∀ w', Below w.heap.size w w' → ∀ k, k < d.steps.length → w'.cell? ⟨g, o + k * 5 + 4, none⟩ = some (.slice (nAat d k) (needN d k).length (ncat d k))) := fun w' hb k hk => by
    rw [old_cell hb (hc k hk).2.2.2.2, (nA_at d k hk).1, (nA_at d k hk).2, needs_at d k hk, needN_len]
  have HNC : Hid (∀ w', Below w.heap.size w w' → ∀ k, k < d.steps.length → ∀ j, j < (needN d k).length → ∃ b o, nAat d k = some ⟨b, o, none⟩ ∧ w'.cell? ⟨b, o + j, none⟩ = some (.int .i64 ((needN d k).getD j 0 : Nat)) ∧ (needN d k).getD j 0 < d.steps.length) := fun w' hb k hk j hj => by
    have hj' : j < (needsAt d k).length := by rw [← needN_len]; exact hj
    obtain ⟨b, o, e, h⟩ := need_cell d (hD.keep hb) k hk j hj'
    obtain ⟨h1, h2⟩ := need_nat hin hk hj'
    rw [h1] at h
    exact ⟨b, o, e, h, h2⟩
  have HIN := Lib.hid (needN_in hin)
  have HLL : Hid (∀ k, (needN d k).length ≤ 1000000000000000000) := fun k => by rw [needN_len]; exact hl k
  have hR : ringB d i = metB (rounds (needN d) d.steps.length (markAll (List.replicate d.steps.length false) (needN d i)) d.steps.length) i := rfl
  rw [hR]
  have h1 := (Sat.start w).new #[.string d.name, .slice (some ⟨g, o, none⟩) d.steps.length d.c] 24
  have h2 := h1.new (madeCells #[.bool false] d.steps.length) 4
  rw [made_bv] at h2
  have hsz : (w.alloc (.cells #[.string d.name, .slice (some ⟨g, o, none⟩) d.steps.length d.c] 24)).heap.size = w.heap.size + 1 := by simp
  rw [hsz] at h2
  obtain ⟨b, hb⟩ : ∃ b, w.heap.size = b := ⟨_, rfl⟩
  obtain ⟨n, hN⟩ : ∃ n, d.steps.length = n := ⟨_, rfl⟩
  obtain ⟨N, hNN⟩ : ∃ N, needN d = N := ⟨_, rfl⟩
  unfold Df.v Quietly
  rw [hA]
  simp only [hN, hNN] at h2 HC HNC HIN HLL hi hn ⊢
  simp only [hb] at h2
  have H2 := Lib.hid h2
  have c1 := h1.blk.cell 1
  simp only [hN, hb] at c1
  have hmk := make4 n hn
  obtain ⟨S, hS⟩ : ∃ S, S = markAll (List.replicate n false) (N i) := ⟨_, rfl⟩
  have hSl : S.length = n := by rw [hS, mark_len, List.length_replicate]
  rw [← hS]
  obtain ⟨v, hv⟩ : ∃ v, v = metB (rounds N n S n) i := ⟨_, rfl⟩
  rw [← hv]
  have HS := Lib.hid hS
  have HV := Lib.hid hv
  have HSL := Lib.hid hSl
  clear hS hv hSl
  clear hR h1 h2 hsz hc hD hA hin hl HD
  go_enter Tryd.func79, Tryd.ntmps79
  go_wp2_with fail
  try simp only [hb]
  clear c1
  go_loopw [6] (Rg1 w b (b + 1) [.string d.name, .slice (some ⟨g, o, none⟩) n d.c] (List.replicate n false) (N i)) (fun x _ => (N i).length - (intOf x).toNat)
  case atStart => exact ⟨0, Nat.zero_le _, rfl, H2.out⟩
  case round =>
    obtain ⟨k, hk, rfl, hT⟩ := hrel
    clear H2
    unfold RgS at hT
    have h9 := hT.old (List.mem_cons_of_mem _ (List.mem_cons_of_mem _ List.mem_cons_self))
    have a1 : wr.cell? ⟨b, 1, none⟩ = some (.slice (some ⟨g, o, none⟩) n d.c) := hT.r2.blk.cell 1
    have a4 := HC.out _ h9 i hi
    have hli := HLL.out i
    by_cases hlt : k < (N i).length
    · obtain ⟨b2, o2, hnA, n0, hx⟩ := HNC.out _ h9 i hi k hlt
      rw [hnA] at a4
      have hMT := mark_take (List.replicate n false) (N i) k hlt
      obtain ⟨x, hX⟩ : ∃ x, (N i).getD k 0 = x := ⟨_, rfl⟩
      rw [hX] at hx n0 hMT
      have mf := hT.blk.free x
      have mc := hT.blk.cell x
      rw [bv_get _ _ (by rw [mark_len, List.length_replicate]; exact hx)] at mc
      have hT2 := hT.set x (.bool true)
      rw [bv_set, ← hMT] at hT2
      have HT2 := Lib.hid hT2
      have i0 : (0 : Int) ≤ (x : Int) := by omega
      have i1 : (x : Int) < (n : Int) := by omega
      clear hT hT2 h9 hMT hX
      go_wp2_with fail
      go_roundw
      case rel => exact ⟨k + 1, by omega, by go_num, HT2.out⟩
      case measure => simp [intOf]; omega
    · have hk2 : k = (N i).length := by omega
      have hT2 : RgS w b (b + 1) [.string d.name, .slice (some ⟨g, o, none⟩) n d.c] S wr := by rw [hk2, List.take_length, ← HS.out] at hT; exact hT
      have HT2 := Lib.hid hT2
      clear hT hT2 h9 HS
      go_wp2_with fail
      go_loopw [7] (Rg2 w b (b + 1) [.string d.name, .slice (some ⟨g, o, none⟩) n d.c] N n S) (fun x _ => n - (intOf x).toNat)
      case atStart => exact ⟨0, Nat.zero_le _, rfl, HT2.out⟩
      case round =>
        obtain ⟨r, hr, rfl, hT⟩ := hrel
        clear HT2 a1 a4 hli hlt hk hk2
        unfold RgS at hT
        have a1 : wr.cell? ⟨b, 1, none⟩ = some (.slice (some ⟨g, o, none⟩) n d.c) := hT.r2.blk.cell 1
        by_cases hlt : r < n
        · have HRR : Hid (rounds N n S (r + 1) = sweepTo N (rounds N n S r) n) := rfl
          have HRL : Hid ((rounds N n S r).length = n) := by show _ = _; rw [rounds_len]; exact HSL.out
          have HT := Lib.hid hT
          obtain ⟨S2, hS2⟩ : ∃ S2, rounds N n S r = S2 := ⟨_, rfl⟩
          rw [hS2] at HRR HRL HT
          clear hS2 hT
          go_wp2_with fail
          go_loopw [8] (Rg3 w b (b + 1) [.string d.name, .slice (some ⟨g, o, none⟩) n d.c] N n S2) (fun x _ => n - (intOf x).toNat)
          case atStart => exact ⟨0, Nat.zero_le _, rfl, HT.out⟩
          case round =>
            obtain ⟨k, hk, rfl, hT⟩ := hrel
            clear HT a1
            unfold RgS at hT
            have a1 : wr.cell? ⟨b, 1, none⟩ = some (.slice (some ⟨g, o, none⟩) n d.c) := hT.r2.blk.cell 1
            by_cases hlk : k < n
            · have HRS : Hid (sweepTo N S2 (k + 1) = sweep1 N (sweepTo N S2 k) k) := rfl
              have HSK : Hid ((sweepTo N S2 k).length = n) := by show _ = _; rw [sweepTo_len]; exact HRL.out
              have HT := Lib.hid hT
              obtain ⟨S3, hS3⟩ : ∃ S3, sweepTo N S2 k = S3 := ⟨_, rfl⟩
              rw [hS3] at HRS HSK HT
              clear hS3 hT
              go_wp2_with fail
              go_loopw [9] (Rg4 w b (b + 1) [.string d.name, .slice (some ⟨g, o, none⟩) n d.c] S3 k (N k)) (fun x _ => (N k).length - (intOf x).toNat)
              case atStart => exact ⟨0, Nat.zero_le _, rfl, fun _ => rfl, HT.out⟩
              case round =>
                obtain ⟨j, hj, rfl, hj0, hT⟩ := hrel
                clear HT a1
                unfold RgS at hT
                have a1 : wr.cell? ⟨b, 1, none⟩ = some (.slice (some ⟨g, o, none⟩) n d.c) := hT.r2.blk.cell 1
                have h9 := hT.old (List.mem_cons_of_mem _ (List.mem_cons_of_mem _ List.mem_cons_self))
                have a4 := HC.out _ h9 k hlk
                have hlk2 := HLL.out k
                have mk := hT.blk.cell k
                rw [bv_get _ _ (by rw [mark_len, HSK.out]; exact hlk)] at mk
                have hmono : metB S3 k = true → metB (markAll S3 ((N k).take j)) k = true := fun h => (mark_iff _ _ _ (fun y hy => by rw [HSK.out]; exact HIN.out k y (List.mem_of_mem_take hy))).2 (.inl h)
                have hout : metB S3 k = false → markAll S3 ((N k).take j) = S3 := fun h => by rw [hj0 h]; rfl
                have HIC : Hid ((k : Int) < (n : Int) ∧ (0 : Int) ≤ (k : Int)) := ⟨by omega, by omega⟩
                obtain ⟨i0, i1⟩ := HIC.out
                by_cases hlj : j < (N k).length
                · cases hm : metB S3 k with
                  | true =>
                    rw [hmono hm] at mk
                    obtain ⟨b2, o2, hnA, n0, hx⟩ := HNC.out _ h9 k hlk j hlj
                    rw [hnA] at a4
                    have hMT := mark_take S3 (N k) j hlj
                    obtain ⟨x, hX⟩ : ∃ x, (N k).getD j 0 = x := ⟨_, rfl⟩
                    rw [hX] at hx n0 hMT
                    have mf := hT.blk.free x
                    have mc := hT.blk.cell x
                    rw [bv_get _ _ (by rw [mark_len, HSK.out]; exact hx)] at mc
                    have hT2 := hT.set x (.bool true)
                    rw [bv_set, ← hMT] at hT2
                    have HT2 := Lib.hid hT2
                    have i2 : (0 : Int) ≤ (x : Int) := by omega
                    have i3 : (x : Int) < (n : Int) := by omega
                    have HM := Lib.hid hm
                    clear hT hT2 h9 hMT hX hj0 hmono hout hm
                    go_wp2_with fail
                    go_roundw
                    case rel => exact ⟨j + 1, by omega, by go_num, fun h => absurd (HM.out.symm.trans h) (by decide), HT2.out⟩
                    case measure => simp [intOf]; omega
                  | false =>
                    have hT2 := hT
                    rw [hout hm, ← sweep_out (N := N) hm, ← HRS.out] at hT2
                    rw [hout hm, hm] at mk
                    have HT2 := Lib.hid hT2
                    clear hT hT2 h9 hj0 hmono hout hm
                    go_wp2_with fail
                    go_roundw
                    case rel => exact ⟨k + 1, by omega, by go_num, HT2.out⟩
                    case measure => simp [intOf]; omega
                · have hjl : j = (N k).length := by omega
                  have hT2 : Sat w wr (Blk (b + 1) 4 (bv (sweepTo N S2 (k + 1))) :: [Blk b 24 [.string d.name, .slice (some ⟨g, o, none⟩) n d.c], Old w]) := by
                    rw [HRS.out]
                    cases hm : metB S3 k with
                    | true => rw [sweep_in hm]; rw [hjl, List.take_length] at hT; exact hT
                    | false => rw [sweep_out hm]; rw [hout hm] at hT; exact hT
                  have HT2 := Lib.hid hT2
                  clear hT hT2 h9 hj0 hmono hout mk
                  go_wp2_with fail
                  go_roundw
                  case rel => exact ⟨k + 1, by omega, by go_num, HT2.out⟩
                  case measure => simp [intOf]; omega
            · have hkn : k = n := by omega
              have hT2 := hT
              rw [hkn, ← HRR.out] at hT2
              have HT2 := Lib.hid hT2
              clear hT hT2 hk
              go_wp2_with fail
              go_roundw
              case rel => exact ⟨r + 1, by omega, by go_num, HT2.out⟩
              case measure => simp [intOf]; omega
        · have hrn : r = n := by omega
          have hT2 := hT
          rw [hrn] at hT2
          have m0 := hT2.blk.cell i
          rw [bv_get _ _ (by rw [rounds_len, HSL.out]; exact hi), ← HV.out] at m0
          have i0 : (0 : Int) ≤ (i : Int) := by omega
          have i1 : (i : Int) < (n : Int) := by omega
          have h9 := hT2.old (List.mem_cons_of_mem _ (List.mem_cons_of_mem _ List.mem_cons_self))
          have H9 := Lib.hid h9
          clear hT hT2 hr hrn h9
          go_wp2_with fail
          go_ret
          exact ⟨rfl, by have h9 := H9.out; first | exact h9 | (rw [hb] at h9; exact h9)⟩
end Go.Proofs.YtpmoanjeoaeabaaDoor
