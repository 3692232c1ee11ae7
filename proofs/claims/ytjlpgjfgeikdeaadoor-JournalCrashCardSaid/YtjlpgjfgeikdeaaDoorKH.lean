/- The law JournalShort: the plain law and the walk. -/
import Derived.Test.YtjlpgjfgeikdeaaDoorKG
import Derived.Test.YtjlpgjfgeikdeaaDoorKF
set_option linter.unusedVariables false
set_option linter.unusedSimpArgs false
set_option linter.unnecessarySimpa false
set_option maxRecDepth 100000
namespace Go.Proofs.YtjlpgjfgeikdeaaDoor
open Go.RowKit Go.ChangeShapes Go.WideShapes Go.ChangeAt
open Fr (strOfNats strOfNats_size strOfNats_bytes bytesOf Table restOf wrapS)
section
variable {M : MD} {J : JS} {snap : ByteArray} {recs : List ByteArray} {t : Nat}
theorem comp_code (hf : J.file < 2) (s : ByteArray) : (compR M J s).2.2 = 0 ∨ (compR M J s).2.2 = 2 ∨ (compR M J s).2.2 = 41 := by
  have hl : (laysR M (1 - J.file) (J.gen + 1) s).2 = 0 ∨ (laysR M (1 - J.file) (J.gen + 1) s).2 = 2 ∨ (laysR M (1 - J.file) (J.gen + 1) s).2 = 41 := by
    unfold laysR
    split
    · split
      · left; rw [sync_eq (by omega)]
      · have : (appR M ((1 - J.file : Nat) : Int) (headS (J.gen + 1) s)).2 = 0 ∨ (appR M ((1 - J.file : Nat) : Int) (headS (J.gen + 1) s)).2 = 41 := by
          unfold appR
          rw [if_pos (isB_file (by omega))]
          split
          · left; rfl
          · right; rfl
        rcases this with h | h
        · left; exact h
        · right; right; exact h
    · right; left; rfl
  unfold compR
  split
  · left; rfl
  · exact hl
theorem open_used (h : Good M J snap recs) : (openM M).used = M.used := by
  obtain ⟨h1, h2⟩ := good_taken h
  have hf := h.file
  have e : ∀ i, i < 4 → ((openM M).f i).b.size = (M.f i).b.size := by
    intro i hi
    rw [openM_f, h1, h2]
    by_cases a : i = J.file
    · rw [if_pos a, a]
      simp only [ByteArray.size_extract, h.here]
      omega
    · rw [if_neg a]
      by_cases b : i = 1 - J.file
      · rw [if_pos b, b, h.other]
      · rw [if_neg b]
  unfold MD.used
  rw [e 0 (by decide), e 1 (by decide), e 2 (by decide), e 3 (by decide)]
theorem head_gt (g : Nat) (s : ByteArray) : s.size < (headS g s).size := by
  rw [head_sz]
  unfold headRS
  rw [ByteArray.size_append, ByteArray.size_append]
  omega
end
section
variable {w0 w : World} {F : List HP} {d : Nat} {v : Nat → Value} {M : MD} {J : JS} {snap : ByteArray} {recs : List ByteArray}
/-- Open of a disk with a good journal on it -/
theorem open_good (hS : Sat w0 w (DiskV d v M :: F)) (hG : Good M J snap recs) (hO : Old w0 ∈ F) (hT : Table w0) : Calls Tryd.prog 14 #[.pointer (some ⟨d, 0, none⟩)] w fun e w' =>
    ∃ j A c v', e = .returned (.tuple #[.pointer (some ⟨j, 0, none⟩), .string snap, .slice A recs.length c, .int .i64 0]) ∧
      Sat w0 w' (Row 9 1 A recs.length c (strs recs) :: DiskV d v' (openM M) :: F) := by
  refine (open_any hS hG.ok hO hT).mono ?_
  obtain ⟨h1, h2⟩ := good_taken hG
  have hg := hG.gen1
  unfold OpOut
  rw [h2]
  rintro e w' (⟨hz, _⟩ | ⟨_, j, A, c, v', rfl, h⟩)
  · exact absurd hz (by show ¬ J.gen = 0; omega)
  · exact ⟨j, A, c, v', rfl, h.r2.tail⟩
end
set_option maxHeartbeats 3200000 in
theorem journalShort_walk (room : Int) (A : Option Addr) (n c : Nat) (l : List JOp) (sn : ByteArray) (w : World) (hT : Table w) (w0 : (Lit.int .i64 room).wf = true) (w1 : JOpsAt w A n c l) (_ : n * 32 ≤ 140737488351232)
    (w2 : sn.size ≤ 140737488351232) :
    Calls Tryd.prog 5 #[.int .i64 room, .slice A n c, .string sn] w fun e w' => e = .returned (.bool true) ∧ Below w.heap.size w w' := by
  have H1 := Lib.hid (plays_any room A n c l (Sat.start w) (by simp) hT (i64_of w0) w1)
  have HSN : Hid (sn.size ≤ 9223372036854775807) := by show _ ≤ _; omega
  clear w0 w1 w2
  go_enter Tryd.func5, Tryd.ntmps5
  go_wp2_with fail
  refine H1.out.mono ?_
  rintro e w2 ⟨d, j, v, M, J, snap, recs, t, B, cB, rfl, hTD, h2⟩
  have h3 := h2.new #[.string snap, .slice B recs.length cB, .int .i64 t] 49
  obtain ⟨g, hg⟩ : ∃ g, w2.heap.size = g := ⟨_, rfl⟩
  rw [hg] at h3
  have HTD := Lib.hid hTD
  have HLN := Lib.hid hTD.len
  have hfl := hTD.good.file
  have HN := Lib.hid hTD.good.n
  have HS1 := Lib.hid (stat_any h3.r3.r3 (by omega))
  unfold statE at HS1
  obtain ⟨z, hz⟩ : ∃ z, (M.f J.file).b.size = z := ⟨_, rfl⟩
  rw [hz, hTD.good.n] at HS1
  have HZ := Lib.hid hz
  have hgn := hTD.good.gen2
  obtain ⟨gn, hgg⟩ : ∃ x, J.gen = x := ⟨_, rfl⟩
  rw [hgg] at HS1 hgn
  have HGG := Lib.hid hgg
  clear H1 h2 hTD hz hgg h3
  go_wp2_with fail
  try simp only [hg]
  refine HS1.out.mono ?_
  rintro e w3 ⟨rfl, h4⟩
  clear hg HS1
  have HC := Lib.hid (comp_any h4 HTD.out.good.ok sn HSN.out HTD.out.good.file HTD.out.good.gen2 (by simp) hT)
  have HCC := Lib.hid (comp_code (M := M) HTD.out.good.file sn)
  have HTC := Lib.hid (HTD.out.comp sn)
  obtain ⟨⟨M1, J1, k1⟩, hR⟩ : ∃ x, compR M J sn = x := ⟨_, rfl⟩
  rw [hR] at HC HCC HTC
  unfold POut at HC
  simp only at HC HCC HTC
  clear hR h4
  go_wp2_with fail
  refine HC.out.mono ?_
  rintro e w4 ⟨rfl, v4, h5⟩
  clear HC
  by_cases hk0 : k1 = 0
  · subst hk0
    have hT1 : Told M1 J1 sn [] 0 ∧ J1 = ⟨1 - J.file, J.gen + 1, 0⟩ := (HTC.out.resolve_right fun h => h.1 rfl).2
    obtain ⟨hT1, rfl⟩ := hT1
    have HT1 := Lib.hid hT1
    have hb := hT1.good.here
    have HU1 := Lib.hid hT1.only
    have HU2 := Lib.hid (open_used hT1.good)
    simp only at hb HU1
    have hzz : ((M1.f (1 - J.file)).b).size = (headS (gn + 1) sn).size := by rw [hb, file_size, HGG.out]; rfl
    have hgt := head_gt (gn + 1) sn
    have HS2 := Lib.hid (stat_any h5 (by show 1 - J.file < 4; omega))
    unfold statE at HS2
    simp only at HS2
    rw [hzz, HGG.out] at HS2
    obtain ⟨zz, hz⟩ : ∃ z, (headS (gn + 1) sn).size = z := ⟨_, rfl⟩
    rw [hz] at HS2 hgt hzz
    rw [hzz] at HU1
    rw [HU1.out] at HU2
    clear hT1 hb h5 hz hzz HU1 HTC HCC
    go_wp2_with fail
    refine HS2.out.mono ?_
    rintro e w5 ⟨rfl, h6⟩
    clear HS2
    go_wp2_with fail
    refine (open_good h6.r2 HT1.out.good (by simp) hT).mono ?_
    rintro e w6 ⟨j2, A2, c2, v6, rfl, h7⟩
    have HOK : Hid ((openM M1).Ok) := openM_ok HT1.out.good.ok
    have HUS := Lib.hid (used_sat h7.r2 HOK.out)
    rw [HU2.out] at HUS
    have sw1 : IntKind.i64.wrap ((gn : Int) + 1) = (gn : Int) + 1 := IntWalk.i64_in _ (by omega)
    have i1 : (((gn : Int) + 1) == ((gn : Int) + 1)) = true := by simp
    have i2 : ((zz : Int) == zz) = true := by simp
    have i3 := str_yes sn
    have i4 : decide ((sn.size : Int) < (zz : Int)) = true := decide_eq_true (by omega)
    clear h6 HOK HU2
    go_wp2_with fail
    refine HUS.out.mono ?_
    rintro e w7 ⟨rfl, h8⟩
    go_wp2_with fail
    go_ret
    exact ⟨by simp, h8.old (by simp)⟩
  · obtain ⟨rfl, rfl⟩ : M1 = M ∧ J1 = J := (HTC.out.resolve_left fun h => hk0 h.1).2
    have hc2 := HCC.out.resolve_left hk0
    have HS2 := Lib.hid (stat_any h5 (by omega))
    unfold statE at HS2
    rw [HZ.out, HN.out, HGG.out] at HS2
    have i1 : (((gn : Int)) != ((gn : Int))) = false := by simp
    have i2 : ((z : Int) != z) = false := by simp
    have i3 := str_yes snap
    have i4 : ((recs.length : Int) != recs.length) = false := by simp
    have t0 : (k1 != 0) = true := by rw [bne_iff_ne]; exact hk0
    have HK : Hid (k1 = 2 ∨ k1 = 41) := hc2
    clear hk0 h5 HTC HCC hc2
    go_wp2_with fail
    refine HS2.out.mono ?_
    rintro e w5 ⟨rfl, h6⟩
    have x1 : w5.cell? ⟨g, 1, none⟩ = some (.slice B recs.length cB) := h6.r3.blk.cell 1
    clear HS2
    rcases HK.out with rfl | rfl
    all_goals
      clear HK
      go_wp2_with fail
      refine (open_good h6.r2 HTD.out.good (by simp) hT).mono ?_
      rintro e w6 ⟨j2, A2, c2, v6, rfl, h7⟩
      have y0 : w6.cell? ⟨g, 0, none⟩ = some (.string snap) := h7.r4.blk.cell 0
      have y1 : w6.cell? ⟨g, 1, none⟩ = some (.slice B recs.length cB) := h7.r4.blk.cell 1
      have HSM := Lib.hid (same_sat (L := recs) (K := recs) h7.r5.r2 (by have := HLN.out; omega) (by have := HLN.out; omega))
      rw [decide_eq_true (rfl : recs = recs)] at HSM
      clear h6 x1
      go_wp2_with fail
      refine HSM.out.mono ?_
      rintro e w7 ⟨rfl, h8⟩
      go_wp2_with fail
      go_ret
      exact ⟨rfl, h8.old (by simp)⟩
end Go.Proofs.YtjlpgjfgeikdeaaDoor
