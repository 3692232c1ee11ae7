/- The law JournalAgain: the plain law and the walk. -/
import Derived.Test.YtjlpgjfgeikdeaaDoorKB
set_option linter.unusedVariables false
set_option linter.unusedSimpArgs false
set_option linter.unnecessarySimpa false
set_option maxRecDepth 100000
namespace Go.Proofs.YtjlpgjfgeikdeaaDoor
open Go.RowKit Go.ChangeShapes Go.WideShapes Go.ChangeAt
open Fr (strOfNats strOfNats_size strOfNats_bytes bytesOf Table restOf wrapS)
theorem short_pre : ∀ l : List ByteArray, ∃ r, l = shortB l ++ r
  | [] => ⟨[], rfl⟩
  | r :: l => by
    rw [shortB]
    split
    · obtain ⟨x, h⟩ := short_pre l
      exact ⟨x, by rw [List.cons_append, ← h]⟩
    · exact ⟨r :: l, rfl⟩
theorem short_short : ∀ l : List ByteArray, shortB (shortB l) = shortB l
  | [] => rfl
  | r :: l => by
    rw [shortB]
    split
    · rename_i h
      rw [shortB, if_pos h, short_short l]
    · rfl
theorem scanB_sizes (s : ByteArray) : ∀ r ∈ scanB s, r.size ≤ 200000 := by
  intro r hr
  have h := (FrM.wraps_scan (bytesOf s).length (bytesOf s) (Nat.le_refl _) (Fr.bytes_lt' s)).2
  rw [← scanB_bytes] at h
  have := h (bytesOf r) (List.mem_map_of_mem hr)
  rwa [len_bytes'] at this
theorem scanB_pre (s : ByteArray) (A B : List ByteArray) (h : scanB s = A ++ B) : s.extract 0 (sizeB A) = wrapsS A := by
  apply Fr.bytes_inj
  have hw := (FrM.wraps_scan (bytesOf s).length (bytesOf s) (Nat.le_refl _) (Fr.bytes_lt' s)).1
  rw [← scanB_bytes, h, List.map_append, FrM.wraps_append] at hw
  rw [Fr.bytes_extract, List.drop_zero, Nat.sub_zero, wrapsS_bytes]
  have hl : (FrM.wraps (A.map bytesOf)).length = sizeB A := (sizeB_wraps A).symm
  have hle : sizeB A ≤ (FrM.scanL (bytesOf s)).2 ∨ (bytesOf s).length ≤ (FrM.scanL (bytesOf s)).2 := by
    have := congrArg List.length hw
    simp only [List.length_append, List.length_take, hl] at this
    omega
  have e : (bytesOf s).take (sizeB A) = ((bytesOf s).take (FrM.scanL (bytesOf s)).2).take (sizeB A) := by
    rw [List.take_take]
    rcases hle with h | h
    · rw [Nat.min_eq_left h]
    · have : sizeB A ≤ (bytesOf s).length := by
        have := congrArg List.length hw
        simp only [List.length_append, List.length_take, hl] at this
        omega
      rw [Nat.min_eq_left (by omega)]
  rw [e, ← hw, ← hl, List.take_left']
  rfl
/-- a file that was cut behind what stays tells the same -/
theorem found_cut (s : ByteArray) (hg : (foundB (scanB s)).gen ≠ 0) : foundB (scanB (s.extract 0 (foundB (scanB s)).size)) = foundB (scanB s) := by
  have hz := scanB_sizes s
  obtain ⟨L, hL⟩ : ∃ L, scanB s = L := ⟨_, rfl⟩
  cases L with
  | nil => rw [hL] at hg; exact absurd rfl hg
  | cons h t =>
    by_cases hh : isHead h
    · have e : foundB (h :: t) = ⟨headGen h, headSnap h, shortB t, 8 + h.size + sizeB (shortB t)⟩ := by rw [foundB, if_pos hh]
      obtain ⟨r, hr⟩ := short_pre t
      have hp := scanB_pre s (h :: shortB t) r (by rw [hL, List.cons_append, ← hr])
      simp only [sizeB] at hp
      rw [hL, e]
      simp only
      rw [hp, scanB_wraps]
      · rw [foundB, if_pos hh, short_short]
      · intro x hx
        rw [hL] at hz
        rcases List.mem_cons.1 hx with rfl | hx
        · exact hz _ (by simp)
        · exact hz _ (by rw [hr]; simp [hx])
    · rw [hL, foundB, if_neg hh] at hg
      exact absurd rfl hg
theorem again {M N : MD} (hg : (takenF M).gen ≠ 0) (ht : (N.f (taken M)).b = (M.f (taken M)).b.extract 0 (takenF M).size) (ho : (N.f (1 - taken M)).b = ⟨#[]⟩) : taken N = taken M ∧ takenF N = takenF M := by
  have h1 : foundM N (taken M) = takenF M := by
    unfold foundM
    rw [ht]
    exact found_cut _ hg
  have h2 : foundM N (1 - taken M) = FB.none := by
    unfold foundM
    rw [ho, scan_empty]
    rfl
  have hl := taken_lt M
  have e : taken N = taken M := by
    have h3 : taken M = 0 ∨ taken M = 1 := by omega
    rcases h3 with h3 | h3
    · rw [h3] at h1 h2 ⊢
      rw [taken, h1, show foundM N 1 = FB.none from h2]
      exact if_neg (by show ¬ _ < 0; omega)
    · rw [h3] at h1 h2 ⊢
      rw [taken, h1, show foundM N 0 = FB.none from h2]
      exact if_pos (by show 0 < (takenF M).gen; omega)
  exact ⟨e, by unfold takenF; rw [e, h1]; rfl⟩
theorem openM_safe (M : MD) (i : Nat) (hi : i < 2) : ((openM M).f i).safe = ((openM M).f i).b.size := by
  have hl := taken_lt M
  have hz : (takenF M).size ≤ (M.f (taken M)).b.size := (foundM_size M (taken M)).2
  rw [openM_f]
  by_cases h : i = taken M
  · rw [if_pos h]
    subst h
    simp only [ByteArray.size_extract]
    omega
  · rw [if_neg h, if_pos (by omega)]
    rfl
theorem openM_size (M : MD) : ((openM M).f (taken M)).b.size = (takenF M).size := by
  have hz : (takenF M).size ≤ (M.f (taken M)).b.size := (foundM_size M (taken M)).2
  rw [openM_f, if_pos rfl]
  simp only [ByteArray.size_extract]
  omega
theorem crash_same {N : MD} (L : Nat) {i : Nat} (hi : i < 4) (h : (N.f i).safe = (N.f i).b.size) : (crashM N L).f i = N.f i := by
  have hk : keptN N L i = (N.f i).b.size := by unfold keptN; omega
  rw [crash_f N L i hi, hk, ex_whole _ _ (Nat.le_refl _), ← h]
theorem open_again {M : MD} (hg : (takenF M).gen ≠ 0) (L : Nat) : taken (crashM (openM M) L) = taken M ∧ takenF (crashM (openM M) L) = takenF M := by
  have hl := taken_lt M
  refine again hg ?_ ?_
  · rw [crash_same L (by omega) (openM_safe M _ hl), openM_f, if_pos rfl]
  · rw [crash_same L (by omega) (openM_safe M _ (by omega)), openM_f, if_neg (by omega), if_pos rfl]
theorem sizeV_eq {M : MD} {i : Nat} (hi : i < 4) : sizeV M (i : Int) = ((((M.f i).b.size : Nat) : Int), (((M.f i).safe : Nat) : Int), (0 : Int)) := by
  unfold sizeV
  rw [if_pos (isB_file hi)]
  simp
def SzRel (w0 : World) (F : List HP) (i : Value) (wr : World) : Prop := ∃ k : Nat, k ≤ 2 ∧ i = .int .i64 k ∧ Sat w0 wr F
section
variable {w0 w : World} {F : List HP} {d : Nat} {v : Nat → Value} {M : MD}
theorem size_same (hS : Sat w0 w (DiskV d v M :: F)) (i : Nat) (z : Nat) (hi : i < 4) (h : (M.f i).b.size = z) (h2 : (M.f i).safe = z) :
    Calls Tryd.prog 15 #[.pointer (some ⟨d, 0, none⟩), .int .i64 i] w fun e w' => e = .returned (.tuple #[.int .i64 z, .int .i64 z, .int .i64 0]) ∧ ∃ m, w' = w.drewN m := by
  refine (size_sat hS (i : Int)).mono ?_
  rw [sizeV_eq hi, h, h2]
  exact fun e w' h => h
end
set_option maxHeartbeats 3200000 in
theorem journalAgain_walk (room : Int) (A : Option Addr) (n c : Nat) (l : List Img) (keep : Int) (w : World) (hT : Table w) (w0 : (Lit.int .i64 room).wf = true) (w1 : ImgAt w A n c l) (_ : n * 32 ≤ 140737488351232)
    (w2 : (Lit.int .i64 keep).wf = true) :
    Calls Tryd.prog 4 #[.int .i64 room, .slice A n c, .int .i64 keep] w fun e w' => e = .returned (.bool true) ∧ Below w.heap.size w w' := by
  have H1 := Lib.hid (laid_any room A n c l (Sat.start w) (by simp) (i64_of w0) w1)
  have HOK : Hid ((laidM room l).Ok) := imgs_ok (fresh1_ok (by omega) (by have := pickN_lt room 1048576 (by decide); omega)) l _
  obtain ⟨M, hM⟩ : ∃ M, laidM room l = M := ⟨_, rfl⟩
  rw [hM] at H1 HOK
  have HKW : Hid (wf64 keep) := i64_of w2
  clear hM w0 w1 w2
  have hab : (⟨#[]⟩ : ByteArray).toList = [] := by simp
  go_enter Tryd.func4, Tryd.ntmps4
  go_wp2_with fail
  refine H1.out.mono ?_
  rintro e w2 ⟨d, r, v, rfl, h2⟩
  go_wp2_with fail
  refine (begun_any h2 (by simp) hT).mono ?_
  rintro e w3 ⟨rfl, h3⟩
  clear h2 H1
  go_wp2_with fail
  have HO := Lib.hid (open_any h3 HOK.out (by simp) hT)
  unfold OpOut at HO
  by_cases hg : (takenF M).gen = 0
  · refine HO.out.mono ?_
    rintro e w4 (⟨_, rfl, v', h4⟩ | ⟨hz, _⟩)
    case inr => exact absurd hg hz
    clear HO hg
    go_wp2_with fail
    go_ret
    exact ⟨rfl, h4.old (by simp)⟩
  · have HA := Lib.hid (open_again hg keep.toNat)
    have hln := takenF_len HOK.out
    have hfl := taken_lt M
    have HOK2 : Hid ((openM M).Ok) := openM_ok HOK.out
    have HOK3 : Hid ((crashM (openM M) keep.toNat).Ok) := crash_ok HOK2.out _
    have HSA := Lib.hid (openM_safe M)
    have HZ1 := Lib.hid (openM_size M)
    have HZ2 := Lib.hid (openM_size (crashM (openM M) keep.toNat))
    have HCR := Lib.hid (fun (w1 : World) (v : Nat → Value) (F : List HP) (h : Sat w w1 (DiskV d v (openM M) :: F)) => crash_sat h HOK2.out keep HKW.out)
    obtain ⟨N3, hN3⟩ : ∃ x, crashM (openM M) keep.toNat = x := ⟨_, rfl⟩
    rw [hN3] at HA HOK3 HZ2 HCR
    clear hN3
    rw [HA.out.1, HA.out.2] at HZ2
    obtain ⟨Q, hQ⟩ : ∃ Q, takenF M = Q := ⟨_, rfl⟩
    obtain ⟨N, hN⟩ : ∃ N, openM M = N := ⟨_, rfl⟩
    obtain ⟨fl, hf⟩ : ∃ fl, taken M = fl := ⟨_, rfl⟩
    rw [hQ, hN, hf] at HO
    rw [hQ, hf] at HA
    rw [hN] at HOK2 HSA HCR
    rw [hQ, hN, hf] at HZ1
    rw [hQ, hf] at HZ2
    rw [hQ] at hg hln
    rw [hf] at hfl
    clear hQ hN hf h3
    obtain ⟨gn, sn, rs, sz⟩ := Q
    simp only at HO hg hln HZ1 HZ2
    have hsn := str_yes sn
    have HG := Lib.hid hg
    clear hg
    have HLN := Lib.hid hln
    obtain ⟨m, hm⟩ : ∃ m, rs.length = m := ⟨_, rfl⟩
    have HM := Lib.hid hm
    rw [hm] at hln
    have i1 : ((gn : Int) == gn) = true := by simp
    have i2 : ((m : Int) == m) = true := by simp
    have i3 : ((sz : Int) == sz) = true := by simp
    refine HO.out.mono ?_
    rintro e w4 (⟨hz, _⟩ | ⟨_, j, B, cB, v1, rfl, h4⟩)
    · exact absurd hz HG.out
    rw [hm]
    have H4 := Lib.hid h4
    clear HO h4 hm
    go_wp2_with fail
    go_loopw [14] (SzRel w (Row 9 1 B rs.length cB (strs rs) :: JB j d ⟨fl, gn, rs.length⟩ :: DiskV d v1 N :: Blk r 83 (cellsR M) :: [Old w])) (fun i _ => 2 - (intOf i).toNat)
    case atStart => exact ⟨0, by omega, rfl, H4.out⟩
    case round =>
      obtain ⟨k, hk, rfl, h5⟩ := hrel
      clear H4
      by_cases hlt : k < 2
      · obtain ⟨z, hz⟩ : ∃ z, (N.f k).b.size = z := ⟨_, rfl⟩
        have hz2 := HSA.out k hlt
        rw [hz] at hz2
        have HC := Lib.hid (size_same h5.r3 k z (by omega) hz hz2)
        have iz : ((z : Int) == z) = true := by simp
        clear hz hz2
        go_wp2_with fail
        refine HC.out.mono ?_
        rintro e w6 ⟨rfl, q, rfl⟩
        have H6 := Lib.hid (h5.drewN q)
        clear h5 HC
        go_wp2_with fail
        go_roundw
        case rel => exact ⟨k + 1, by omega, by go_num, H6.out⟩
        case measure => simp [intOf]; omega
      · have HS1 := Lib.hid (stat_any h5.r2.r3.r2 (by show fl < 4; omega))
        unfold statE at HS1
        rw [HZ1.out] at HS1
        simp only at HS1
        rw [HM.out] at HS1
        clear h5
        go_wp2_with fail
        refine HS1.out.mono ?_
        rintro e w6 ⟨rfl, h6⟩
        clear HS1
        go_wp2_with fail
        refine (HCR.out _ _ _ h6.r2).mono ?_
        rintro e w7 ⟨rfl, v2, h7⟩
        have HO := Lib.hid (open_any h7 HOK3.out (by simp) hT)
        unfold OpOut at HO
        rw [HA.out.1, HA.out.2] at HO
        simp only at HO
        clear h6 h7
        go_wp2_with fail
        refine HO.out.mono ?_
        rintro e w8 (⟨hz, _⟩ | ⟨_, j2, B2, cB2, v3, rfl, h8⟩)
        · exact absurd hz HG.out
        rw [← HM.out] at h8
        have HSM := Lib.hid (same_sat (L := rs) (K := rs) h8.r5 (by have := HLN.out; omega) (by have := HLN.out; omega))
        rw [decide_eq_true (rfl : rs = rs)] at HSM
        rw [HM.out] at HSM ⊢
        clear HO
        go_wp2_with fail
        refine HSM.out.mono ?_
        rintro e w9 ⟨rfl, h9⟩
        clear h8 HSM
        rw [HM.out.symm] at h9
        have HS2 := Lib.hid (stat_any h9.r3.r4.r2 (by show fl < 4; omega))
        unfold statE at HS2
        rw [HZ2.out] at HS2
        simp only at HS2
        rw [HM.out] at HS2
        clear h9
        go_wp2_with fail
        refine HS2.out.mono ?_
        rintro e w10 ⟨rfl, h10⟩
        go_wp2_with fail
        go_ret
        exact ⟨rfl, h10.old (by simp)⟩
end Go.Proofs.YtjlpgjfgeikdeaaDoor
