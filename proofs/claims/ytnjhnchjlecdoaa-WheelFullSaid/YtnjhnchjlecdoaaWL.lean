/- The document's wheel: Set. -/
import Derived.Test.YtnjhnchjlecdoaaWJ
import Derived.Test.YtnjhnchjlecdoaaInv
set_option linter.unusedVariables false
set_option linter.unusedSimpArgs false
set_option linter.unnecessarySimpa false
set_option maxRecDepth 100000
namespace Go.Proofs.Ytnjhnchjlecdoaa
open Go.RowKit Go.ChangeShapes Go.WideShapes Go.ChangeAt
theorem after_bef (x y : Tm) (h : y.1 ≠ x.1) : after x y = !bef y x := by
  obtain ⟨x1, x2⟩ := x
  obtain ⟨y1, y2⟩ := y
  simp only at h
  unfold after bef orI cmpI
  simp only
  by_cases a : y2 < x2
  · simp [a]
  · by_cases b : x2 < y2
    · have : y2 ≠ x2 := by omega
      simp [a, b, this]
    · have e : y2 = x2 := by omega
      subst e
      by_cases c : y1 < x1
      · have : ¬ x1 < y1 := by omega
        simp [c]
      · have : x1 < y1 := by omega
        simp [c, this]
theorem first_congr {L : List Tm} {p q : Tm → Bool} (h : ∀ y ∈ L, p y = q y) : firstN L p = firstN L q := by
  unfold firstN
  induction L with
  | nil => rfl
  | cons x l ih =>
    rw [List.findIdx_cons, List.findIdx_cons, h x (by simp), ih fun y hy => h y (by simp [hy])]
section
variable {w0 w : World} {F : List HP} {g T E n c : Nat} {A : Option Addr} {L : List Tm}
theorem rset_bad (id at_ : Int) (w : World) (h : ¬ (0 ≤ id ∧ 0 ≤ at_ ∧ at_ ≤ 1073741824)) :
    Calls Try.prog 16 #[.pointer (some ⟨g, 0, none⟩), .int .i64 id, .int .i64 at_] w fun e w' => e = .returned (.int .i64 1) ∧ w' = w := by
  by_cases h1 : id < 0
  · clear h
    go_enter Try.func16, Try.ntmps16
    go_wp2_with fail
    go_ret
    exact ⟨rfl, rfl⟩
  · by_cases h2 : at_ < 0
    · clear h
      go_enter Try.func16, Try.ntmps16
      go_wp2_with fail
      go_ret
      exact ⟨rfl, rfl⟩
    · have h3 : at_ > 1073741824 := by omega
      clear h
      go_enter Try.func16, Try.ntmps16
      go_wp2_with fail
      go_ret
      exact ⟨rfl, rfl⟩
def putR (K : List Tm) (x : Tm) : List Tm := K.take (firstN K (fun y => !bef y x)) ++ [x] ++ K.drop (firstN K (fun y => !bef y x))
def RsRel (w0 : World) (G : List HP) (K : List Tm) (x : Tm) (i : Value) (wr : World) : Prop :=
  ∃ k : Nat, k ≤ K.length ∧ i = .int .i64 k ∧ (∀ j (hj : j < K.length), j < k → (!bef K[j] x) = false) ∧ Sat w0 wr G
set_option maxHeartbeats 3200000 in
theorem rset_full (id at_ : Int) (hS : Sat w0 w (WheelC g 58 61 L :: F)) (hm : L.length = 200) (hf : stopB L id = false) (h1 : 0 ≤ id) (h2 : 0 ≤ at_) (h3 : at_ ≤ 1073741824) :
    Calls Try.prog 16 #[.pointer (some ⟨g, 0, none⟩), .int .i64 id, .int .i64 at_] w fun e w' => e = .returned (.int .i64 2) ∧ w' = w := by
  have HFD := Lib.hid (find_any id hS (by omega))
  have hfi : findI L id = -1 := by
    unfold stopB at hf
    have := of_decide_eq_false hf
    unfold findI
    rw [if_neg this]
  rw [hfi] at HFD
  obtain ⟨A, c, hS⟩ := hS.openW
  have c0 : w.cell? ⟨g, 0, none⟩ = some (.slice A 200 c) := by rw [hS.blk.cell, hm]; rfl
  clear hS hf hfi hm
  go_enter Try.func16, Try.ntmps16
  go_wp2_with fail
  refine HFD.out.mono ?_
  rintro e w1 ⟨rfl, rfl⟩
  go_wp2_with fail
  go_ret
  exact ⟨rfl, rfl⟩
set_option maxHeartbeats 6400000 in
theorem rset_ok (id at_ : Int) (hS : Sat w0 w (WheelC g 58 61 L :: F)) (hm : L.length ≤ 200) (hf : ¬ (stopB L id = false ∧ L.length = 200)) (h1 : 0 ≤ id) (h2 : 0 ≤ at_) (h3 : at_ ≤ 1073741824) :
    Calls Try.prog 16 #[.pointer (some ⟨g, 0, none⟩), .int .i64 id, .int .i64 at_] w fun e w' => e = .returned (.int .i64 0) ∧
      Sat w0 w' (WheelC g 58 61 (putR (stopL L id) (id, at_)) :: F) := by
  obtain ⟨jj, hjj, iz, isz, iby⟩ := info_parts info61
  have HST := Lib.hid (rstop_any id hS (by omega))
  have HFD := Lib.hid (find_any id hS (by omega))
  have hkl : (stopL L id).length ≤ 200 := by rw [stop_len]; split <;> omega
  obtain ⟨K, hK⟩ : ∃ K, stopL L id = K := ⟨_, rfl⟩
  rw [hK] at HST hkl ⊢
  have HPR : Hid (putR K (id, at_) = K.take (firstN K (fun y => !bef y (id, at_))) ++ [(id, at_)] ++ K.drop (firstN K (fun y => !bef y (id, at_)))) := rfl
  obtain ⟨A0, cc, hS⟩ := hS.openW
  have c0 := hS.blk.cell 0
  have hft : L.length < 200 ∨ (L.length = 200 ∧ findI L id ≠ -1 ∧ 0 ≤ findI L id) := by
    by_cases h : L.length = 200
    · right
      have hb : stopB L id = true := by
        cases hb : stopB L id
        · exact absurd ⟨hb, h⟩ hf
        · rfl
      unfold stopB at hb
      have := of_decide_eq_true hb
      unfold findI
      rw [if_pos this]
      exact ⟨h, by omega, by omega⟩
    · left; omega
  obtain ⟨fi, hfi⟩ : ∃ fi, findI L id = fi := ⟨_, rfl⟩
  obtain ⟨sb, hsb⟩ : ∃ sb, stopB L id = sb := ⟨_, rfl⟩
  rw [hfi] at HFD hft
  rw [hsb] at HST
  obtain ⟨N0, hN0⟩ : ∃ N, L.length = N := ⟨_, rfl⟩
  rw [hN0] at c0 hft hm
  clear hf hfi hsb hS hK hN0
  have HSTA : Hid (∃ b : Bool, Calls Try.prog 18 #[.pointer (some ⟨g, 0, none⟩), .int .i64 id] w fun e w' => e = .returned (.bool b) ∧ Sat w0 w' (WheelC g 58 61 K :: F)) := ⟨sb, HST.out⟩
  clear HST
  obtain ⟨sb', HST'⟩ := HSTA.out
  have HST := Lib.hid HST'
  clear HST' HSTA
  go_enter Try.func16, Try.ntmps16
  rcases hft with hft | ⟨rfl, hfn, hf0⟩
  · go_wp2_with fail
    refine HST.out.mono ?_
    rintro e w1 ⟨rfl, hS1⟩
    obtain ⟨A, c, hS2⟩ := hS1.openW
    have hx := hS2.new #[.int .i64 id, .int .i64 at_] 61
    obtain ⟨q, hq⟩ : ∃ q, w1.heap.size = q := ⟨_, rfl⟩
    rw [hq] at hx
    obtain ⟨hcap1, hcap2⟩ := hS2.r2.rowCap
    unfold maxLen at hcap2
    have HX := Lib.hid hx
    clear HST hS1 hS2 hx
    go_wp2_with fail
    try simp only [hq]
    go_loopw [8] (RsRel w0 (Blk q 61 [.int .i64 id, .int .i64 at_] :: Blk g 58 [.slice A K.length c] :: Row 61 2 A K.length c (tc K) :: F) K (id, at_)) (fun i _ => K.length - (intOf i).toNat)
    case atStart => exact ⟨0, Nat.zero_le _, rfl, fun j hj h => absurd h (Nat.not_lt_zero _), HX.out⟩
    case round =>
      obtain ⟨k, hk, rfl, ha, hT⟩ := hrel
      clear HX hq
      obtain ⟨G, hG⟩ : ∃ G, G = Blk q 61 [.int .i64 id, .int .i64 at_] :: Blk g 58 [.slice A K.length c] :: Row 61 2 A K.length c (tc K) :: F := ⟨_, rfl⟩
      have hIn : Sat w0 wr G := by rw [hG]; exact hT
      have op : ∀ w', Sat w0 w' G → Sat w0 w' (Blk q 61 [.int .i64 id, .int .i64 at_] :: Blk g 58 [.slice A K.length c] :: Row 61 2 A K.length c (tc K) :: F) := fun w' h => by rw [hG] at h; exact h
      have f0 : ∀ x : In w0 G, x.w.cell? ⟨g, 0, none⟩ = some (.slice A K.length c) := fun x => (op _ x.ok).r2.blk.cell 0
      have fq0 : ∀ x : In w0 G, x.w.cell? ⟨q, 0, none⟩ = some (.int .i64 id) := fun x => (op _ x.ok).blk.cell 0
      have fq1 : ∀ x : In w0 G, x.w.cell? ⟨q, 1, none⟩ = some (.int .i64 at_) := fun x => (op _ x.ok).blk.cell 1
      have HIN := Lib.hid hIn
      have HOP := Lib.hid op
      haveI hne : Nonempty (In w0 G) := ⟨⟨_, hIn⟩⟩
      clear hG op hIn
      by_cases hlt : k < K.length
      · obtain ⟨b, rfl, _⟩ := tm_cells hT.r3 (by omega)
        have HCC : Hid (∀ x : In w0 G, x.w.cell? ⟨b, k * 2, none⟩ = some (.int .i64 K[k].1) ∧ x.w.cell? ⟨b, k * 2 + 1, none⟩ = some (.int .i64 K[k].2)) := fun x => by
          obtain ⟨b', e, hc⟩ := tm_cells (HOP.out _ x.ok).r3 (by omega)
          cases e
          exact hc k hlt
        have c33 : Hid (∀ x : In w0 G, Calls Try.prog 33 #[.agg #[.int .i64 K[k].1, .int .i64 K[k].2], .agg #[.int .i64 id, .int .i64 at_]] x.w fun e w' => e = .returned (.bool (bef K[k] (id, at_))) ∧ ∃ y : In w0 G, w' = y.w) := fun x => Calls.in_below (before_any K[k] (id, at_) x.w)
        have HBT : Hid (∀ v, bef K[k] (id, at_) = v → (v = false → firstN K (fun y => !bef y (id, at_)) = k) ∧ (v = true → ∀ j (hj : j < K.length), j < k + 1 → (!bef K[j] (id, at_)) = false)) := fun v hv => ⟨fun e => first_hit (p := fun y => !bef y (id, at_)) hlt (by show (!bef K[k] (id, at_)) = true; rw [hv, e]; rfl) ha, fun e j hj hjk => by
          by_cases hjk2 : j < k
          · exact ha j hj hjk2
          · obtain rfl : j = k := by omega
            rw [hv, e]; rfl⟩
        obtain ⟨v, hv⟩ : ∃ v, bef K[k] (id, at_) = v := ⟨_, rfl⟩
        have HBT2 := Lib.hid (HBT.out v hv)
        rw [hv] at c33
        obtain ⟨⟨y1, y2⟩, hy⟩ : ∃ y, K[k] = y := ⟨_, rfl⟩
        rw [hy] at HCC c33
        simp only at HCC c33
        have fb0 : ∀ x : In w0 G, x.w.cell? ⟨b, k * 2, none⟩ = some (.int .i64 y1) := fun x => (HCC.out x).1
        have fb1 : ∀ x : In w0 G, x.w.cell? ⟨b, k * 2 + 1, none⟩ = some (.int .i64 y2) := fun x => (HCC.out x).2
        clear ha hy hv HBT hT HCC
        go_wp2_with fail
        refine wp_region_in HIN.out (by kernel_rfl) (by kernel_rfl) ?_
        repeat go_big_quiet_step ((first | (go_at_call 33; exact c33.out _)))
        refine wpQuiet_nil ?_
        intro w7 hw'
        obtain ⟨x7, hw7⟩ := hw'
        have h7 := x7.ok
        rw [← hw7] at h7
        have h8 := HOP.out _ h7
        clear hw7 x7 h7 f0 fq0 fq1 fb0 fb1 hne c33 HIN HOP
        cases v with
        | true =>
          have HAN := Lib.hid (HBT2.out.2 rfl)
          have H8 := Lib.hid h8
          clear h8 HBT2
          go_wp2_with fail
          go_roundw
          case rel => exact ⟨k + 1, by omega, by go_num, HAN.out, H8.out⟩
          case measure => simp [intOf]; omega
        | false =>
          have HQ := Lib.hid (HBT2.out.1 rfl)
          have hcq : ¬ c = k := by omega
          clear HBT2
          have x0 : w7.cell? ⟨g, 0, none⟩ = some (.slice (some ⟨b, 0, none⟩) K.length c) := h8.r2.blk.cell 0
          have x1 : w7.cell? ⟨q, 0, none⟩ = some (.int .i64 id) := h8.blk.cell 0
          have x2 : w7.cell? ⟨q, 1, none⟩ = some (.int .i64 at_) := h8.blk.cell 1
          have s1 : ∀ u ∈ (tc K).take (k * 2), u.oneCell' = true := fun u hu => tc_one K u (List.mem_of_mem_take hu)
          have s2 : ∀ u ∈ (tc K).drop (k * 2), u.oneCell' = true := fun u hu => tc_one K u (List.mem_of_mem_drop hu)
          have H8 := Lib.hid h8
          clear h8
          go_wp2_with (first
            | (at_builtin; refine wpList_appS rfl (.tmp 58) (.tmp 64) 56 rfl 61 jj _ 2 16 Try.underlying56 hjj iz isz iby rfl (by decide) rfl (H8.out.nilRow 61 2) rfl (H8.out.r3.rd.take hk) s1 (by unfold maxLen; omega) (by omega) ?_; intro A1 c1 w2 hS1; have z0 : w2.cell? ⟨g, 0, none⟩ = some (.slice (some ⟨b, 0, none⟩) K.length c) := hS1.r3.blk.cell 0; have z1 : w2.cell? ⟨q, 0, none⟩ = some (.int .i64 id) := hS1.r2.blk.cell 0; have z2 : w2.cell? ⟨q, 1, none⟩ = some (.int .i64 at_) := hS1.r2.blk.cell 1; rw [Nat.zero_add, List.nil_append] at hS1; clear x0 x1 x2)
            | (at_builtin; refine wpList_app1 rfl (.tmp 66) (.tmp 68) 56 rfl 61 jj _ 2 16 Try.underlying56 hjj iz isz iby rfl (by decide) rfl (hS1.new #[.int .i64 id, .int .i64 at_] 61) (by rfl) rfl (tc_one [(id, at_)]) (by unfold maxLen; omega) (by omega) ?_; intro A2 c2 w3 hS2; have y0 : w3.cell? ⟨g, 0, none⟩ = some (.slice (some ⟨b, 0, none⟩) K.length c) := hS2.r3.blk.cell 0; clear z0 z1 z2 hS1)
            | (at_builtin; refine wpList_appS rfl (.tmp 70) (.tmp 76) 56 rfl 61 jj _ 2 16 Try.underlying56 hjj iz isz iby rfl (by decide) rfl hS2 rfl (hS2.r4.rd.drop hk) s2 (by unfold maxLen; omega) (by omega) ?_; intro A3 c3 w4 hS3; have u0 : w4.cell? ⟨g, 0, none⟩ = some (.slice (some ⟨b, 0, none⟩) K.length c) := hS3.r3.blk.cell 0; have f1 : w4.frozen? ⟨g, 0, none⟩ = false := hS3.r3.blk.free 0; have HF := Lib.hid ((hS3.r3.set 0 (.slice A3 (k + 1 + (K.length - k)) c3)).r4.tail.r3.tail); clear y0 hS2 hS3))
          go_ret
          rw [HPR.out, HQ.out]
          rw [tc_take, tc_drop, show tc (K.take k) ++ [Value.int .i64 id, .int .i64 at_] ++ tc (K.drop k) = tc (K.take k ++ [(id, at_)] ++ K.drop k) from by rw [tc_append, tc_append]; rfl] at HF
          exact ⟨rfl, Sat.closeW (by simp only [List.length_append, List.length_take, List.length_drop, List.length_cons, List.length_nil]; omega) HF.out⟩
      · obtain rfl : k = K.length := by omega
        have HQ : Hid (firstN K (fun y => !bef y (id, at_)) = K.length) := first_none (p := fun y => !bef y (id, at_)) fun j hj => ha j hj hj
        clear ha hT
        go_wp2_with fail
        refine wp_region_in HIN.out (by kernel_rfl) (by kernel_rfl) ?_
        repeat go_big_quiet_step (fail)
        refine wpQuiet_nil ?_
        intro w7 hw'
        obtain ⟨x7, hw7⟩ := hw'
        have h7 := x7.ok
        rw [← hw7] at h7
        have h8 := HOP.out _ h7
        clear hw7 x7 h7 f0 fq0 fq1 hne HIN HOP
        cases A with
        | none =>
          obtain ⟨hn0, hc0, _⟩ := h8.r3.rowNone
          clear hn0 hc0
          have x0 : w7.cell? ⟨g, 0, none⟩ = some (.slice none K.length c) := h8.r2.blk.cell 0
          have x1 : w7.cell? ⟨q, 0, none⟩ = some (.int .i64 id) := h8.blk.cell 0
          have x2 : w7.cell? ⟨q, 1, none⟩ = some (.int .i64 at_) := h8.blk.cell 1
          have s1 : ∀ u ∈ (tc K).take (K.length * 2), u.oneCell' = true := fun u hu => tc_one K u (List.mem_of_mem_take hu)
          have s2 : ∀ u ∈ (tc K).drop (K.length * 2), u.oneCell' = true := fun u hu => tc_one K u (List.mem_of_mem_drop hu)
          have H8 := Lib.hid h8
          clear h8
          go_wp2_with (first
            | (at_builtin; refine wpList_appS rfl (.tmp 58) (.tmp 64) 56 rfl 61 jj _ 2 16 Try.underlying56 hjj iz isz iby rfl (by decide) rfl (H8.out.nilRow 61 2) rfl (H8.out.r3.rd.take (Nat.le_refl _)) s1 (by unfold maxLen; omega) (by omega) ?_; intro A1 c1 w2 hS1; have z0 : w2.cell? ⟨g, 0, none⟩ = some (.slice none K.length c) := hS1.r3.blk.cell 0; have z1 : w2.cell? ⟨q, 0, none⟩ = some (.int .i64 id) := hS1.r2.blk.cell 0; have z2 : w2.cell? ⟨q, 1, none⟩ = some (.int .i64 at_) := hS1.r2.blk.cell 1; rw [Nat.zero_add, List.nil_append] at hS1; clear x0 x1 x2)
            | (at_builtin; refine wpList_app1 rfl (.tmp 66) (.tmp 68) 56 rfl 61 jj _ 2 16 Try.underlying56 hjj iz isz iby rfl (by decide) rfl (hS1.new #[.int .i64 id, .int .i64 at_] 61) (by rfl) rfl (tc_one [(id, at_)]) (by unfold maxLen; omega) (by omega) ?_; intro A2 c2 w3 hS2; have y0 : w3.cell? ⟨g, 0, none⟩ = some (.slice none K.length c) := hS2.r3.blk.cell 0; clear z0 z1 z2 hS1)
            | (at_builtin; refine wpList_appS rfl (.tmp 70) (.tmp 76) 56 rfl 61 jj _ 2 16 Try.underlying56 hjj iz isz iby rfl (by decide) rfl hS2 rfl (Rd.none_ _ _ 2) (by simp) (by unfold maxLen; omega) (by omega) ?_; intro A3 c3 w4 hS3; have u0 : w4.cell? ⟨g, 0, none⟩ = some (.slice none K.length c) := hS3.r3.blk.cell 0; have f1 : w4.frozen? ⟨g, 0, none⟩ = false := hS3.r3.blk.free 0; have HF := Lib.hid ((hS3.r3.set 0 (.slice A3 (K.length + 1 + 0) c3)).r4.tail.r3.tail); clear y0 hS2 hS3))
          go_ret
          rw [HPR.out, HQ.out]
          rw [tc_take, List.append_nil, Nat.add_zero, show tc (K.take K.length) ++ [Value.int .i64 id, .int .i64 at_] = tc (K.take K.length ++ [(id, at_)] ++ K.drop K.length) from by rw [List.drop_length, List.append_nil, tc_append]; rfl] at HF
          exact ⟨rfl, Sat.closeW (by simp only [List.length_append, List.length_take, List.length_drop, List.length_cons, List.length_nil]; omega) HF.out⟩
        | some a =>
          obtain ⟨b, cur, rfl, _⟩ := h8.r3.rowBlk
          by_cases hcq : c = K.length
          · have x0 : w7.cell? ⟨g, 0, none⟩ = some (.slice (some ⟨b, 0, none⟩) K.length c) := h8.r2.blk.cell 0
            have x1 : w7.cell? ⟨q, 0, none⟩ = some (.int .i64 id) := h8.blk.cell 0
            have x2 : w7.cell? ⟨q, 1, none⟩ = some (.int .i64 at_) := h8.blk.cell 1
            have s1 : ∀ u ∈ (tc K).take (K.length * 2), u.oneCell' = true := fun u hu => tc_one K u (List.mem_of_mem_take hu)
            have s2 : ∀ u ∈ (tc K).drop (K.length * 2), u.oneCell' = true := fun u hu => tc_one K u (List.mem_of_mem_drop hu)
            have H8 := Lib.hid h8
            clear h8
            go_wp2_with (first
              | (at_builtin; refine wpList_appS rfl (.tmp 58) (.tmp 64) 56 rfl 61 jj _ 2 16 Try.underlying56 hjj iz isz iby rfl (by decide) rfl (H8.out.nilRow 61 2) rfl (H8.out.r3.rd.take (Nat.le_refl _)) s1 (by unfold maxLen; omega) (by omega) ?_; intro A1 c1 w2 hS1; have z0 : w2.cell? ⟨g, 0, none⟩ = some (.slice (some ⟨b, 0, none⟩) K.length c) := hS1.r3.blk.cell 0; have z1 : w2.cell? ⟨q, 0, none⟩ = some (.int .i64 id) := hS1.r2.blk.cell 0; have z2 : w2.cell? ⟨q, 1, none⟩ = some (.int .i64 at_) := hS1.r2.blk.cell 1; rw [Nat.zero_add, List.nil_append] at hS1; clear x0 x1 x2)
              | (at_builtin; refine wpList_app1 rfl (.tmp 66) (.tmp 68) 56 rfl 61 jj _ 2 16 Try.underlying56 hjj iz isz iby rfl (by decide) rfl (hS1.new #[.int .i64 id, .int .i64 at_] 61) (by rfl) rfl (tc_one [(id, at_)]) (by unfold maxLen; omega) (by omega) ?_; intro A2 c2 w3 hS2; have y0 : w3.cell? ⟨g, 0, none⟩ = some (.slice (some ⟨b, 0, none⟩) K.length c) := hS2.r3.blk.cell 0; clear z0 z1 z2 hS1)
              | (at_builtin; refine wpList_appS rfl (.tmp 70) (.tmp 76) 56 rfl 61 jj _ 2 16 Try.underlying56 hjj iz isz iby rfl (by decide) rfl hS2 rfl (Rd.none_ _ _ 2) (by simp) (by unfold maxLen; omega) (by omega) ?_; intro A3 c3 w4 hS3; have u0 : w4.cell? ⟨g, 0, none⟩ = some (.slice (some ⟨b, 0, none⟩) K.length c) := hS3.r3.blk.cell 0; have f1 : w4.frozen? ⟨g, 0, none⟩ = false := hS3.r3.blk.free 0; have HF := Lib.hid ((hS3.r3.set 0 (.slice A3 (K.length + 1 + 0) c3)).r4.tail.r3.tail); clear y0 hS2 hS3))
            go_ret
            rw [HPR.out, HQ.out]
            rw [tc_take, List.append_nil, Nat.add_zero, show tc (K.take K.length) ++ [Value.int .i64 id, .int .i64 at_] = tc (K.take K.length ++ [(id, at_)] ++ K.drop K.length) from by rw [List.drop_length, List.append_nil, tc_append]; rfl] at HF
            exact ⟨rfl, Sat.closeW (by simp only [List.length_append, List.length_take, List.length_drop, List.length_cons, List.length_nil]; omega) HF.out⟩
          · have x0 : w7.cell? ⟨g, 0, none⟩ = some (.slice (some ⟨b, 0, none⟩) K.length c) := h8.r2.blk.cell 0
            have x1 : w7.cell? ⟨q, 0, none⟩ = some (.int .i64 id) := h8.blk.cell 0
            have x2 : w7.cell? ⟨q, 1, none⟩ = some (.int .i64 at_) := h8.blk.cell 1
            have s1 : ∀ u ∈ (tc K).take (K.length * 2), u.oneCell' = true := fun u hu => tc_one K u (List.mem_of_mem_take hu)
            have s2 : ∀ u ∈ (tc K).drop (K.length * 2), u.oneCell' = true := fun u hu => tc_one K u (List.mem_of_mem_drop hu)
            have H8 := Lib.hid h8
            clear h8
            go_wp2_with (first
              | (at_builtin; refine wpList_appS rfl (.tmp 58) (.tmp 64) 56 rfl 61 jj _ 2 16 Try.underlying56 hjj iz isz iby rfl (by decide) rfl (H8.out.nilRow 61 2) rfl (H8.out.r3.rd.take (Nat.le_refl _)) s1 (by unfold maxLen; omega) (by omega) ?_; intro A1 c1 w2 hS1; have z0 : w2.cell? ⟨g, 0, none⟩ = some (.slice (some ⟨b, 0, none⟩) K.length c) := hS1.r3.blk.cell 0; have z1 : w2.cell? ⟨q, 0, none⟩ = some (.int .i64 id) := hS1.r2.blk.cell 0; have z2 : w2.cell? ⟨q, 1, none⟩ = some (.int .i64 at_) := hS1.r2.blk.cell 1; rw [Nat.zero_add, List.nil_append] at hS1; clear x0 x1 x2)
              | (at_builtin; refine wpList_app1 rfl (.tmp 66) (.tmp 68) 56 rfl 61 jj _ 2 16 Try.underlying56 hjj iz isz iby rfl (by decide) rfl (hS1.new #[.int .i64 id, .int .i64 at_] 61) (by rfl) rfl (tc_one [(id, at_)]) (by unfold maxLen; omega) (by omega) ?_; intro A2 c2 w3 hS2; have y0 : w3.cell? ⟨g, 0, none⟩ = some (.slice (some ⟨b, 0, none⟩) K.length c) := hS2.r3.blk.cell 0; clear z0 z1 z2 hS1)
              | (at_builtin; refine wpList_appS rfl (.tmp 70) (.tmp 76) 56 rfl 61 jj _ 2 16 Try.underlying56 hjj iz isz iby rfl (by decide) rfl hS2 rfl (Rd.none_ _ _ 2) (by simp) (by unfold maxLen; omega) (by omega) ?_; intro A3 c3 w4 hS3; have u0 : w4.cell? ⟨g, 0, none⟩ = some (.slice (some ⟨b, 0, none⟩) K.length c) := hS3.r3.blk.cell 0; have f1 : w4.frozen? ⟨g, 0, none⟩ = false := hS3.r3.blk.free 0; have HF := Lib.hid ((hS3.r3.set 0 (.slice A3 (K.length + 1 + 0) c3)).r4.tail.r3.tail); clear y0 hS2 hS3))
            go_ret
            rw [HPR.out, HQ.out]
            rw [tc_take, List.append_nil, Nat.add_zero, show tc (K.take K.length) ++ [Value.int .i64 id, .int .i64 at_] = tc (K.take K.length ++ [(id, at_)] ++ K.drop K.length) from by rw [List.drop_length, List.append_nil, tc_append]; rfl] at HF
            exact ⟨rfl, Sat.closeW (by simp only [List.length_append, List.length_take, List.length_drop, List.length_cons, List.length_nil]; omega) HF.out⟩
  · go_wp2_with fail
    refine HFD.out.mono ?_
    rintro e w9 ⟨rfl, rfl⟩
    go_wp2_with fail
    refine HST.out.mono ?_
    rintro e w1 ⟨rfl, hS1⟩
    obtain ⟨A, c, hS2⟩ := hS1.openW
    have hx := hS2.new #[.int .i64 id, .int .i64 at_] 61
    obtain ⟨q, hq⟩ : ∃ q, w1.heap.size = q := ⟨_, rfl⟩
    rw [hq] at hx
    obtain ⟨hcap1, hcap2⟩ := hS2.r2.rowCap
    unfold maxLen at hcap2
    have HX := Lib.hid hx
    clear HST hS1 hS2 hx
    go_wp2_with fail
    try simp only [hq]
    go_loopw [8] (RsRel w0 (Blk q 61 [.int .i64 id, .int .i64 at_] :: Blk g 58 [.slice A K.length c] :: Row 61 2 A K.length c (tc K) :: F) K (id, at_)) (fun i _ => K.length - (intOf i).toNat)
    case atStart => exact ⟨0, Nat.zero_le _, rfl, fun j hj h => absurd h (Nat.not_lt_zero _), HX.out⟩
    case round =>
      obtain ⟨k, hk, rfl, ha, hT⟩ := hrel
      clear HX hq
      obtain ⟨G, hG⟩ : ∃ G, G = Blk q 61 [.int .i64 id, .int .i64 at_] :: Blk g 58 [.slice A K.length c] :: Row 61 2 A K.length c (tc K) :: F := ⟨_, rfl⟩
      have hIn : Sat w0 wr G := by rw [hG]; exact hT
      have op : ∀ w', Sat w0 w' G → Sat w0 w' (Blk q 61 [.int .i64 id, .int .i64 at_] :: Blk g 58 [.slice A K.length c] :: Row 61 2 A K.length c (tc K) :: F) := fun w' h => by rw [hG] at h; exact h
      have f0 : ∀ x : In w0 G, x.w.cell? ⟨g, 0, none⟩ = some (.slice A K.length c) := fun x => (op _ x.ok).r2.blk.cell 0
      have fq0 : ∀ x : In w0 G, x.w.cell? ⟨q, 0, none⟩ = some (.int .i64 id) := fun x => (op _ x.ok).blk.cell 0
      have fq1 : ∀ x : In w0 G, x.w.cell? ⟨q, 1, none⟩ = some (.int .i64 at_) := fun x => (op _ x.ok).blk.cell 1
      have HIN := Lib.hid hIn
      have HOP := Lib.hid op
      haveI hne : Nonempty (In w0 G) := ⟨⟨_, hIn⟩⟩
      clear hG op hIn
      by_cases hlt : k < K.length
      · obtain ⟨b, rfl, _⟩ := tm_cells hT.r3 (by omega)
        have HCC : Hid (∀ x : In w0 G, x.w.cell? ⟨b, k * 2, none⟩ = some (.int .i64 K[k].1) ∧ x.w.cell? ⟨b, k * 2 + 1, none⟩ = some (.int .i64 K[k].2)) := fun x => by
          obtain ⟨b', e, hc⟩ := tm_cells (HOP.out _ x.ok).r3 (by omega)
          cases e
          exact hc k hlt
        have c33 : Hid (∀ x : In w0 G, Calls Try.prog 33 #[.agg #[.int .i64 K[k].1, .int .i64 K[k].2], .agg #[.int .i64 id, .int .i64 at_]] x.w fun e w' => e = .returned (.bool (bef K[k] (id, at_))) ∧ ∃ y : In w0 G, w' = y.w) := fun x => Calls.in_below (before_any K[k] (id, at_) x.w)
        have HBT : Hid (∀ v, bef K[k] (id, at_) = v → (v = false → firstN K (fun y => !bef y (id, at_)) = k) ∧ (v = true → ∀ j (hj : j < K.length), j < k + 1 → (!bef K[j] (id, at_)) = false)) := fun v hv => ⟨fun e => first_hit (p := fun y => !bef y (id, at_)) hlt (by show (!bef K[k] (id, at_)) = true; rw [hv, e]; rfl) ha, fun e j hj hjk => by
          by_cases hjk2 : j < k
          · exact ha j hj hjk2
          · obtain rfl : j = k := by omega
            rw [hv, e]; rfl⟩
        obtain ⟨v, hv⟩ : ∃ v, bef K[k] (id, at_) = v := ⟨_, rfl⟩
        have HBT2 := Lib.hid (HBT.out v hv)
        rw [hv] at c33
        obtain ⟨⟨y1, y2⟩, hy⟩ : ∃ y, K[k] = y := ⟨_, rfl⟩
        rw [hy] at HCC c33
        simp only at HCC c33
        have fb0 : ∀ x : In w0 G, x.w.cell? ⟨b, k * 2, none⟩ = some (.int .i64 y1) := fun x => (HCC.out x).1
        have fb1 : ∀ x : In w0 G, x.w.cell? ⟨b, k * 2 + 1, none⟩ = some (.int .i64 y2) := fun x => (HCC.out x).2
        clear ha hy hv HBT hT HCC
        go_wp2_with fail
        refine wp_region_in HIN.out (by kernel_rfl) (by kernel_rfl) ?_
        repeat go_big_quiet_step ((first | (go_at_call 33; exact c33.out _)))
        refine wpQuiet_nil ?_
        intro w7 hw'
        obtain ⟨x7, hw7⟩ := hw'
        have h7 := x7.ok
        rw [← hw7] at h7
        have h8 := HOP.out _ h7
        clear hw7 x7 h7 f0 fq0 fq1 fb0 fb1 hne c33 HIN HOP
        cases v with
        | true =>
          have HAN := Lib.hid (HBT2.out.2 rfl)
          have H8 := Lib.hid h8
          clear h8 HBT2
          go_wp2_with fail
          go_roundw
          case rel => exact ⟨k + 1, by omega, by go_num, HAN.out, H8.out⟩
          case measure => simp [intOf]; omega
        | false =>
          have HQ := Lib.hid (HBT2.out.1 rfl)
          have hcq : ¬ c = k := by omega
          clear HBT2
          have x0 : w7.cell? ⟨g, 0, none⟩ = some (.slice (some ⟨b, 0, none⟩) K.length c) := h8.r2.blk.cell 0
          have x1 : w7.cell? ⟨q, 0, none⟩ = some (.int .i64 id) := h8.blk.cell 0
          have x2 : w7.cell? ⟨q, 1, none⟩ = some (.int .i64 at_) := h8.blk.cell 1
          have s1 : ∀ u ∈ (tc K).take (k * 2), u.oneCell' = true := fun u hu => tc_one K u (List.mem_of_mem_take hu)
          have s2 : ∀ u ∈ (tc K).drop (k * 2), u.oneCell' = true := fun u hu => tc_one K u (List.mem_of_mem_drop hu)
          have H8 := Lib.hid h8
          clear h8
          go_wp2_with (first
            | (at_builtin; refine wpList_appS rfl (.tmp 58) (.tmp 64) 56 rfl 61 jj _ 2 16 Try.underlying56 hjj iz isz iby rfl (by decide) rfl (H8.out.nilRow 61 2) rfl (H8.out.r3.rd.take hk) s1 (by unfold maxLen; omega) (by omega) ?_; intro A1 c1 w2 hS1; have z0 : w2.cell? ⟨g, 0, none⟩ = some (.slice (some ⟨b, 0, none⟩) K.length c) := hS1.r3.blk.cell 0; have z1 : w2.cell? ⟨q, 0, none⟩ = some (.int .i64 id) := hS1.r2.blk.cell 0; have z2 : w2.cell? ⟨q, 1, none⟩ = some (.int .i64 at_) := hS1.r2.blk.cell 1; rw [Nat.zero_add, List.nil_append] at hS1; clear x0 x1 x2)
            | (at_builtin; refine wpList_app1 rfl (.tmp 66) (.tmp 68) 56 rfl 61 jj _ 2 16 Try.underlying56 hjj iz isz iby rfl (by decide) rfl (hS1.new #[.int .i64 id, .int .i64 at_] 61) (by rfl) rfl (tc_one [(id, at_)]) (by unfold maxLen; omega) (by omega) ?_; intro A2 c2 w3 hS2; have y0 : w3.cell? ⟨g, 0, none⟩ = some (.slice (some ⟨b, 0, none⟩) K.length c) := hS2.r3.blk.cell 0; clear z0 z1 z2 hS1)
            | (at_builtin; refine wpList_appS rfl (.tmp 70) (.tmp 76) 56 rfl 61 jj _ 2 16 Try.underlying56 hjj iz isz iby rfl (by decide) rfl hS2 rfl (hS2.r4.rd.drop hk) s2 (by unfold maxLen; omega) (by omega) ?_; intro A3 c3 w4 hS3; have u0 : w4.cell? ⟨g, 0, none⟩ = some (.slice (some ⟨b, 0, none⟩) K.length c) := hS3.r3.blk.cell 0; have f1 : w4.frozen? ⟨g, 0, none⟩ = false := hS3.r3.blk.free 0; have HF := Lib.hid ((hS3.r3.set 0 (.slice A3 (k + 1 + (K.length - k)) c3)).r4.tail.r3.tail); clear y0 hS2 hS3))
          go_ret
          rw [HPR.out, HQ.out]
          rw [tc_take, tc_drop, show tc (K.take k) ++ [Value.int .i64 id, .int .i64 at_] ++ tc (K.drop k) = tc (K.take k ++ [(id, at_)] ++ K.drop k) from by rw [tc_append, tc_append]; rfl] at HF
          exact ⟨rfl, Sat.closeW (by simp only [List.length_append, List.length_take, List.length_drop, List.length_cons, List.length_nil]; omega) HF.out⟩
      · obtain rfl : k = K.length := by omega
        have HQ : Hid (firstN K (fun y => !bef y (id, at_)) = K.length) := first_none (p := fun y => !bef y (id, at_)) fun j hj => ha j hj hj
        clear ha hT
        go_wp2_with fail
        refine wp_region_in HIN.out (by kernel_rfl) (by kernel_rfl) ?_
        repeat go_big_quiet_step (fail)
        refine wpQuiet_nil ?_
        intro w7 hw'
        obtain ⟨x7, hw7⟩ := hw'
        have h7 := x7.ok
        rw [← hw7] at h7
        have h8 := HOP.out _ h7
        clear hw7 x7 h7 f0 fq0 fq1 hne HIN HOP
        cases A with
        | none =>
          obtain ⟨hn0, hc0, _⟩ := h8.r3.rowNone
          clear hn0 hc0
          have x0 : w7.cell? ⟨g, 0, none⟩ = some (.slice none K.length c) := h8.r2.blk.cell 0
          have x1 : w7.cell? ⟨q, 0, none⟩ = some (.int .i64 id) := h8.blk.cell 0
          have x2 : w7.cell? ⟨q, 1, none⟩ = some (.int .i64 at_) := h8.blk.cell 1
          have s1 : ∀ u ∈ (tc K).take (K.length * 2), u.oneCell' = true := fun u hu => tc_one K u (List.mem_of_mem_take hu)
          have s2 : ∀ u ∈ (tc K).drop (K.length * 2), u.oneCell' = true := fun u hu => tc_one K u (List.mem_of_mem_drop hu)
          have H8 := Lib.hid h8
          clear h8
          go_wp2_with (first
            | (at_builtin; refine wpList_appS rfl (.tmp 58) (.tmp 64) 56 rfl 61 jj _ 2 16 Try.underlying56 hjj iz isz iby rfl (by decide) rfl (H8.out.nilRow 61 2) rfl (H8.out.r3.rd.take (Nat.le_refl _)) s1 (by unfold maxLen; omega) (by omega) ?_; intro A1 c1 w2 hS1; have z0 : w2.cell? ⟨g, 0, none⟩ = some (.slice none K.length c) := hS1.r3.blk.cell 0; have z1 : w2.cell? ⟨q, 0, none⟩ = some (.int .i64 id) := hS1.r2.blk.cell 0; have z2 : w2.cell? ⟨q, 1, none⟩ = some (.int .i64 at_) := hS1.r2.blk.cell 1; rw [Nat.zero_add, List.nil_append] at hS1; clear x0 x1 x2)
            | (at_builtin; refine wpList_app1 rfl (.tmp 66) (.tmp 68) 56 rfl 61 jj _ 2 16 Try.underlying56 hjj iz isz iby rfl (by decide) rfl (hS1.new #[.int .i64 id, .int .i64 at_] 61) (by rfl) rfl (tc_one [(id, at_)]) (by unfold maxLen; omega) (by omega) ?_; intro A2 c2 w3 hS2; have y0 : w3.cell? ⟨g, 0, none⟩ = some (.slice none K.length c) := hS2.r3.blk.cell 0; clear z0 z1 z2 hS1)
            | (at_builtin; refine wpList_appS rfl (.tmp 70) (.tmp 76) 56 rfl 61 jj _ 2 16 Try.underlying56 hjj iz isz iby rfl (by decide) rfl hS2 rfl (Rd.none_ _ _ 2) (by simp) (by unfold maxLen; omega) (by omega) ?_; intro A3 c3 w4 hS3; have u0 : w4.cell? ⟨g, 0, none⟩ = some (.slice none K.length c) := hS3.r3.blk.cell 0; have f1 : w4.frozen? ⟨g, 0, none⟩ = false := hS3.r3.blk.free 0; have HF := Lib.hid ((hS3.r3.set 0 (.slice A3 (K.length + 1 + 0) c3)).r4.tail.r3.tail); clear y0 hS2 hS3))
          go_ret
          rw [HPR.out, HQ.out]
          rw [tc_take, List.append_nil, Nat.add_zero, show tc (K.take K.length) ++ [Value.int .i64 id, .int .i64 at_] = tc (K.take K.length ++ [(id, at_)] ++ K.drop K.length) from by rw [List.drop_length, List.append_nil, tc_append]; rfl] at HF
          exact ⟨rfl, Sat.closeW (by simp only [List.length_append, List.length_take, List.length_drop, List.length_cons, List.length_nil]; omega) HF.out⟩
        | some a =>
          obtain ⟨b, cur, rfl, _⟩ := h8.r3.rowBlk
          by_cases hcq : c = K.length
          · have x0 : w7.cell? ⟨g, 0, none⟩ = some (.slice (some ⟨b, 0, none⟩) K.length c) := h8.r2.blk.cell 0
            have x1 : w7.cell? ⟨q, 0, none⟩ = some (.int .i64 id) := h8.blk.cell 0
            have x2 : w7.cell? ⟨q, 1, none⟩ = some (.int .i64 at_) := h8.blk.cell 1
            have s1 : ∀ u ∈ (tc K).take (K.length * 2), u.oneCell' = true := fun u hu => tc_one K u (List.mem_of_mem_take hu)
            have s2 : ∀ u ∈ (tc K).drop (K.length * 2), u.oneCell' = true := fun u hu => tc_one K u (List.mem_of_mem_drop hu)
            have H8 := Lib.hid h8
            clear h8
            go_wp2_with (first
              | (at_builtin; refine wpList_appS rfl (.tmp 58) (.tmp 64) 56 rfl 61 jj _ 2 16 Try.underlying56 hjj iz isz iby rfl (by decide) rfl (H8.out.nilRow 61 2) rfl (H8.out.r3.rd.take (Nat.le_refl _)) s1 (by unfold maxLen; omega) (by omega) ?_; intro A1 c1 w2 hS1; have z0 : w2.cell? ⟨g, 0, none⟩ = some (.slice (some ⟨b, 0, none⟩) K.length c) := hS1.r3.blk.cell 0; have z1 : w2.cell? ⟨q, 0, none⟩ = some (.int .i64 id) := hS1.r2.blk.cell 0; have z2 : w2.cell? ⟨q, 1, none⟩ = some (.int .i64 at_) := hS1.r2.blk.cell 1; rw [Nat.zero_add, List.nil_append] at hS1; clear x0 x1 x2)
              | (at_builtin; refine wpList_app1 rfl (.tmp 66) (.tmp 68) 56 rfl 61 jj _ 2 16 Try.underlying56 hjj iz isz iby rfl (by decide) rfl (hS1.new #[.int .i64 id, .int .i64 at_] 61) (by rfl) rfl (tc_one [(id, at_)]) (by unfold maxLen; omega) (by omega) ?_; intro A2 c2 w3 hS2; have y0 : w3.cell? ⟨g, 0, none⟩ = some (.slice (some ⟨b, 0, none⟩) K.length c) := hS2.r3.blk.cell 0; clear z0 z1 z2 hS1)
              | (at_builtin; refine wpList_appS rfl (.tmp 70) (.tmp 76) 56 rfl 61 jj _ 2 16 Try.underlying56 hjj iz isz iby rfl (by decide) rfl hS2 rfl (Rd.none_ _ _ 2) (by simp) (by unfold maxLen; omega) (by omega) ?_; intro A3 c3 w4 hS3; have u0 : w4.cell? ⟨g, 0, none⟩ = some (.slice (some ⟨b, 0, none⟩) K.length c) := hS3.r3.blk.cell 0; have f1 : w4.frozen? ⟨g, 0, none⟩ = false := hS3.r3.blk.free 0; have HF := Lib.hid ((hS3.r3.set 0 (.slice A3 (K.length + 1 + 0) c3)).r4.tail.r3.tail); clear y0 hS2 hS3))
            go_ret
            rw [HPR.out, HQ.out]
            rw [tc_take, List.append_nil, Nat.add_zero, show tc (K.take K.length) ++ [Value.int .i64 id, .int .i64 at_] = tc (K.take K.length ++ [(id, at_)] ++ K.drop K.length) from by rw [List.drop_length, List.append_nil, tc_append]; rfl] at HF
            exact ⟨rfl, Sat.closeW (by simp only [List.length_append, List.length_take, List.length_drop, List.length_cons, List.length_nil]; omega) HF.out⟩
          · have x0 : w7.cell? ⟨g, 0, none⟩ = some (.slice (some ⟨b, 0, none⟩) K.length c) := h8.r2.blk.cell 0
            have x1 : w7.cell? ⟨q, 0, none⟩ = some (.int .i64 id) := h8.blk.cell 0
            have x2 : w7.cell? ⟨q, 1, none⟩ = some (.int .i64 at_) := h8.blk.cell 1
            have s1 : ∀ u ∈ (tc K).take (K.length * 2), u.oneCell' = true := fun u hu => tc_one K u (List.mem_of_mem_take hu)
            have s2 : ∀ u ∈ (tc K).drop (K.length * 2), u.oneCell' = true := fun u hu => tc_one K u (List.mem_of_mem_drop hu)
            have H8 := Lib.hid h8
            clear h8
            go_wp2_with (first
              | (at_builtin; refine wpList_appS rfl (.tmp 58) (.tmp 64) 56 rfl 61 jj _ 2 16 Try.underlying56 hjj iz isz iby rfl (by decide) rfl (H8.out.nilRow 61 2) rfl (H8.out.r3.rd.take (Nat.le_refl _)) s1 (by unfold maxLen; omega) (by omega) ?_; intro A1 c1 w2 hS1; have z0 : w2.cell? ⟨g, 0, none⟩ = some (.slice (some ⟨b, 0, none⟩) K.length c) := hS1.r3.blk.cell 0; have z1 : w2.cell? ⟨q, 0, none⟩ = some (.int .i64 id) := hS1.r2.blk.cell 0; have z2 : w2.cell? ⟨q, 1, none⟩ = some (.int .i64 at_) := hS1.r2.blk.cell 1; rw [Nat.zero_add, List.nil_append] at hS1; clear x0 x1 x2)
              | (at_builtin; refine wpList_app1 rfl (.tmp 66) (.tmp 68) 56 rfl 61 jj _ 2 16 Try.underlying56 hjj iz isz iby rfl (by decide) rfl (hS1.new #[.int .i64 id, .int .i64 at_] 61) (by rfl) rfl (tc_one [(id, at_)]) (by unfold maxLen; omega) (by omega) ?_; intro A2 c2 w3 hS2; have y0 : w3.cell? ⟨g, 0, none⟩ = some (.slice (some ⟨b, 0, none⟩) K.length c) := hS2.r3.blk.cell 0; clear z0 z1 z2 hS1)
              | (at_builtin; refine wpList_appS rfl (.tmp 70) (.tmp 76) 56 rfl 61 jj _ 2 16 Try.underlying56 hjj iz isz iby rfl (by decide) rfl hS2 rfl (Rd.none_ _ _ 2) (by simp) (by unfold maxLen; omega) (by omega) ?_; intro A3 c3 w4 hS3; have u0 : w4.cell? ⟨g, 0, none⟩ = some (.slice (some ⟨b, 0, none⟩) K.length c) := hS3.r3.blk.cell 0; have f1 : w4.frozen? ⟨g, 0, none⟩ = false := hS3.r3.blk.free 0; have HF := Lib.hid ((hS3.r3.set 0 (.slice A3 (K.length + 1 + 0) c3)).r4.tail.r3.tail); clear y0 hS2 hS3))
            go_ret
            rw [HPR.out, HQ.out]
            rw [tc_take, List.append_nil, Nat.add_zero, show tc (K.take K.length) ++ [Value.int .i64 id, .int .i64 at_] = tc (K.take K.length ++ [(id, at_)] ++ K.drop K.length) from by rw [List.drop_length, List.append_nil, tc_append]; rfl] at HF
            exact ⟨rfl, Sat.closeW (by simp only [List.length_append, List.length_take, List.length_drop, List.length_cons, List.length_nil]; omega) HF.out⟩
/-- no timer of this id is left behind a Stop -/
def GoneId (L : List Tm) (id : Int) : Prop := ∀ y ∈ stopL L id, y.1 ≠ id
theorem rset_any (id at_ : Int) (hS : Sat w0 w (WheelC g 58 61 L :: F)) (hm : L.length ≤ 200) (hd : GoneId L id) :
    Calls Try.prog 16 #[.pointer (some ⟨g, 0, none⟩), .int .i64 id, .int .i64 at_] w fun e w' => e = .returned (.int .i64 (setC L id at_)) ∧ Sat w0 w' (WheelC g 58 61 (setL L id at_) :: F) := by
  by_cases h : 0 ≤ id ∧ 0 ≤ at_ ∧ at_ ≤ 1073741824
  · by_cases hf : stopB L id = false ∧ L.length = 200
    · have e1 : setC L id at_ = 2 := by unfold setC; rw [if_pos h, if_pos hf]
      have e2 : setL L id at_ = L := by unfold setL; rw [if_pos h, if_pos hf]
      refine (rset_full id at_ hS hf.2 hf.1 h.1 h.2.1 h.2.2).mono ?_
      rintro e w' ⟨rfl, rfl⟩
      rw [e1, e2]
      exact ⟨rfl, hS⟩
    · have e1 : setC L id at_ = 0 := by unfold setC; rw [if_pos h, if_neg hf]
      have e2 : setL L id at_ = putR (stopL L id) (id, at_) := by
        unfold setL
        rw [if_pos h, if_neg hf]
        unfold putL putR
        rw [first_congr (q := fun y => !bef y (id, at_)) fun y hy => after_bef (id, at_) y (hd y hy)]
      rw [e1, e2]
      exact rset_ok id at_ hS hm hf h.1 h.2.1 h.2.2
  · have e1 : setC L id at_ = 1 := by unfold setC; rw [if_neg h]
    have e2 : setL L id at_ = L := by unfold setL; rw [if_neg h]
    refine (rset_bad id at_ w h).mono ?_
    rintro e w' ⟨rfl, rfl⟩
    rw [e1, e2]
    exact ⟨rfl, hS⟩
end
end Go.Proofs.Ytnjhnchjlecdoaa
