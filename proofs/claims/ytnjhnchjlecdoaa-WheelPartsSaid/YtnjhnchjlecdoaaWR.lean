/- The law WheelParts: the walk. -/
import Derived.Test.YtnjhnchjlecdoaaWQ
set_option linter.unusedVariables false
set_option linter.unusedSimpArgs false
set_option linter.unnecessarySimpa false
set_option maxRecDepth 100000
namespace Go.Proofs.Ytnjhnchjlecdoaa
open Go.RowKit Go.ChangeShapes Go.WideShapes Go.ChangeAt
set_option maxHeartbeats 6400000 in
theorem wheelParts_walk (A : Option Addr) (n c : Nat) (l : List TOp) (a b : Int) (w : World) (w0 : OpsAt w A n c l) (_ : n * 24 ≤ 140737488351232) (w1 : (Lit.int .i64 a).wf = true) (w2 : (Lit.int .i64 b).wf = true) :
    Calls Try.prog 4 #[.slice A n c, .int .i64 a, .int .i64 b] w fun e w' => e = .returned (.bool true) ∧ Below w.heap.size w w' := by
  obtain ⟨ii, hii, hz, hsz, hby⟩ := info_parts info3
  have HC1 := Lib.hid (set_any A n c l false (Sat.start w) (by simp) w0)
  have HC2 := Lib.hid (fun (w1 : World) (F : List HP) (h : Sat w w1 F) (hO : Old w ∈ F) => set_any A n c l false h hO w0)
  have HSM := sets_small l false l.length
  obtain ⟨K, hK⟩ : ∃ K, setsL l false l.length = K := ⟨_, rfl⟩
  rw [hK] at HC1 HC2 HSM
  have hkl := HSM.fine.len
  clear hK w0 w1 w2 HSM
  rcases Int.lt_trichotomy a b with hcmp | hcmp | hcmp
  · obtain ⟨z, hz0⟩ : ∃ z : Int, z = b := ⟨_, rfl⟩
    have hab : (a : Int) ≤ z := by omega
    obtain ⟨p1, p2, p3⟩ := due_parts K hab
    obtain ⟨Q, hQ1, hQ2, hQ3⟩ := due_nums K z hkl
    have hone2 : ∀ u ∈ ids ((K.drop (dueN K a)).take (dueN (K.drop (dueN K a)) z)), u.oneCell' = true := by
      intro u hu
      unfold ids at hu
      obtain ⟨x, _, rfl⟩ := List.mem_map.1 hu
      rfl
    have HA := Lib.hid (fun (w1 : World) (g : Nat) (G : List HP) (h : Sat w w1 (WheelC g 48 50 K :: G)) => wdue_any a h (by omega))
    have HB := Lib.hid (fun (w1 : World) (g : Nat) (G : List HP) (h : Sat w w1 (WheelC g 48 50 (K.drop (dueN K a)) :: G)) => wdue_any z h (by rw [List.length_drop]; omega))
    have HY := Lib.hid (fun (w1 : World) (g : Nat) (G : List HP) (h : Sat w w1 (WheelC g 48 50 K :: G)) => wdue_any z h (by omega))
    rw [hQ1] at p1
    rw [hQ1] at HY
    rw [p2] at HB
    obtain ⟨R, hR⟩ : ∃ R, K.drop (dueN K z) = R := ⟨_, rfl⟩
    rw [hR] at HY HB
    obtain ⟨K2, hK2⟩ : ∃ K2, K.drop (dueN K a) = K2 := ⟨_, rfl⟩
    rw [hK2] at HA HB p1 p3 hone2
    obtain ⟨X1, hX1⟩ : ∃ X, ids (K.take (dueN K a)) = X := ⟨_, rfl⟩
    obtain ⟨X2, hX2⟩ : ∃ X, ids (K2.take (dueN K2 z)) = X := ⟨_, rfl⟩
    rw [hX1] at HA p1
    rw [hX2] at HB p1 hone2
    rw [← hQ2] at HY p3
    obtain ⟨n1, hn1⟩ : ∃ x, dueN K a = x := ⟨_, rfl⟩
    obtain ⟨n2, hn2⟩ : ∃ x, dueN K2 z = x := ⟨_, rfl⟩
    rw [hn1] at HA p3
    rw [hn2] at HB p3
    have HP1 := Lib.hid p1
    have HP3 := Lib.hid p3
    have i1 : (((R.length : Nat) : Int) == ((R.length : Nat) : Int)) = true := by simp
    have h4 : n1 + n2 ≤ maxLen := by unfold maxLen; omega
    have h5 : (n1 + n2) * 8 ≤ 140737488355328 := by omega
    clear p1 p2 hQ1 hQ2 hR hK2 hX1 hX2 hn1 hn2 hab p3
    rw [hz0] at HB HY
    clear hz0
    go_enter Try.func4, Try.ntmps4
    go_wp2_with fail
    refine HC1.out.mono ?_
    rintro e w1 ⟨g, rfl, h1⟩
    go_wp2_with fail
    refine (HC2.out _ _ h1 (by simp)).mono ?_
    rintro e w2 ⟨r, rfl, h2⟩
    clear HC1 HC2 h1
    go_wp2_with fail
    refine (HA.out _ g _ h2.r2).mono ?_
    rintro e w3 ⟨A1, c1, rfl, h3⟩
    clear HA h2 hcmp
    go_wp2_with fail
    refine (HB.out _ g _ h3.r2).mono ?_
    rintro e w4 ⟨A2, c2, rfl, h4'⟩
    clear HB h3
    go_wp2_with (at_builtin; refine wpList_appS rfl (.tmp 29) (.tmp 32) 33 rfl 3 ii (.int .i64 0) 1 8 Try.underlying33 hii hz hsz hby rfl (by decide) rfl h4'.r3 rfl h4'.rd hone2 h4 h5 ?_; intro A3 c3 w5 h5')
    rw [HP3.out, HP1.out] at h5'
    refine (HY.out _ r _ h5'.r4).mono ?_
    rintro e w6 ⟨A4, c4, rfl, h6⟩
    have HSM := Lib.hid (same_yes h6.r3 (by omega))
    rw [← HP3.out] at HSM ⊢
    clear HY h5' h4'
    go_wp2_with fail
    refine HSM.out.mono ?_
    rintro e w7 ⟨rfl, h8⟩
    clear HSM h6
    go_wp2_with fail
    refine (wlen_any h8.r5).mono ?_
    rintro e v8 ⟨rfl, rfl⟩
    go_wp2_with fail
    refine (wlen_any h8.r3).mono ?_
    rintro e v9 ⟨rfl, rfl⟩
    go_wp2_with fail
    go_ret
    exact ⟨rfl, h8.old (by simp)⟩
  · subst hcmp
    have hcmp := True.intro
    obtain ⟨z, hz0⟩ : ∃ z : Int, z = a := ⟨_, rfl⟩
    have hab : (a : Int) ≤ z := by omega
    obtain ⟨p1, p2, p3⟩ := due_parts K hab
    obtain ⟨Q, hQ1, hQ2, hQ3⟩ := due_nums K z hkl
    have hone2 : ∀ u ∈ ids ((K.drop (dueN K a)).take (dueN (K.drop (dueN K a)) z)), u.oneCell' = true := by
      intro u hu
      unfold ids at hu
      obtain ⟨x, _, rfl⟩ := List.mem_map.1 hu
      rfl
    have HA := Lib.hid (fun (w1 : World) (g : Nat) (G : List HP) (h : Sat w w1 (WheelC g 48 50 K :: G)) => wdue_any a h (by omega))
    have HB := Lib.hid (fun (w1 : World) (g : Nat) (G : List HP) (h : Sat w w1 (WheelC g 48 50 (K.drop (dueN K a)) :: G)) => wdue_any z h (by rw [List.length_drop]; omega))
    have HY := Lib.hid (fun (w1 : World) (g : Nat) (G : List HP) (h : Sat w w1 (WheelC g 48 50 K :: G)) => wdue_any z h (by omega))
    rw [hQ1] at p1
    rw [hQ1] at HY
    rw [p2] at HB
    obtain ⟨R, hR⟩ : ∃ R, K.drop (dueN K z) = R := ⟨_, rfl⟩
    rw [hR] at HY HB
    obtain ⟨K2, hK2⟩ : ∃ K2, K.drop (dueN K a) = K2 := ⟨_, rfl⟩
    rw [hK2] at HA HB p1 p3 hone2
    obtain ⟨X1, hX1⟩ : ∃ X, ids (K.take (dueN K a)) = X := ⟨_, rfl⟩
    obtain ⟨X2, hX2⟩ : ∃ X, ids (K2.take (dueN K2 z)) = X := ⟨_, rfl⟩
    rw [hX1] at HA p1
    rw [hX2] at HB p1 hone2
    rw [← hQ2] at HY p3
    obtain ⟨n1, hn1⟩ : ∃ x, dueN K a = x := ⟨_, rfl⟩
    obtain ⟨n2, hn2⟩ : ∃ x, dueN K2 z = x := ⟨_, rfl⟩
    rw [hn1] at HA p3
    rw [hn2] at HB p3
    have HP1 := Lib.hid p1
    have HP3 := Lib.hid p3
    have i1 : (((R.length : Nat) : Int) == ((R.length : Nat) : Int)) = true := by simp
    have h4 : n1 + n2 ≤ maxLen := by unfold maxLen; omega
    have h5 : (n1 + n2) * 8 ≤ 140737488355328 := by omega
    clear p1 p2 hQ1 hQ2 hR hK2 hX1 hX2 hn1 hn2 hab p3
    rw [hz0] at HB HY
    clear hz0
    go_enter Try.func4, Try.ntmps4
    go_wp2_with fail
    refine HC1.out.mono ?_
    rintro e w1 ⟨g, rfl, h1⟩
    go_wp2_with fail
    refine (HC2.out _ _ h1 (by simp)).mono ?_
    rintro e w2 ⟨r, rfl, h2⟩
    clear HC1 HC2 h1
    go_wp2_with fail
    refine (HA.out _ g _ h2.r2).mono ?_
    rintro e w3 ⟨A1, c1, rfl, h3⟩
    clear HA h2 hcmp
    go_wp2_with fail
    refine (HB.out _ g _ h3.r2).mono ?_
    rintro e w4 ⟨A2, c2, rfl, h4'⟩
    clear HB h3
    go_wp2_with (at_builtin; refine wpList_appS rfl (.tmp 29) (.tmp 32) 33 rfl 3 ii (.int .i64 0) 1 8 Try.underlying33 hii hz hsz hby rfl (by decide) rfl h4'.r3 rfl h4'.rd hone2 h4 h5 ?_; intro A3 c3 w5 h5')
    rw [HP3.out, HP1.out] at h5'
    refine (HY.out _ r _ h5'.r4).mono ?_
    rintro e w6 ⟨A4, c4, rfl, h6⟩
    have HSM := Lib.hid (same_yes h6.r3 (by omega))
    rw [← HP3.out] at HSM ⊢
    clear HY h5' h4'
    go_wp2_with fail
    refine HSM.out.mono ?_
    rintro e w7 ⟨rfl, h8⟩
    clear HSM h6
    go_wp2_with fail
    refine (wlen_any h8.r5).mono ?_
    rintro e v8 ⟨rfl, rfl⟩
    go_wp2_with fail
    refine (wlen_any h8.r3).mono ?_
    rintro e v9 ⟨rfl, rfl⟩
    go_wp2_with fail
    go_ret
    exact ⟨rfl, h8.old (by simp)⟩
  · obtain ⟨z, hz0⟩ : ∃ z : Int, z = a := ⟨_, rfl⟩
    have hab : (b : Int) ≤ z := by omega
    obtain ⟨p1, p2, p3⟩ := due_parts K hab
    obtain ⟨Q, hQ1, hQ2, hQ3⟩ := due_nums K z hkl
    have hone2 : ∀ u ∈ ids ((K.drop (dueN K b)).take (dueN (K.drop (dueN K b)) z)), u.oneCell' = true := by
      intro u hu
      unfold ids at hu
      obtain ⟨x, _, rfl⟩ := List.mem_map.1 hu
      rfl
    have HA := Lib.hid (fun (w1 : World) (g : Nat) (G : List HP) (h : Sat w w1 (WheelC g 48 50 K :: G)) => wdue_any b h (by omega))
    have HB := Lib.hid (fun (w1 : World) (g : Nat) (G : List HP) (h : Sat w w1 (WheelC g 48 50 (K.drop (dueN K b)) :: G)) => wdue_any z h (by rw [List.length_drop]; omega))
    have HY := Lib.hid (fun (w1 : World) (g : Nat) (G : List HP) (h : Sat w w1 (WheelC g 48 50 K :: G)) => wdue_any z h (by omega))
    rw [hQ1] at p1
    rw [hQ1] at HY
    rw [p2] at HB
    obtain ⟨R, hR⟩ : ∃ R, K.drop (dueN K z) = R := ⟨_, rfl⟩
    rw [hR] at HY HB
    obtain ⟨K2, hK2⟩ : ∃ K2, K.drop (dueN K b) = K2 := ⟨_, rfl⟩
    rw [hK2] at HA HB p1 p3 hone2
    obtain ⟨X1, hX1⟩ : ∃ X, ids (K.take (dueN K b)) = X := ⟨_, rfl⟩
    obtain ⟨X2, hX2⟩ : ∃ X, ids (K2.take (dueN K2 z)) = X := ⟨_, rfl⟩
    rw [hX1] at HA p1
    rw [hX2] at HB p1 hone2
    rw [← hQ2] at HY p3
    obtain ⟨n1, hn1⟩ : ∃ x, dueN K b = x := ⟨_, rfl⟩
    obtain ⟨n2, hn2⟩ : ∃ x, dueN K2 z = x := ⟨_, rfl⟩
    rw [hn1] at HA p3
    rw [hn2] at HB p3
    have HP1 := Lib.hid p1
    have HP3 := Lib.hid p3
    have i1 : (((R.length : Nat) : Int) == ((R.length : Nat) : Int)) = true := by simp
    have h4 : n1 + n2 ≤ maxLen := by unfold maxLen; omega
    have h5 : (n1 + n2) * 8 ≤ 140737488355328 := by omega
    clear p1 p2 hQ1 hQ2 hR hK2 hX1 hX2 hn1 hn2 hab p3
    rw [hz0] at HB HY
    clear hz0
    go_enter Try.func4, Try.ntmps4
    go_wp2_with fail
    refine HC1.out.mono ?_
    rintro e w1 ⟨g, rfl, h1⟩
    go_wp2_with fail
    refine (HC2.out _ _ h1 (by simp)).mono ?_
    rintro e w2 ⟨r, rfl, h2⟩
    clear HC1 HC2 h1
    go_wp2_with fail
    refine (HA.out _ g _ h2.r2).mono ?_
    rintro e w3 ⟨A1, c1, rfl, h3⟩
    clear HA h2 hcmp
    go_wp2_with fail
    refine (HB.out _ g _ h3.r2).mono ?_
    rintro e w4 ⟨A2, c2, rfl, h4'⟩
    clear HB h3
    go_wp2_with (at_builtin; refine wpList_appS rfl (.tmp 29) (.tmp 32) 33 rfl 3 ii (.int .i64 0) 1 8 Try.underlying33 hii hz hsz hby rfl (by decide) rfl h4'.r3 rfl h4'.rd hone2 h4 h5 ?_; intro A3 c3 w5 h5')
    rw [HP3.out, HP1.out] at h5'
    refine (HY.out _ r _ h5'.r4).mono ?_
    rintro e w6 ⟨A4, c4, rfl, h6⟩
    have HSM := Lib.hid (same_yes h6.r3 (by omega))
    rw [← HP3.out] at HSM ⊢
    clear HY h5' h4'
    go_wp2_with fail
    refine HSM.out.mono ?_
    rintro e w7 ⟨rfl, h8⟩
    clear HSM h6
    go_wp2_with fail
    refine (wlen_any h8.r5).mono ?_
    rintro e v8 ⟨rfl, rfl⟩
    go_wp2_with fail
    refine (wlen_any h8.r3).mono ?_
    rintro e v9 ⟨rfl, rfl⟩
    go_wp2_with fail
    go_ret
    exact ⟨rfl, h8.old (by simp)⟩
end Go.Proofs.Ytnjhnchjlecdoaa
