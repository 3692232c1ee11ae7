/- The program's keys. -/
import Derived.Test.YtpmoanjeoaeabaaDoorCK
import Derived.Test.YtpmoanjeoaeabaaDoorInv
import Derived.Test.YtpmoanjeoaeabaaDoorNW
set_option linter.unusedVariables false
set_option linter.unusedSimpArgs false
set_option linter.unnecessarySimpa false
set_option maxRecDepth 100000
namespace Go.Proofs.YtpmoanjeoaeabaaDoor
open Go.RowKit Go.ChangeShapes Go.WideShapes Go.ChangeAt
set_option maxHeartbeats 1600000 in
theorem keys_any {w : World} (s : St) (hs : StAt w s) (hz : ∀ k ∈ s.keys, k.size ≤ 140737488351232) (hT : Lib.Utf8Tabs 0 1 w) :
    Calls Tryd.prog 67 #[s.v] w fun e w' => e = .returned (.bool (keysB s.keys s.part)) ∧ Below w.heap.size w w' := by
  have hE := Lib.hid hs.keys
  have HU := Lib.hid hT
  have h1 := (Sat.start w).new #[.string s.name, .int .i64 s.kind, .int .i64 s.part, .slice s.kA s.keys.length s.kc, .slice s.nA s.needs.length s.nc] 35
  obtain ⟨b, hb⟩ : ∃ b, w.heap.size = b := ⟨_, rfl⟩
  unfold St.v
  obtain ⟨l, hL⟩ : ∃ l, s.keys = l := ⟨_, rfl⟩
  obtain ⟨p, hP⟩ : ∃ l, s.part = l := ⟨_, rfl⟩
  rw [hL, hP] at h1 ⊢
  rw [hL] at hE hz
  rw [hb] at h1
  have H1 := Lib.hid h1
  have HZ := Lib.hid hz
  clear hL hP h1 hs hz hT
  by_cases h2 : 2 < l.length
  · have t2 : decide ((2 : Int) < (l.length : Int)) = true := decide_eq_true (by omega)
    have e : keysB l p = false := decide_eq_false fun g => by omega
    go_enter Tryd.func67, Tryd.ntmps67
    go_wp2_with fail
    go_ret
    exact ⟨by first | rfl | (rw [e]; rfl), by have h9 := H1.out.old (by simp); first | exact h9 | (rw [← hb] at h9; exact h9) | (rw [hb] at h9; exact h9) | (simp only [hb] at h9 ⊢; exact h9)⟩
  have t2 : decide ((2 : Int) < (l.length : Int)) = false := decide_eq_false (by omega)
  go_enter Tryd.func67, Tryd.ntmps67
  go_wp2_with fail
  try simp only [hb]
  go_loopw [12] (RkRel w b [.string s.name, .int .i64 s.kind, .int .i64 p, .slice s.kA l.length s.kc, .slice s.nA s.needs.length s.nc] l p) (fun x _ => l.length - (intOf x).toNat)
  case atStart => exact ⟨0, Nat.zero_le _, rfl, H1.out, fun j hj => by omega⟩
  case round =>
    obtain ⟨k, hk, rfl, hT, hok⟩ := hrel
    clear H1
    have h9 := hT.old (List.mem_cons_of_mem _ List.mem_cons_self)
    have b3 : wr.cell? ⟨b, 3, none⟩ = some (.slice s.kA l.length s.kc) := hT.blk.cell 3
    by_cases hlt : k < l.length
    · obtain ⟨b2, o2, hkA, hcell⟩ := key_cells (hE.out.keep h9) (by omega)
      have c0 := hcell k hlt
      have hx : l[k] = keyAt l k := List.getElem_eq_getD (h := hlt) _
      have hzk := HZ.out _ (List.getElem_mem hlt)
      rw [hx] at c0 hzk
      have HNO := Lib.hid (fun h => keys_no (p := p) hlt h)
      obtain ⟨V, hV⟩ : ∃ V : List Value, V = [.string s.name, .int .i64 s.kind, .int .i64 p, .slice s.kA l.length s.kc, .slice s.nA s.needs.length s.nc] := ⟨_, rfl⟩
      obtain ⟨L, hL⟩ : ∃ L, L = [Blk b 35 V, Old w] := ⟨_, rfl⟩
      have hIn : Sat w wr L := by rw [hL, hV]; exact hT
      have op : ∀ w', Sat w w' L → Sat w w' [Blk b 35 V, Old w] := fun w' h => by rw [hL] at h; exact h
      have ob : ∀ x : In w L, Below w.heap.size w x.w := fun x => (op _ x.ok).old (by simp)
      have f2 : ∀ x : In w L, x.w.cell? ⟨b, 2, none⟩ = some (.int .i64 p) := fun x => by rw [(op _ x.ok).blk.cell 2, hV]; rfl
      have f3 : ∀ x : In w L, x.w.cell? ⟨b, 3, none⟩ = some (.slice (some ⟨b2, o2, none⟩) l.length s.kc) := fun x => by rw [(op _ x.ok).blk.cell 3, hV, ← hkA]; rfl
      have HIN := Lib.hid hIn
      have HOP := Lib.hid (fun w' (h : Sat w w' L) => show Sat w w' [Blk b 35 V, Old w] from op _ h)
      have HV := Lib.hid hV
      have FPV : Hid (0 < k → ∀ x : In w L, x.w.cell? ⟨b2, o2 + (k - 1), none⟩ = some (.string (keyAt l (k - 1)))) := fun h x => by
        obtain ⟨b3, o3, e3, hc3⟩ := key_cells (hE.out.keep (ob x)) (by omega)
        rw [hkA] at e3
        cases e3
        rw [hc3 (k - 1) (by omega)]
        exact congrArg some (congrArg Value.string (List.getElem_eq_getD (h := by omega) _))
      have HOK := Lib.hid hok
      have HZK := Lib.hid hzk
      have C36 : Hid (∀ x : In w L, Calls Tryd.prog 36 #[.string (keyAt l k)] x.w fun e w' => e = .returned (.bool (isN (keyAt l k))) ∧ ∃ y : In w L, w' = y.w) := fun x => Calls.in_below (is_any (keyAt l k) x.w hzk)
      have C93 : Hid ((keyAt l k).size ≤ 4194304 → ∀ x : In w L, Calls Tryd.prog 93 #[.string (keyAt l k)] x.w fun e w' => e = .returned (.int .i64 (ownN (keyAt l k) : Nat)) ∧ ∃ y : In w L, w' = y.w) := fun h x => Calls.in_below (owner_any (keyAt l k) x.w h)
      have C89 : Hid ((keyAt l (k - 1)).size ≤ 140737488351232 → ∀ x : In w L, Calls Tryd.prog 89 #[.string (keyAt l (k - 1)), .string (keyAt l k)] x.w fun e w' => e = .returned (.int .i64 (cmpN (keyAt l (k - 1)) (keyAt l k))) ∧ ∃ y : In w L, w' = y.w) := fun h x => Calls.in_below (compare_any _ _ x.w (tabs_keep HU.out (ob x)) h hzk)
      haveI hne : Nonempty (In w L) := ⟨⟨_, hIn⟩⟩
      rw [hkA]
      have HS : Hid (keyOk l p k → ∀ j, j < k + 1 → keyOk l p j) := fun g j hj => by
        by_cases e : j = k
        · subst e; exact g
        · exact HOK.out j (by omega)
      have HSH : Hid (isN (keyAt l k) = true → (keyAt l k).size ≤ 32) := fun h => is_short h
      have HSP : Hid (0 < k → (keyAt l (k - 1)).size ≤ 32) := fun h => is_short (hok (k - 1) (by omega)).1
      have HKO : Hid (keyOk l p k ↔ isN (keyAt l k) = true ∧ (ownN (keyAt l k) : Int) = p ∧ (0 < k → cmpN (keyAt l (k - 1)) (keyAt l k) < 0)) := by show _ ↔ _; unfold keyOk; exact Iff.rfl
      clear hV op hIn hT hok h9 b3 hx hcell hzk
      obtain ⟨x, hX⟩ : ∃ x, keyAt l k = x := ⟨_, rfl⟩
      obtain ⟨z, hZ⟩ : ∃ x, keyAt l (k - 1) = x := ⟨_, rfl⟩
      obtain ⟨q, hQ⟩ : ∃ q, ownN x = q := ⟨_, rfl⟩
      obtain ⟨cv, hcv⟩ : ∃ c, cmpN z x = c := ⟨_, rfl⟩
      obtain ⟨iv, hiv⟩ : ∃ c, isN x = c := ⟨_, rfl⟩
      rw [hX] at c0 C36 C93 C89 HSH HKO
      rw [hZ] at FPV C89 HSP HKO
      rw [hQ] at C93 HKO
      rw [hcv] at C89 HKO
      rw [hiv] at C36 HSH HKO
      clear hX hZ hQ hcv hiv hL ob
      cases iv with
      | false =>
        have e : keysB l p = false := HNO.out fun g => by have := (HKO.out.1 g).1; cases this
        have c36 := C36.out
        go_wp2_with fail
        refine wp_region_in HIN.out (by kernel_rfl) (by kernel_rfl) ?_
        repeat go_big_quiet_step ((first | (go_at_call 36; exact c36 _)))
        refine wpQuiet_nil ?_
        intro w7 hw'
        obtain ⟨x7, hw7⟩ := hw'
        have h7 := x7.ok
        rw [← hw7] at h7
        have H8 := Lib.hid (HOP.out _ h7)
        clear hw7 x7 h7 f2 f3 hne c36
        go_wp2_with fail
        go_ret
        exact ⟨by first | rfl | (rw [e]; rfl), by have h9 := H8.out.old (by simp); first | exact h9 | (rw [hb] at h9; exact h9)⟩
      | true =>
        have c36 := C36.out
        have hsh := HSH.out rfl
        have c93 := C93.out (by omega)
        by_cases hqp : (q : Int) = p
        · have t3 : ((q : Int) != p) = false := by rw [hqp]; simp
          have HQP := Lib.hid hqp
          clear hqp
          by_cases h0 : k = 0
          · have tk : decide ((0 : Int) < (k : Int)) = false := decide_eq_false (by omega)
            have tk2 : decide (0 < k) = false := decide_eq_false (by omega)
            have H0 := Lib.hid h0
            clear h0
            go_wp2_with fail
            refine wp_region_in HIN.out (by kernel_rfl) (by kernel_rfl) ?_
            repeat go_big_quiet_step ((first | (go_at_call 36; exact c36 _) | (go_at_call 93; exact c93 _)))
            refine wpQuiet_nil ?_
            intro w7 hw'
            obtain ⟨x7, hw7⟩ := hw'
            have h7 := x7.ok
            rw [← hw7] at h7
            have H8 := Lib.hid (HOP.out _ h7)
            clear hw7 x7 h7 f2 f3 hne c36 c93
            go_wp2_with fail
            go_roundw
            case rel => exact ⟨k + 1, by omega, by go_num, by rw [← hkA, ← HV.out]; exact H8.out, HS.out (HKO.out.2 ⟨by first | trivial | rfl, HQP.out, fun h => by have := H0.out; omega⟩)⟩
            case measure => simp [intOf]; omega
          · have f4 := FPV.out (by omega)
            have hsp := HSP.out (by omega)
            have c89 := C89.out (by omega)
            have tk1 : decide ((0 : Int) < (k : Int)) = true := decide_eq_true (by omega)
            have tk2 : decide (0 < k) = true := decide_eq_true (by omega)
            have hk0 : 0 < k := by omega
            have sw : IntKind.i64.wrap ((k : Int) - 1) = ((k - 1 : Nat) : Int) := by
              rw [show (k : Int) - 1 = ((k - 1 : Nat) : Int) by omega]
              exact IntWalk.i64_in _ (by omega)
            have i0 : (0 : Int) ≤ ((k - 1 : Nat) : Int) := by omega
            have i1 : ((k - 1 : Nat) : Int) < (l.length : Int) := by omega
            have i2 : (0 : Int) ≤ (k : Int) := by omega
            have i3 : (k : Int) < (l.length : Int) := by omega
            clear h0 hsh hsp
            by_cases hc : 0 ≤ cv
            · have t4 : decide (0 ≤ cv) = true := decide_eq_true hc
              have e : keysB l p = false := HNO.out fun g => by have := (HKO.out.1 g).2.2 hk0; omega
              clear hc
              go_wp2_with fail
              refine wp_region_in HIN.out (by kernel_rfl) (by kernel_rfl) ?_
              repeat go_big_quiet_step ((first | (go_at_call 36; exact c36 _) | (go_at_call 93; exact c93 _) | (go_at_call 89; exact c89 _)))
              refine wpQuiet_nil ?_
              intro w7 hw'
              obtain ⟨x7, hw7⟩ := hw'
              have h7 := x7.ok
              rw [← hw7] at h7
              have H8 := Lib.hid (HOP.out _ h7)
              clear hw7 x7 h7 f2 f3 hne c36 c93 c89 f4
              go_wp2_with fail
              go_ret
              exact ⟨by first | rfl | (rw [e]; rfl), by have h9 := H8.out.old (by simp); first | exact h9 | (rw [hb] at h9; exact h9)⟩
            · have t4 : decide (0 ≤ cv) = false := decide_eq_false hc
              have HC := Lib.hid hc
              clear hc
              go_wp2_with fail
              refine wp_region_in HIN.out (by kernel_rfl) (by kernel_rfl) ?_
              repeat go_big_quiet_step ((first | (go_at_call 36; exact c36 _) | (go_at_call 93; exact c93 _) | (go_at_call 89; exact c89 _)))
              refine wpQuiet_nil ?_
              intro w7 hw'
              obtain ⟨x7, hw7⟩ := hw'
              have h7 := x7.ok
              rw [← hw7] at h7
              have H8 := Lib.hid (HOP.out _ h7)
              clear hw7 x7 h7 f2 f3 hne c36 c93 c89 f4
              go_wp2_with fail
              go_roundw
              case rel => exact ⟨k + 1, by omega, by go_num, by rw [← hkA, ← HV.out]; exact H8.out, HS.out (HKO.out.2 ⟨by first | trivial | rfl, HQP.out, fun _ => by have := HC.out; omega⟩)⟩
              case measure => simp [intOf]; omega
        · have t3 : ((q : Int) != p) = true := by rw [bne_iff_ne]; exact hqp
          have e : keysB l p = false := HNO.out fun g => hqp (HKO.out.1 g).2.1
          clear hqp
          go_wp2_with fail
          refine wp_region_in HIN.out (by kernel_rfl) (by kernel_rfl) ?_
          repeat go_big_quiet_step ((first | (go_at_call 36; exact c36 _) | (go_at_call 93; exact c93 _)))
          refine wpQuiet_nil ?_
          intro w7 hw'
          obtain ⟨x7, hw7⟩ := hw'
          have h7 := x7.ok
          rw [← hw7] at h7
          have H8 := Lib.hid (HOP.out _ h7)
          clear hw7 x7 h7 f2 f3 hne c36 c93
          go_wp2_with fail
          go_ret
          exact ⟨by first | rfl | (rw [e]; rfl), by have h9 := H8.out.old (by simp); first | exact h9 | (rw [hb] at h9; exact h9)⟩
    · obtain rfl : k = l.length := by omega
      have e : keysB l p = true := decide_eq_true ⟨by omega, hok⟩
      go_wp2_with fail
      go_ret
      exact ⟨by first | rfl | (rw [e]; rfl), by first | exact h9 | (rw [hb] at h9; exact h9)⟩
end Go.Proofs.YtpmoanjeoaeabaaDoor
