/- The document's keys. -/
import Derived.Test.YtpmoanjeoaeabaaDoorCI
import Derived.Test.YtpmoanjeoaeabaaDoorCJ
import Derived.Deep.RegionHeld3
set_option linter.unusedVariables false
set_option linter.unusedSimpArgs false
set_option linter.unnecessarySimpa false
set_option maxRecDepth 100000
namespace Go.Proofs.YtpmoanjeoaeabaaDoor
open Go.RowKit Go.ChangeShapes Go.WideShapes Go.ChangeAt
def ownN (s : ByteArray) : Nat := sumT (tk s 0) % 4
def cmpN (a b : ByteArray) : Int := NM.cmpT (tk a 0) (tk b 0)
def keyAt (l : List ByteArray) (k : Nat) : ByteArray := l.getD k .empty
def keyOk (l : List ByteArray) (part : Int) (k : Nat) : Prop := isN (keyAt l k) = true ∧ (ownN (keyAt l k) : Int) = part ∧ (0 < k → cmpN (keyAt l (k - 1)) (keyAt l k) < 0)
instance (l : List ByteArray) (p : Int) (k : Nat) : Decidable (keyOk l p k) := by unfold keyOk; infer_instance
def keysB (l : List ByteArray) (part : Int) : Bool := decide (l.length ≤ 2 ∧ ∀ k, k < l.length → keyOk l part k)
def RkRel (W : World) (b : Nat) (V : List Value) (l : List ByteArray) (p : Int) (x : Value) (wr : World) : Prop :=
  ∃ k : Nat, k ≤ l.length ∧ x = .int .i64 k ∧ Sat W wr [Blk b 35 V, Old W] ∧ ∀ j, j < k → keyOk l p j
theorem keys_no {l : List ByteArray} {p : Int} {k : Nat} (hk : k < l.length) (h : ¬ keyOk l p k) : keysB l p = false := decide_eq_false fun g => h (g.2 k hk)
def St.v (s : St) : Value := .agg #[.string s.name, .int .i64 s.kind, .int .i64 s.part, .slice s.kA s.keys.length s.kc, .slice s.nA s.needs.length s.nc]
set_option maxHeartbeats 1600000 in
theorem rkeys_any {w : World} (s : St) (hs : StAt w s) (hz : ∀ k ∈ s.keys, k.size ≤ 140737488351232) :
    Calls Tryd.prog 76 #[s.v] w fun e w' => e = .returned (.bool (keysB s.keys s.part)) ∧ Below w.heap.size w w' := by
  have hE := Lib.hid hs.keys
  have h1 := (Sat.start w).new #[.string s.name, .int .i64 s.kind, .int .i64 s.part, .slice s.kA s.keys.length s.kc, .slice s.nA s.needs.length s.nc] 35
  obtain ⟨b, hb⟩ : ∃ b, w.heap.size = b := ⟨_, rfl⟩
  unfold St.v
  obtain ⟨l, hL⟩ : ∃ l, s.keys = l := ⟨_, rfl⟩
  obtain ⟨p, hP⟩ : ∃ l, s.part = l := ⟨_, rfl⟩
  rw [hL, hP] at h1 ⊢
  rw [hL] at hE hz
  rw [hb] at h1
  have H1 := Lib.hid h1
  have HZ := Lib.hid hz
  clear hL hP h1 hs hz
  by_cases h2 : 2 < l.length
  · have t2 : decide ((2 : Int) < (l.length : Int)) = true := decide_eq_true (by omega)
    have e : keysB l p = false := decide_eq_false fun g => by omega
    go_enter Tryd.func76, Tryd.ntmps76
    go_wp2_with fail
    go_ret
    exact ⟨by first | rfl | (rw [e]; rfl), by have h9 := H1.out.old (by simp); first | exact h9 | (rw [← hb] at h9; exact h9) | (rw [hb] at h9; exact h9) | (simp only [hb] at h9 ⊢; exact h9)⟩
  have t2 : decide ((2 : Int) < (l.length : Int)) = false := decide_eq_false (by omega)
  go_enter Tryd.func76, Tryd.ntmps76
  go_wp2_with fail
  try simp only [hb]
  go_loopw [3] (RkRel w b [.string s.name, .int .i64 s.kind, .int .i64 p, .slice s.kA l.length s.kc, .slice s.nA s.needs.length s.nc] l p) (fun x _ => l.length - (intOf x).toNat)
  case atStart => exact ⟨0, Nat.zero_le _, rfl, H1.out, fun j hj => by omega⟩
  case round =>
    obtain ⟨k, hk, rfl, hT, hok⟩ := hrel
    clear H1
    have h9 := hT.old (List.mem_cons_of_mem _ List.mem_cons_self)
    have b3 : wr.cell? ⟨b, 3, none⟩ = some (.slice s.kA l.length s.kc) := hT.blk.cell 3
    by_cases hlt : k < l.length
    · obtain ⟨b2, o2, hkA, hcell⟩ := key_cells (hE.out.keep h9) (by omega)
      have c0 := hcell k hlt
      have hx : l[k] = keyAt l k := List.getElem_eq_getD (h := hlt) _
      have hzk := HZ.out _ (List.getElem_mem hlt)
      rw [hx] at c0 hzk
      rw [hkA] at b3 ⊢
      have HI := Lib.hid (ris_any (keyAt l k) wr hzk)
      have HNO := Lib.hid (fun h => keys_no (p := p) hlt h)
      by_cases hn : isN (keyAt l k) = true
      · have hsm := is_short hn
        have hn' := hn
        unfold isN at hn'
        rw [hn'] at HI
        have HOW := Lib.hid (fun w1 => rowner_any (keyAt l k) w1 (by omega))
        have HOE : Hid (sumT (tk (keyAt l k) 0) % 4 = ownN (keyAt l k)) := rfl
        rw [HOE.out] at HOW
        have b2c : wr.cell? ⟨b, 2, none⟩ = some (.int .i64 p) := hT.blk.cell 2
        have HT := Lib.hid hT
        have HN := Lib.hid hn
        have HPV : Hid (0 < k → wr.cell? ⟨b2, o2 + (k - 1), none⟩ = some (.string (keyAt l (k - 1)))) := fun h => by
          rw [hcell (k - 1) (by omega)]
          exact congrArg some (congrArg Value.string (List.getElem_eq_getD (h := by omega) _))
        have HSM := Lib.hid hsm
        have HOK := Lib.hid hok
        obtain ⟨x, hX⟩ : ∃ x, keyAt l k = x := ⟨_, rfl⟩
        have HX := Lib.hid hX
        rw [hX] at c0 HI HOW
        obtain ⟨q, hQ⟩ : ∃ q, ownN x = q := ⟨_, rfl⟩
        rw [hQ] at HOW
        have HQ := Lib.hid hQ
        clear hn hn' hzk hX hx hcell hT hok h9 hsm HOE hQ
        go_wp2_with fail
        refine HI.out.mono ?_
        rintro e v1 ⟨rfl, rfl⟩
        go_wp2_with fail
        by_cases hqp : (q : Int) = p
        · have t3 : ((q : Int) != p) = false := by rw [hqp]; simp
          have HQP : Hid ((ownN (keyAt l k) : Int) = p) := by rw [HX.out, HQ.out]; exact hqp
          clear hqp
          go_region_held3 (fun w' => w'.cell? ⟨b, 3, none⟩ = some (.slice (some ⟨b2, o2, none⟩) l.length s.kc) ∧ w'.cell? ⟨b2, o2 + k, none⟩ = some (.string x) ∧ w'.cell? ⟨b, 2, none⟩ = some (.int .i64 p))
            (first | exact ⟨b3, c0, b2c⟩ | exact ⟨y1, y2, y3⟩)
            (first
              | (go_at_call 96; refine (HOW.out _).mono ?_; rintro e w5 ⟨rfl, h5⟩; have y1 := old_cell h5 (show v1.drew.cell? _ = _ from b3); have y2 := old_cell h5 (show v1.drew.cell? _ = _ from c0); have y3 := old_cell h5 (show v1.drew.cell? _ = _ from b2c)))
          all_goals
            have H6 := Lib.hid (HT.out.drew.below h5)
            clear b3 c0 b2c y3
            by_cases h0 : k = 0
            · clear h5
              have tk : decide ((0 : Int) < (k : Int)) = false := decide_eq_false (by omega)
              have tk2 : decide (0 < k) = false := decide_eq_false (by omega)
              have HS : Hid (∀ j, j < k + 1 → keyOk l p j) := fun j hj => by
                obtain rfl : j = k := by omega
                exact ⟨HN.out, HQP.out, fun h => by omega⟩
              clear h0
              go_wp2_with fail
              go_quiet (fail)
              go_wp2_with fail
              go_roundw
              case rel => exact ⟨k + 1, by omega, by go_num, by rw [← hkA]; exact H6.out.drewN _, HS.out⟩
              case measure => simp [intOf]; omega
            · have y0 := old_cell h5 (show v1.drew.cell? _ = _ from HPV.out (by omega))
              have tk1 : decide ((0 : Int) < (k : Int)) = true := decide_eq_true (by omega)
              have tk2 : decide (0 < k) = true := decide_eq_true (by omega)
              have hk0 : 0 < k := by omega
              have sw : IntKind.i64.wrap ((k : Int) - 1) = ((k - 1 : Nat) : Int) := by
                rw [show (k : Int) - 1 = ((k - 1 : Nat) : Int) by omega]
                exact IntWalk.i64_in _ (by omega)
              have i0 : (0 : Int) ≤ ((k - 1 : Nat) : Int) := by omega
              have i1 : ((k - 1 : Nat) : Int) < (l.length : Int) := by omega
              have i2 : (0 : Int) ≤ (k : Int) := by omega
              have i3 : (k : Int) < (l.length : Int) := by omega
              have hzs := is_short (HOK.out (k - 1) (by omega)).1
              have hxs := HSM.out
              rw [HX.out] at hxs
              obtain ⟨z, hZ⟩ : ∃ z, keyAt l (k - 1) = z := ⟨_, rfl⟩
              rw [hZ] at y0 hzs
              have HCM := Lib.hid (fun w1 => rcompare_any z x w1 (by omega) (by omega))
              obtain ⟨cv, hcv⟩ : ∃ c, NM.cmpT (tk z 0) (tk x 0) = c := ⟨_, rfl⟩
              rw [hcv] at HCM
              have HCV : Hid (cmpN (keyAt l (k - 1)) (keyAt l k) = cv) := by rw [hZ, HX.out]; exact hcv
              clear h5 hZ hcv hzs hxs h0
              by_cases hc : 0 ≤ cv
              · have t4 : decide (0 ≤ cv) = true := decide_eq_true hc
                have e : keysB l p = false := HNO.out fun g => by have := g.2.2 hk0; rw [HCV.out] at this; omega
                clear hc
                go_wp2_with fail
                go_region_held3 (fun w' => w'.cell? ⟨b, 3, none⟩ = some (.slice (some ⟨b2, o2, none⟩) l.length s.kc) ∧ w'.cell? ⟨b2, o2 + k, none⟩ = some (.string x) ∧ w'.cell? ⟨b2, o2 + (k - 1), none⟩ = some (.string z))
                  (first | exact ⟨y1, y2, y0⟩ | exact ⟨z1, z2, z3⟩)
                  (first
                    | (go_at_call 91; refine (HCM.out _).mono ?_; rintro e w6 ⟨rfl, h7⟩; have z1 := old_cell h7 (show w5.drew.cell? _ = _ from y1); have z2 := old_cell h7 (show w5.drew.cell? _ = _ from y2); have z3 := old_cell h7 (show w5.drew.cell? _ = _ from y0)))
                all_goals
                  have H8 := Lib.hid (H6.out.drew.below h7)
                  go_wp2_with fail
                  go_ret
                  exact ⟨by first | rfl | (rw [e]; rfl), by have h9 := H8.out.old (by simp); first | exact h9 | (rw [hb] at h9; exact h9)⟩
              · have t4 : decide (0 ≤ cv) = false := decide_eq_false hc
                have HS : Hid (∀ j, j < k + 1 → keyOk l p j) := fun j hj => by
                  by_cases e : j = k
                  · subst e; exact ⟨HN.out, HQP.out, fun _ => by rw [HCV.out]; omega⟩
                  · exact HOK.out j (by omega)
                go_wp2_with fail
                go_region_held3 (fun w' => w'.cell? ⟨b, 3, none⟩ = some (.slice (some ⟨b2, o2, none⟩) l.length s.kc) ∧ w'.cell? ⟨b2, o2 + k, none⟩ = some (.string x) ∧ w'.cell? ⟨b2, o2 + (k - 1), none⟩ = some (.string z))
                  (first | exact ⟨y1, y2, y0⟩ | exact ⟨z1, z2, z3⟩)
                  (first
                    | (go_at_call 91; refine (HCM.out _).mono ?_; rintro e w6 ⟨rfl, h7⟩; have z1 := old_cell h7 (show w5.drew.cell? _ = _ from y1); have z2 := old_cell h7 (show w5.drew.cell? _ = _ from y2); have z3 := old_cell h7 (show w5.drew.cell? _ = _ from y0)))
                all_goals
                  have H8 := Lib.hid (H6.out.drew.below h7)
                  go_wp2_with fail
                  go_roundw
                  case rel => exact ⟨k + 1, by omega, by go_num, by rw [← hkA]; exact H8.out, HS.out⟩
                  case measure => simp [intOf]; omega
        · have t3 : ((q : Int) != p) = true := by rw [bne_iff_ne]; exact hqp
          have e : keysB l p = false := HNO.out fun g => hqp (by rw [← HQ.out, ← HX.out]; exact g.2.1)
          clear hqp
          go_region_held3 (fun w' => w'.cell? ⟨b, 3, none⟩ = some (.slice (some ⟨b2, o2, none⟩) l.length s.kc) ∧ w'.cell? ⟨b2, o2 + k, none⟩ = some (.string x) ∧ w'.cell? ⟨b, 2, none⟩ = some (.int .i64 p))
            (first | exact ⟨b3, c0, b2c⟩ | exact ⟨y1, y2, y3⟩)
            (first
              | (go_at_call 96; refine (HOW.out _).mono ?_; rintro e w5 ⟨rfl, h5⟩; have y1 := old_cell h5 (show v1.drew.cell? _ = _ from b3); have y2 := old_cell h5 (show v1.drew.cell? _ = _ from c0); have y3 := old_cell h5 (show v1.drew.cell? _ = _ from b2c)))
          all_goals
            have H6 := Lib.hid (HT.out.drew.below h5)
            go_wp2_with fail
            go_ret
            exact ⟨by rw [e]; rfl, by have h9 := H6.out.old (by simp); first | exact h9 | (rw [hb] at h9; exact h9)⟩
      · have hn' : isN (keyAt l k) = false := by simpa using hn
        have e : keysB l p = false := HNO.out fun g => hn g.1
        unfold isN at hn'
        rw [hn'] at HI
        obtain ⟨x, hX⟩ : ∃ x, keyAt l k = x := ⟨_, rfl⟩
        rw [hX] at c0 HI
        have H9 := Lib.hid h9
        clear hn hn' hzk hX hx hcell hT hok HNO h9
        go_wp2_with fail
        refine HI.out.mono ?_
        rintro e v1 ⟨rfl, rfl⟩
        go_wp2_with fail
        go_quiet (fail)
        go_wp2_with fail
        go_ret
        exact ⟨by rw [e]; rfl, by have h9 := below_drewN H9.out nq; first | exact h9 | (rw [hb] at h9; exact h9)⟩
    · obtain rfl : k = l.length := by omega
      have e : keysB l p = true := decide_eq_true ⟨by omega, hok⟩
      go_wp2_with fail
      go_ret
      exact ⟨by rw [e]; rfl, by first | exact h9 | (rw [hb] at h9; exact h9)⟩
end Go.Proofs.YtpmoanjeoaeabaaDoor
