/- The document's loose. -/
import Derived.Test.YtpmoanjeoaeabaaDoorCO
set_option linter.unusedVariables false
set_option linter.unusedSimpArgs false
set_option linter.unnecessarySimpa false
set_option maxRecDepth 100000
namespace Go.Proofs.YtpmoanjeoaeabaaDoor
open Go.RowKit Go.ChangeShapes Go.WideShapes Go.ChangeAt
open Classical in noncomputable def foundTo (d : Df) (key : ByteArray) (j : Nat) : Bool := decide (∃ q, q < j ∧ kindAt d q ≠ 3 ∧ key ∈ keysAt d q)
open Classical in noncomputable def foundIn (d : Df) (key : ByteArray) (j m : Nat) : Bool := foundTo d key j || (decide (kindAt d j ≠ 3) && decide (key ∈ (keysAt d j).take m))
open Classical in /-- has a step that is not retriable this key? -/ noncomputable def heldB (d : Df) (key : ByteArray) : Bool := foundTo d key d.steps.length
open Classical in /-- has a retriable step a key that no other kind of step has? -/ noncomputable def looseB (d : Df) (i : Nat) : Bool := decide (kindAt d i = 3 ∧ ∃ key ∈ keysAt d i, heldB d key = false)
open Classical in
theorem foundIn_zero (d : Df) (key : ByteArray) (j : Nat) : foundIn d key j 0 = foundTo d key j := by simp [foundIn]
open Classical in
theorem foundIn_next {d : Df} {key : ByteArray} {j m : Nat} (hk : kindAt d j ≠ 3) (hm : m < (keysAt d j).length) : foundIn d key j (m + 1) = (foundIn d key j m || decide (keyAt (keysAt d j) m = key)) := by
  unfold foundIn keyAt
  rw [List.take_succ_eq_append_getElem hm, ← List.getElem_eq_getD (h := hm), decide_eq_true hk, Bool.true_and, Bool.true_and, Bool.or_assoc]
  congr 1
  by_cases h1 : key ∈ (keysAt d j).take m
  · rw [decide_eq_true h1, decide_eq_true (List.mem_append_left _ h1)]; rfl
  · rw [decide_eq_false h1, Bool.false_or]
    by_cases h2 : (keysAt d j)[m] = key
    · rw [decide_eq_true h2]
      exact decide_eq_true (List.mem_append_right _ (by simp [h2]))
    · rw [decide_eq_false h2]
      refine decide_eq_false fun g => ?_
      rcases List.mem_append.1 g with g | g
      · exact h1 g
      · simp at g; exact h2 g.symm
open Classical in
theorem foundIn_all {d : Df} {key : ByteArray} {j m : Nat} (h : kindAt d j = 3 ∨ (keysAt d j).length ≤ m) : foundIn d key j m = foundTo d key (j + 1) := by
  unfold foundIn foundTo
  by_cases h1 : ∃ q, q < j ∧ kindAt d q ≠ 3 ∧ key ∈ keysAt d q
  · rw [decide_eq_true h1, Bool.true_or]
    obtain ⟨q, a, b, c⟩ := h1
    exact (decide_eq_true ⟨q, by omega, b, c⟩).symm
  · rw [decide_eq_false h1, Bool.false_or]
    rcases h with h | h
    · rw [decide_eq_false (by simpa using h), Bool.false_and]
      refine (decide_eq_false ?_).symm
      rintro ⟨q, a, b, c⟩
      by_cases e : q = j
      · subst e; exact b h
      · exact h1 ⟨q, by omega, b, c⟩
    · rw [List.take_of_length_le h]
      by_cases h2 : kindAt d j ≠ 3 ∧ key ∈ keysAt d j
      · rw [decide_eq_true h2.1, decide_eq_true h2.2]
        exact (decide_eq_true ⟨j, by omega, h2⟩).symm
      · have : (decide (kindAt d j ≠ 3) && decide (key ∈ keysAt d j)) = false := by
          rw [Bool.and_eq_false_iff]
          by_cases h3 : kindAt d j ≠ 3
          · exact .inr (decide_eq_false fun g => h2 ⟨h3, g⟩)
          · exact .inl (decide_eq_false h3)
        rw [this]
        refine (decide_eq_false ?_).symm
        rintro ⟨q, a, b⟩
        by_cases e : q = j
        · subst e; exact h2 b
        · exact h1 ⟨q, by omega, b⟩
def kAat (d : Df) (k : Nat) : Option Addr := (d.steps.getD k ⟨.empty, 0, 0, [], [], none, 0, none, 0⟩).kA
def kcat (d : Df) (k : Nat) : Nat := (d.steps.getD k ⟨.empty, 0, 0, [], [], none, 0, none, 0⟩).kc
theorem kA_at (d : Df) (k : Nat) (h : k < d.steps.length) : d.steps[k].kA = kAat d k ∧ d.steps[k].kc = kcat d k := by
  unfold kAat kcat
  rw [← List.getElem_eq_getD (h := h)]
  exact ⟨rfl, rfl⟩
theorem key_cell {w : World} (d : Df) (hD : DefAt w d) (k : Nat) (hk : k < d.steps.length) (j : Nat) (hj : j < (keysAt d k).length) : ∃ b o, kAat d k = some ⟨b, o, none⟩ ∧ w.cell? ⟨b, o + j, none⟩ = some (.string (keyAt (keysAt d k) j)) := by
  have hE := (hD.each _ (List.getElem_mem hk)).keys
  have hn := keys_at d k hk
  obtain ⟨b, o, e, hc⟩ := key_cells hE (by rw [hn]; omega)
  refine ⟨b, o, (kA_at d k hk).1 ▸ e, ?_⟩
  have h1 := hc j (by rw [hn]; exact hj)
  rw [h1]
  have : d.steps[k].keys[j]'(by rw [hn]; exact hj) = keyAt (keysAt d k) j := by
    unfold keyAt
    rw [List.getElem_eq_getD .empty, hn]
  rw [this]
def Lo1 (W : World) (b : Nat) (V : List Value) (d : Df) (i : Nat) (x : Value) (wr : World) : Prop :=
  ∃ k : Nat, k ≤ (keysAt d i).length ∧ x = .int .i64 k ∧ Sat W wr [Blk b 24 V, Old W] ∧ (k = 0 ∨ kindAt d i = 3) ∧ ∀ j, j < k → heldB d (keyAt (keysAt d i) j) = true
def Lo2 (W : World) (b : Nat) (V : List Value) (d : Df) (key : ByteArray) (f x : Value) (wr : World) : Prop :=
  ∃ j : Nat, j ≤ d.steps.length ∧ x = .int .i64 j ∧ f = .bool (foundTo d key j) ∧ Sat W wr [Blk b 24 V, Old W]
def Lo3 (W : World) (b : Nat) (V : List Value) (d : Df) (key : ByteArray) (j : Nat) (f x : Value) (wr : World) : Prop :=
  ∃ m : Nat, m ≤ (keysAt d j).length ∧ x = .int .i64 m ∧ f = .bool (foundIn d key j m) ∧ Sat W wr [Blk b 24 V, Old W]
open Classical in
theorem loose_no {d : Df} {i : Nat} (h : kindAt d i = 3 → ∀ j, j < (keysAt d i).length → heldB d (keyAt (keysAt d i) j) = true) : looseB d i = false := by
  refine decide_eq_false ?_
  rintro ⟨h3, key, hm, hf⟩
  obtain ⟨j, hj, rfl⟩ := List.getElem_of_mem hm
  have := h h3 j hj
  unfold keyAt at this
  rw [← List.getElem_eq_getD (h := hj), hf] at this
  cases this
open Classical in
theorem loose_yes {d : Df} {i k : Nat} (h3 : kindAt d i = 3) (hk : k < (keysAt d i).length) (h : heldB d (keyAt (keysAt d i) k) = false) : looseB d i = true := by
  refine decide_eq_true ⟨h3, _, List.getElem_mem hk, ?_⟩
  unfold keyAt at h
  rwa [← List.getElem_eq_getD (h := hk)] at h
set_option maxHeartbeats 6400000 in
theorem rloose_any {w : World} (d : Df) (i : Nat) (hD : DefAt w d) (hi : i < d.steps.length) (hn : d.steps.length ≤ 1000000) (hl : ∀ k, (keysAt d k).length ≤ 1000000000000000000) :
    Calls Tryd.prog 80 #[d.v, .int .i64 i] w (Quietly w (.bool (looseB d i))) := by
  obtain ⟨g, o, hA, hc⟩ := step_cells hD (by omega)
  have HC3 : Hid (∀ w', Below w.heap.size w w' → ∀ k, k < d.steps.length → w'.cell? ⟨g, o + k * 5 + 3, none⟩ = some (.slice (kAat d k) (keysAt d k).length (kcat d k))) := fun w' hb k hk => by
    rw [old_cell hb (hc k hk).2.2.2.1, (kA_at d k hk).1, (kA_at d k hk).2, keys_at d k hk]
  have HC1 : Hid (∀ w', Below w.heap.size w w' → ∀ k, k < d.steps.length → w'.cell? ⟨g, o + k * 5 + 1, none⟩ = some (.int .i64 (kindAt d k))) := fun w' hb k hk => by
    rw [← kind_at d k hk]
    exact old_cell hb (hc k hk).2.1
  have HKC : Hid (∀ w', Below w.heap.size w w' → ∀ k, k < d.steps.length → ∀ j, j < (keysAt d k).length → ∃ b o, kAat d k = some ⟨b, o, none⟩ ∧ w'.cell? ⟨b, o + j, none⟩ = some (.string (keyAt (keysAt d k) j))) := fun w' hb k hk j hj => key_cell d (hD.keep hb) k hk j hj
  have HLL := Lib.hid hl
  have h1 := (Sat.start w).new #[.string d.name, .slice (some ⟨g, o, none⟩) d.steps.length d.c] 24
  obtain ⟨b, hb⟩ : ∃ b, w.heap.size = b := ⟨_, rfl⟩
  have HNN : Hid (∀ key, heldB d key = foundTo d key d.steps.length) := fun _ => rfl
  obtain ⟨v, hv⟩ : ∃ v, v = looseB d i := ⟨_, rfl⟩
  rw [← hv]
  have HV := Lib.hid hv
  obtain ⟨R2, hR2⟩ : ∃ R2, R2 = Lo2 w b [.string d.name, .slice (some ⟨g, o, none⟩) d.steps.length d.c] d := ⟨_, rfl⟩
  have HO2 : Hid (∀ key f x wr, R2 key f x wr ↔ ∃ j : Nat, j ≤ d.steps.length ∧ x = .int .i64 j ∧ f = .bool (foundTo d key j) ∧ Sat w wr [Blk b 24 [.string d.name, .slice (some ⟨g, o, none⟩) d.steps.length d.c], Old w]) := fun key f x wr => by rw [hR2]; exact Iff.rfl
  obtain ⟨n, hN⟩ : ∃ n, d.steps.length = n := ⟨_, rfl⟩
  unfold Df.v Quietly
  rw [hA]
  simp only [hN] at h1 HC1 HC3 HKC HNN HO2 hi hn ⊢
  rw [hb] at h1
  have H1 := Lib.hid h1
  clear h1 hc hD hA hl hN hR2 hv
  go_enter Tryd.func80, Tryd.ntmps80
  go_wp2_with fail
  try simp only [hb]
  go_loopw [5] (Lo1 w b [.string d.name, .slice (some ⟨g, o, none⟩) n d.c] d i) (fun x _ => (keysAt d i).length - (intOf x).toNat)
  case atStart => exact ⟨0, Nat.zero_le _, rfl, H1.out, .inl rfl, fun j hj => by omega⟩
  case round =>
    obtain ⟨k, hk, rfl, hT, hkd, hok⟩ := hrel
    clear H1
    have h9 := hT.old (List.mem_cons_of_mem _ List.mem_cons_self)
    have a1 : wr.cell? ⟨b, 1, none⟩ = some (.slice (some ⟨g, o, none⟩) n d.c) := hT.blk.cell 1
    have c3 := HC3.out _ h9 i hi
    have c1 := HC1.out _ h9 i hi
    have hli := HLL.out i
    have i0 : (0 : Int) ≤ (i : Int) := by omega
    have i1 : (i : Int) < (n : Int) := by omega
    by_cases hlt : k < (keysAt d i).length
    · by_cases h3 : kindAt d i = 3
      · have t3 : (kindAt d i == 3) = true := by rw [beq_iff_eq]; exact h3
        have HT := Lib.hid hT
        have HOK := Lib.hid hok
        have HLY := Lib.hid (fun h => loose_yes (d := d) h3 hlt h)
        have H3 := Lib.hid h3
        obtain ⟨ki, hki⟩ : ∃ x, kindAt d i = x := ⟨_, rfl⟩
        obtain ⟨key, hkey⟩ : ∃ x, keyAt (keysAt d i) k = x := ⟨_, rfl⟩
        rw [hki] at c1 t3
        rw [hkey] at HLY
        have HKEY := Lib.hid hkey
        clear hT hok h9 h3 hkd hki hkey
        go_wp2_with fail
        go_loopw [6, 7] (R2 key) (fun _ x _ => n - (intOf x).toNat)
        case atStart => exact (HO2.out _ _ _ _).2 ⟨0, Nat.zero_le _, rfl, by simp [foundTo], HT.out⟩
        case round =>
          obtain ⟨j, hj, rfl, rfl, hT⟩ := (HO2.out _ _ _ _).1 hrel
          clear HT a1 c3 c1 t3
          have h9 := hT.old (List.mem_cons_of_mem _ List.mem_cons_self)
          have a1 : wr.cell? ⟨b, 1, none⟩ = some (.slice (some ⟨g, o, none⟩) n d.c) := hT.blk.cell 1
          by_cases hlj : j < n
          · have HT := Lib.hid hT
            have HZ := Lib.hid (foundIn_zero d key j)
            obtain ⟨fv, hfv⟩ : ∃ x, foundTo d key j = x := ⟨_, rfl⟩
            rw [hfv] at HZ ⊢
            clear hT h9 hfv
            go_wp2_with fail
            go_loopw [6, 8] (Lo3 w b [.string d.name, .slice (some ⟨g, o, none⟩) n d.c] d key j) (fun _ x _ => (keysAt d j).length - (intOf x).toNat)
            case atStart => exact ⟨0, Nat.zero_le _, rfl, by rw [HZ.out], HT.out⟩
            case round =>
              obtain ⟨m, hm, rfl, rfl, hT⟩ := hrel
              clear HT a1 HZ
              have h9 := hT.old (List.mem_cons_of_mem _ List.mem_cons_self)
              have a1 : wr.cell? ⟨b, 1, none⟩ = some (.slice (some ⟨g, o, none⟩) n d.c) := hT.blk.cell 1
              have c3 := HC3.out _ h9 j hlj
              have c1 := HC1.out _ h9 j hlj
              have hlj2 := HLL.out j
              have i2 : (0 : Int) ≤ (j : Int) := by omega
              have i3 : (j : Int) < (n : Int) := by omega
              by_cases h5 : kindAt d j = 3
              · have t5 : (kindAt d j != 3) = false := by rw [h5]; rfl
                have HF := Lib.hid (foundIn_all (key := key) (m := m) (.inl h5))
                have HT := Lib.hid hT
                obtain ⟨kj, hkj⟩ : ∃ x, kindAt d j = x := ⟨_, rfl⟩
                obtain ⟨fm, hfm⟩ : ∃ x, foundIn d key j m = x := ⟨_, rfl⟩
                rw [hkj] at c1 t5
                rw [hfm] at HF ⊢
                clear hT h9 h5 hkj hfm
                by_cases hlm : m < (keysAt d j).length
                · go_wp2_with fail
                  go_roundw
                  case rel => exact (HO2.out _ _ _ _).2 ⟨j + 1, by omega, by go_num, by rw [HF.out], HT.out⟩
                  case measure => simp [intOf]; omega
                · go_wp2_with fail
                  go_roundw
                  case rel => exact (HO2.out _ _ _ _).2 ⟨j + 1, by omega, by go_num, by rw [HF.out], HT.out⟩
                  case measure => simp [intOf]; omega
              · have t5 : (kindAt d j != 3) = true := by rw [bne_iff_ne]; exact h5
                by_cases hlm : m < (keysAt d j).length
                · have HF := Lib.hid (foundIn_next (key := key) h5 hlm)
                  have HT := Lib.hid hT
                  obtain ⟨b2, o2, hkA, x0⟩ := HKC.out _ h9 j hlj m hlm
                  obtain ⟨b3, o3, hkA2, x1⟩ := HKC.out _ h9 i hi k hlt
                  have d3 := HC3.out _ h9 i hi
                  rw [hkA] at c3
                  rw [hkA2] at d3
                  rw [HKEY.out] at x1
                  obtain ⟨kj, hkj⟩ : ∃ x, kindAt d j = x := ⟨_, rfl⟩
                  obtain ⟨fm, hfm⟩ : ∃ x, foundIn d key j m = x := ⟨_, rfl⟩
                  obtain ⟨y, hy⟩ : ∃ x, keyAt (keysAt d j) m = x := ⟨_, rfl⟩
                  rw [hkj] at c1 t5
                  rw [hfm, hy] at HF
                  rw [hfm]
                  rw [hy] at x0
                  have ts := str_dec y key
                  obtain ⟨eq, heq⟩ : ∃ x, decide (y = key) = x := ⟨_, rfl⟩
                  rw [heq] at ts HF
                  clear hT h9 h5 hkj hfm hy heq
                  cases fm with
                  | true =>
                    rw [Bool.true_or] at HF
                    go_wp2_with fail
                    go_quiet (fail)
                    go_wp2_with fail
                    go_roundw
                    case rel => exact ⟨m + 1, by omega, by go_num, by rw [HF.out], HT.out.drewN _⟩
                    case measure => simp [intOf]; omega
                  | false =>
                    rw [Bool.false_or] at HF
                    go_wp2_with fail
                    go_quiet (fail)
                    go_wp2_with fail
                    go_roundw
                    case rel => exact ⟨m + 1, by omega, by go_num, by rw [HF.out], HT.out.drewN _⟩
                    case measure => simp [intOf]; omega
                · have HF := Lib.hid (foundIn_all (d := d) (key := key) (j := j) (m := m) (.inr (by omega)))
                  have HT := Lib.hid hT
                  obtain ⟨fm, hfm⟩ : ∃ x, foundIn d key j m = x := ⟨_, rfl⟩
                  obtain ⟨kj, hkj⟩ : ∃ x, kindAt d j = x := ⟨_, rfl⟩
                  rw [hkj] at c1 t5
                  rw [hfm] at HF ⊢
                  clear hT h9 hfm hkj h5
                  go_wp2_with fail
                  go_roundw
                  case rel => exact (HO2.out _ _ _ _).2 ⟨j + 1, by omega, by go_num, by rw [HF.out], HT.out⟩
                  case measure => simp [intOf]; omega
          · have hjn : j = n := by omega
            have HT := Lib.hid hT
            have H9 := Lib.hid h9
            have HH := HNN.out key
            rw [← hjn] at HH
            rw [HH] at HLY
            obtain ⟨fv, hfv⟩ : ∃ x, foundTo d key j = x := ⟨_, rfl⟩
            rw [hfv] at HLY HH
            have HH2 := Lib.hid HH
            rw [hfv]
            clear hT h9 hfv HH hjn
            cases fv with
            | true =>
              have HS : Hid (∀ j, j < k + 1 → heldB d (keyAt (keysAt d i) j) = true) := fun j hj => by
                by_cases e : j = k
                · subst e; rw [HKEY.out]; exact HH2.out
                · exact HOK.out j (by omega)
              go_wp2_with fail
              go_roundw
              case rel => exact ⟨k + 1, by omega, by go_num, HT.out, .inr H3.out, HS.out⟩
              case measure => simp [intOf]; omega
            | false =>
              have e := HLY.out rfl
              go_wp2_with fail
              go_ret
              exact ⟨by rw [HV.out, e]; rfl, by have h9 := H9.out; first | exact h9 | (rw [hb] at h9; exact h9)⟩
      · have t3 : (kindAt d i == 3) = false := by rw [beq_eq_false_iff_ne]; exact h3
        have e : looseB d i = false := loose_no fun h => absurd h h3
        have H9 := Lib.hid h9
        obtain ⟨ki, hki⟩ : ∃ x, kindAt d i = x := ⟨_, rfl⟩
        rw [hki] at c1 t3
        clear hT hok h9 h3 hkd hki
        go_wp2_with fail
        go_ret
        exact ⟨by rw [HV.out, e]; rfl, by have h9 := H9.out; first | exact h9 | (rw [hb] at h9; exact h9)⟩
    · have e : looseB d i = false := loose_no fun _ j hj => hok j (by omega)
      have H9 := Lib.hid h9
      clear hT hok h9 hkd
      go_wp2_with fail
      go_ret
      exact ⟨by rw [HV.out, e]; rfl, by have h9 := H9.out; first | exact h9 | (rw [hb] at h9; exact h9)⟩
end Go.Proofs.YtpmoanjeoaeabaaDoor
