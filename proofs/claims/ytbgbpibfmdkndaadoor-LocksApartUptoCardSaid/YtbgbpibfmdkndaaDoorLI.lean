/- The table as a piece of memory; New, Holder; are all keys names? -/
import Derived.Test.YtbgbpibfmdkndaaDoorLH
import Derived.Test.YtbgbpibfmdkndaaDoorLD
set_option linter.unusedVariables false
set_option linter.unusedSimpArgs false
set_option linter.unnecessarySimpa false
set_option maxRecDepth 100000
namespace Go.Proofs.YtbgbpibfmdkndaaDoor
open Go.RowKit Go.ChangeShapes Go.WideShapes Go.ChangeAt
/-- the program's table -/
def TabP (tb : Nat) (D : List Ent) : HP := ex fun x : Nat × List Ent => wth (x.2.Perm D) (sep [Blk tb 50 [.map (some x.1)], MapS x.1 x.2])
/-- keys that stand in F's memory -/
def KeysF (w0 : World) (F : List HP) (A : Option Addr) (keys : List ByteArray) : Prop :=
  keys = [] ∨ ∃ b o, A = some ⟨b, o, none⟩ ∧ ∀ W L, Sat w0 W (L ++ F) → ∀ j k, keys[j]? = some k → W.cell? ⟨b, o + j, none⟩ = some (.string k)
/-- their sizes -/
structure KeysOk (keys : List ByteArray) : Prop where
  len : keys.length ≤ 1048576
  size : ∀ k ∈ keys, k.size ≤ 1048576
section
variable {w w0 : World} {F : List HP} {tb : Nat} {D : List Ent} {A : Option Addr} {c : Nat} {keys : List ByteArray}
theorem Sat.tabOpen (h : Sat w0 w (TabP tb D :: F)) : ∃ (mb : Nat) (M : List Ent), M.Perm D ∧ Sat w0 w (Blk tb 50 [.map (some mb)] :: MapS mb M :: F) := by
  obtain ⟨⟨mb, M⟩, h2⟩ := h.open_ex
  obtain ⟨h3, h4⟩ := h2.open_wth
  exact ⟨mb, M, h3, h4.open_⟩
theorem Sat.tabClose {mb : Nat} {M : List Ent} (hp : M.Perm D) (h : Sat w0 w (Blk tb 50 [.map (some mb)] :: MapS mb M :: F)) : Sat w0 w (TabP tb D :: F) :=
  Sat.close_ex (α := Nat × List Ent) ⟨mb, M⟩ (Sat.close_wth hp h.close2)
theorem KeysF.more {G : List HP} (h : KeysF w0 F A keys) : KeysF w0 (G ++ F) A keys := by
  rcases h with h | ⟨b, o, h1, h2⟩
  · exact .inl h
  · exact .inr ⟨b, o, h1, fun W L hS => h2 W (L ++ G) (by rw [List.append_assoc]; exact hS)⟩
theorem tabNew_any (hS : Sat w0 w F) : Calls Tryd.prog 24 #[] w fun e w' => ∃ tb : Nat, e = .returned (.pointer (some ⟨tb, 0, none⟩)) ∧ Sat w0 w' (TabP tb [] :: F) := by
  obtain ⟨b, hb⟩ : ∃ b, w.heap.size = b := ⟨_, rfl⟩
  have h1 := hS.mpNew
  have hs1 : (w.alloc (.map #[] 0)).heap.size = w.heap.size + 1 := by simp
  have h2 := h1.new #[.map (some b)] 50
  rw [hs1, hb] at h2
  have H2 := Lib.hid h2
  clear h1 h2 hs1 hS
  have hmm : ∀ (t : TypeId) (w : World), (Instr.makeMap t none).run Tryd.prog w = .ok (.map (some w.heap.size)) (w.alloc (.map #[] 0)) := fun t w => rfl
  go_enter Tryd.func24, Tryd.ntmps24
  go_wp2_with fail
  try simp only [hb]
  go_ret
  exact ⟨b + 1, rfl, Sat.tabClose (.refl _) H2.out⟩
theorem holder_any (hD : TabOk D) (k : ByteArray) (hS : Sat w0 w (TabP tb D :: F)) : Calls Tryd.prog 16 #[.pointer (some ⟨tb, 0, none⟩), .string k] w fun e w' => e = .returned (.int .i64 (valE D k)) ∧ w' = w := by
  obtain ⟨mb, M, hp, h1⟩ := hS.tabOpen
  have c0 := h1.blk.cell 0
  have hl := h1.r2.mpLook k false
  rw [val_perm hD hp] at hl
  clear h1 hS
  go_enter Tryd.func16, Tryd.ntmps16
  go_wp2_with fail
  go_ret
  exact ⟨rfl, rfl⟩
theorem not27_any (s : ByteArray) (w : World) (hs : s.size ≤ 140737488351232) : Calls Tryd.prog 27 #[.string s] w fun e w' => e = .returned (.bool (!isN s)) ∧ Below w.heap.size w w' := by
  have HC := Lib.hid (is_any s w hs)
  obtain ⟨b, hb⟩ : ∃ b, isN s = b := ⟨_, rfl⟩
  have HC2 : Hid (Calls Tryd.prog 28 #[.string s] w fun e w' => e = .returned (.bool b) ∧ Below w.heap.size w w') := by rw [← hb]; exact HC
  rw [hb]
  clear HC hb
  go_enter Tryd.func27, Tryd.ntmps27
  go_wp2_with fail
  refine HC2.out.mono ?_
  rintro e w1 ⟨rfl, h⟩
  have H := Lib.hid h
  clear h
  go_wp2_with fail
  go_ret
  exact ⟨rfl, H.out⟩
def IxRel (w0 : World) (F : List HP) (keys : List ByteArray) (i : Value) (wr : World) : Prop := ∃ k : Nat, k ≤ keys.length ∧ i = .int .i64 k ∧ Sat w0 wr F ∧ ∀ j x, j < k → keys[j]? = some x → isN x = true
set_option maxHeartbeats 1600000 in
theorem index34 (hm : KeysOk keys) (hK : KeysF w0 F A keys) (hS : Sat w0 w F) :
    Calls Tryd.prog 34 #[.slice A keys.length c, .func (.func 27) #[] #[]] w fun e w' => ∃ v : Int, e = .returned (.int .i64 v) ∧ decide (0 ≤ v) = !keys.all isN ∧ Sat w0 w' F := by
  have HS0 := Lib.hid hS
  have HK := Lib.hid hK
  have HSZ := Lib.hid hm.size
  have hm := hm.len
  obtain ⟨n, hn⟩ : ∃ n, keys.length = n := ⟨_, rfl⟩
  have HN := Lib.hid hn
  rw [hn] at hm ⊢
  clear hS hn hK
  go_enter Tryd.func34, Tryd.ntmps34
  go_wp2_with fail
  go_loopw [8] (IxRel w0 F keys) (fun i _ => n - (intOf i).toNat)
  case atStart => exact ⟨0, Nat.zero_le _, rfl, HS0.out, fun j x hj => absurd hj (Nat.not_lt_zero _)⟩
  case round =>
    obtain ⟨j, hj, rfl, hS, ha⟩ := hrel
    rw [HN.out] at hj
    clear HS0
    by_cases hlt : j < n
    · obtain ⟨x, hx⟩ : ∃ x, keys[j]? = some x := ⟨_, List.getElem?_eq_getElem (by rw [HN.out]; exact hlt)⟩
      obtain ⟨b, o, rfl, hK⟩ := HK.out.resolve_left (by rintro rfl; simp at hx)
      have c0 := hK wr [] hS j x hx
      have HCL := Lib.hid (not27_any x wr (by have := HSZ.out x (List.mem_of_getElem? hx); omega))
      have HS := Lib.hid hS
      have HX := Lib.hid hx
      have HA := Lib.hid ha
      obtain ⟨v, hv⟩ : ∃ v, isN x = v := ⟨_, rfl⟩
      have HV := Lib.hid hv
      rw [hv] at HCL
      clear hx hK hS ha hv HK
      cases v with
      | true =>
        go_wp2_with fail
        refine HCL.out.mono ?_
        rintro e w' ⟨rfl, hb'⟩
        have H1 := Lib.hid (HS.out.below hb')
        clear hb' c0
        go_wp2_with fail
        go_roundw
        case rel =>
          refine ⟨j + 1, by rw [HN.out]; omega, by go_num, H1.out, fun i y hi hy => ?_⟩
          by_cases hij : i < j
          · exact HA.out i y hij hy
          · obtain rfl : i = j := by omega
            rw [HX.out] at hy
            injection hy with hy
            subst hy
            exact HV.out
        case measure => simp [intOf]; omega
      | false =>
        go_wp2_with fail
        refine HCL.out.mono ?_
        rintro e w' ⟨rfl, hb'⟩
        have H1 := Lib.hid (HS.out.below hb')
        clear hb' c0
        go_wp2_with fail
        go_ret
        refine ⟨_, rfl, ?_, H1.out⟩
        have h1 : keys.all isN = false := by
          rw [List.all_eq_false]
          exact ⟨x, List.mem_of_getElem? HX.out, by rw [HV.out]; simp⟩
        rw [h1]
        exact decide_eq_true (by omega)
    · obtain rfl : j = n := by omega
      have HS := Lib.hid hS
      have HA := Lib.hid ha
      clear hS ha HK
      go_wp2_with fail
      go_ret
      refine ⟨_, rfl, ?_, HS.out⟩
      have h1 : keys.all isN = true := by
        rw [List.all_eq_true]
        intro x hx
        obtain ⟨i, hi, rfl⟩ := List.getElem_of_mem hx
        exact HA.out i _ (by rw [← HN.out]; exact hi) (List.getElem?_eq_getElem hi)
      rw [h1]
      rfl
theorem contains26 (hm : KeysOk keys) (hK : KeysF w0 F A keys) (hS : Sat w0 w F) :
    Calls Tryd.prog 26 #[.slice A keys.length c, .func (.func 27) #[] #[]] w fun e w' => e = .returned (.bool (!keys.all isN)) ∧ Sat w0 w' F := by
  have HC := Lib.hid (index34 (c := c) hm hK hS)
  obtain ⟨n, hn⟩ : ∃ n, keys.length = n := ⟨_, rfl⟩
  rw [hn] at HC ⊢
  clear hn hm hK hS
  go_enter Tryd.func26, Tryd.ntmps26
  go_wp2_with fail
  refine HC.out.mono ?_
  rintro e w1 ⟨v, rfl, hv, h⟩
  have H := Lib.hid h
  have HV := Lib.hid hv
  clear h hv HC
  go_wp2_with fail
  go_ret
  exact ⟨by rw [← HV.out]; rfl, H.out⟩
end
end Go.Proofs.YtbgbpibfmdkndaaDoor
