/- The library's sort by name.Compare on a row of names. -/
import Derived.Test.YtbgbpibfmdkndaaDoorLC
set_option linter.unusedVariables false
set_option linter.unusedSimpArgs false
set_option linter.unnecessarySimpa false
set_option maxRecDepth 100000
namespace Go.Proofs.YtbgbpibfmdkndaaDoor
open Go.RowKit Go.ChangeShapes Go.WideShapes Go.ChangeAt
/-- names -/
structure Nm where
  val : ByteArray
  ok : isN val = true
instance : Inhabited Nm := ⟨⟨⟨#[97]⟩, isN_a⟩⟩
def encNm (x : Nm) : Value := .string x.1
def cfNm (x y : Nm) : Int := cmpN x.val y.val
theorem swoNm : Go.Sort.SWO (ltOf cfNm) where
  irrefl x := by unfold ltOf cfNm; rw [cmp_self]; rfl
  trans x y z h1 h2 := by
    unfold ltOf cfNm at *
    exact decide_eq_true (cmp_trans (of_decide_eq_true h1) (of_decide_eq_true h2))
  ntrans x y z h1 h2 := by
    unfold ltOf cfNm at *
    exact decide_eq_false (cmp_ntrans (of_decide_eq_false h1) (of_decide_eq_false h2))
theorem drawn_grow {w w' : World} (h : Drawn w w') : ∃ q os', w' = Go.Sort.grow (w.drewN q) os' := by
  obtain ⟨hb, hd⟩ := h
  refine ⟨w'.drawn - w.drawn, w'.heap.extract w.heap.size, ?_⟩
  have hh : w'.heap = w.heap ++ w'.heap.extract w.heap.size := by
    apply Array.ext_getElem?
    intro k
    by_cases hk : k < w.heap.size
    · rw [Array.getElem?_append_left hk, hb.block k hk]
    · rw [Array.getElem?_append_right (by omega), Array.getElem?_extract]
      have := hb.size
      by_cases hk2 : k < w'.heap.size
      · rw [if_pos (by omega)]
        congr 1
        omega
      · rw [Array.getElem?_eq_none (by omega)]
        split
        · rw [Array.getElem?_eq_none (by omega)]
        · rfl
  cases w with
  | mk heap tape drawn os output =>
    cases w' with
    | mk heap' tape' drawn' os' output' =>
      have h1 := hb.os
      have h2 := hb.tape
      have h3 := hb.output
      simp only at h1 h2 h3 hh hd
      subst h1 h2 h3
      simp only [Go.Sort.grow, World.drewN]
      rw [show drawn + (drawn' - drawn) = drawn' by omega, ← hh]
theorem sortWorld_sat {w0 w : World} {L : List HP} {α : Type} [Inhabited α] {enc : α → Value} {g n c : Nat} {xs : List Value} (h : Sat w0 w (Row 9 1 (some ⟨g, 0, none⟩) n c xs :: L)) (d : Array α) (hd : d.size = n) (m : Nat) (os : Array Obj) :
    Sat w0 (sortWorld enc w g 0 m d os) (Row 9 1 (some ⟨g, 0, none⟩) n c (d.toList.map enc) :: L) := by
  unfold sortWorld
  refine (h.putRow enc d hd m).below ⟨rfl, rfl, rfl, by simp [Go.Sort.grow], fun k hk => ?_⟩
  exact Go.Sort.heap_grow_old _ os hk
theorem sort_names {w0 w : World} {L : List HP} {g c : Nat} (M : List ByteArray) (hM : ∀ x ∈ M, isN x = true) (h0 : 0 < M.length) (hlen : M.length < 4611686018427387904) (hO : Old w0 ∈ L) (hT0 : Lib.Utf8Tabs 0 1 w0) (hS : Sat w0 w (Row 9 1 (some ⟨g, 0, none⟩) M.length c (strV M) :: L)) :
    Calls Tryd.prog 31 #[.slice (some ⟨g, 0, none⟩) M.length c, .func (.func 32) #[] #[]] w fun e w' => e = .returned (.tuple #[]) ∧ ∃ M' : List ByteArray, M'.Perm M ∧
      (∀ i j (hi : i < M'.length) (hj : j < M'.length), i < j → M'[i] ≠ M'[j] → cmpN M'[i] M'[j] < 0) ∧ Sat w0 w' (Row 9 1 (some ⟨g, 0, none⟩) M.length c (strV M') :: L) := by
  obtain ⟨d, hd⟩ : ∃ d : Array Nm, d.toList.map Nm.val = M := ⟨(M.attach.map fun x => (⟨x.1, hM x.1 x.2⟩ : Nm)).toArray, by
    rw [List.map_map]
    exact List.attach_map_subtype_val M⟩
  have hds : d.size = M.length := by rw [← hd]; simp
  have hxs : strV M = d.toList.map encNm := by
    rw [← hd]
    unfold strV
    rw [List.map_map]
    rfl
  have hH : Go.Sort.Holds encNm w g 0 d := fun j hj => by
    have hj' : j < M.length := by omega
    obtain ⟨h1, h2⟩ := hS.rowAt (j := j) (v := encNm d[j]) (by rw [hxs, List.getElem?_map, Array.getElem?_toList, Array.getElem?_eq_getElem hj]; rfl)
    rw [Nat.zero_add, getElem!_pos d j hj]
    exact ⟨h1, h2⟩
  have hblk : g < w.heap.size := by
    obtain ⟨h1, _⟩ := hS.rowAt (j := 0) (v := encNm d[0]) (by rw [hxs, List.getElem?_map, Array.getElem?_toList, Array.getElem?_eq_getElem (by omega)]; rfl)
    exact World.block_lt_of_cell? w _ h1
  have eg : ∀ args w, (callFunc 32 args).run Tryd.prog w = .ok (.enter 32 args) w := enters_of Tryd.func32 (by kernel_rfl) rfl
  have hcmp : CmpLays1 Tryd.prog 32 #[] encNm cfNm g 0 d.size w := fun m os dk hdk x y => by
    have hsat := sortWorld_sat (enc := encNm) hS dk (by omega) m os
    have hx := is_short x.ok
    have hy := is_short y.ok
    have hc := compareD_any x.val y.val (sortWorld encNm w g 0 m dk os) y.ok (tabs_keep hT0 (hsat.old (List.mem_cons_of_mem _ hO))) (by omega) (by omega)
    refine Calls.mono (show Calls Tryd.prog 32 (#[encNm x, encNm y] ++ #[]) _ _ from hc) ?_
    rintro e w' ⟨he, hdr⟩
    exact ⟨he, drawn_grow hdr⟩
  have hcon := Tryd.slices_SortFunc encNm (fun _ => rfl) cfNm swoNm 32 #[] g 0 c d w eg hcmp hH hblk (by omega)
  rw [hds] at hcon
  refine Calls.mono (show Calls Tryd.prog 31 _ _ _ from hcon) ?_
  rintro e w' ⟨rfl, d', m, os, hp, hso, rfl⟩
  obtain ⟨hp1, _, hp3⟩ := hp
  have hd's : d'.size = M.length := by rw [hp1, hds]
  rw [← hds, Array.extract_size, show d.size = d'.size from hp1.symm, Array.extract_size] at hp3
  refine ⟨rfl, d'.toList.map Nm.val, ?_, fun i j hi hj hij hne => ?_, ?_⟩
  · rw [← hd]
    exact hp3.map Nm.val
  · have hi' : i < d'.size := by simpa using hi
    have hj' : j < d'.size := by simpa using hj
    have h1 := hso i j (Nat.zero_le _) hij (by omega)
    rw [getElem!_pos d' i hi', getElem!_pos d' j hj'] at h1
    unfold ltOf cfNm at h1
    have h2 := of_decide_eq_false h1
    simp only [List.getElem_map, Array.getElem_toList] at hne ⊢
    have h3 := cmp_back d'[i].val d'[j].val
    by_cases h4 : cmpN d'[i].val d'[j].val = 0
    · exact absurd (cmp_eq d'[i].ok d'[j].ok h4) hne
    · omega
  · have h := sortWorld_sat (enc := encNm) hS d' hd's m os
    have e : strV (d'.toList.map Nm.val) = d'.toList.map encNm := by
      unfold strV
      rw [List.map_map]
      rfl
    rw [e]
    exact h
end Go.Proofs.YtbgbpibfmdkndaaDoor
