/- The tables from the statements' own words; the laws of Is, Fold, Compare, Owner: the walks. -/
import Derived.Test.YtipbjcchhgbabaaDoorOE
import Derived.Test.YtipbjcchhgbabaaDoorRows
import Derived.Lib.LaidU8
import Derived.MakeChecks
set_option linter.unusedVariables false
set_option linter.unusedSimpArgs false
namespace Go.Proofs.YtipbjcchhgbabaaDoor
open Go.RowKit Go.ChangeShapes Go.WideShapes Go.ChangeAt
theorem first_same : Rows.laid_unicode_utf8_first = Lib.firstData := by kernel_rfl
theorem accept_same : (Rows.laid_unicode_utf8_acceptRanges : DataW Unit) = Lib.acceptData := by kernel_rfl
theorem of_laid {W : World} (h : laidMetH Tryd.prog [("unicode/utf8.acceptRanges", Rows.laid_unicode_utf8_acceptRanges), ("unicode/utf8.first", Rows.laid_unicode_utf8_first)] W) : Lib.Utf8Tabs 0 1 W := by
  rw [MakeChecks.laidMetH_plain _ _ _ (by kernel_rfl), first_same, accept_same] at h
  exact utf8Tabs_of_reads Tryd.lays260 ⟨by kernel_rfl, by kernel_rfl, by kernel_rfl, by kernel_rfl, by kernel_rfl, by kernel_rfl, by kernel_rfl⟩ (Lib.laidMet.reads h (.tail _ (.head _))) (Lib.laidMet.reads h (.head _))
theorem of_laid_upto {W : World} (h : laidMet Tryd.prog [("unicode/utf8.acceptRanges", Rows.laid_unicode_utf8_acceptRanges), ("unicode/utf8.first", Rows.laid_unicode_utf8_first)] W) : Lib.Utf8Tabs 0 1 W := by
  rw [first_same, accept_same] at h
  exact utf8Tabs_of_reads Tryd.lays260 ⟨by kernel_rfl, by kernel_rfl, by kernel_rfl, by kernel_rfl, by kernel_rfl, by kernel_rfl, by kernel_rfl⟩ (Lib.laidMet.reads h (.tail _ (.head _))) (Lib.laidMet.reads h (.head _))
/-- a world in which the two tables stand -/
noncomputable def laidWorld (os : Os) : World :=
  let w0 := World.holding Tryd.prog os ⟨#[], #[], []⟩
  let put (h : Array Obj) (g : Nat) (cs : Array Value) : Array Obj := h.modify g fun
    | .cells _ t frozen => .cells cs t frozen
    | o => o
  let h1 := put w0.heap 0 (Lib.firstTab.map fun z => Value.int .u8 z).toArray
  let h2 := put h1 1 ((List.range 16).flatMap fun i => [Value.int .u8 (Lib.accLo i), Value.int .u8 (Lib.accHi i)]).toArray
  { w0 with heap := h2 }
/-! what folding does -/
theorem cat_mem {T : List NM.Tok} {x : Nat} (h : x ∈ NM.cat T) : ∃ t ∈ T, x ∈ t.2 := by
  unfold NM.cat at h
  obtain ⟨l, hl, hx⟩ := List.mem_flatten.1 h
  obtain ⟨t, ht, rfl⟩ := List.mem_map.1 hl
  exact ⟨t, ht, hx⟩
theorem mem_cat {T : List NM.Tok} {x : Nat} {t : NM.Tok} (h : t ∈ T) (hx : x ∈ t.2) : x ∈ NM.cat T := List.mem_flatten.2 ⟨t.2, List.mem_map.2 ⟨t, h, rfl⟩, hx⟩
theorem fold_lt (s : ByteArray) : ∀ x ∈ NM.foldB (NM.toks (bs s)), x < 256 := by
  intro x hx
  obtain ⟨t, ht, hxt⟩ := cat_mem hx
  obtain ⟨u, hu, rfl⟩ := List.mem_map.1 ht
  unfold NM.foldT at hxt
  split at hxt
  · refine bs_lt s x ?_
    rw [← NM.cat_toks (bs s)]
    exact mem_cat hu hxt
  · rename_i h
    exact enc_lt _ (by have := NM.small_lt _ h; omega) x hxt
theorem bs_foldS (s : ByteArray) : bs (foldS s) = NM.foldB (NM.toks (bs s)) := by
  unfold foldS tk
  rw [List.drop_zero]
  exact bs_strOf _ (fold_lt s)
theorem foldT_len (l : List Nat) : ∀ t ∈ NM.toks l, (NM.foldT t).2.length = t.2.length := by
  intro t ht
  unfold NM.foldT
  split
  · rfl
  · rename_i h
    have he := (NM.toks_enc l t ht).2 (by intro e; rw [e] at h; exact absurd h (by decide))
    rw [he]
    exact enc_small_len h
theorem cat_len (T : List NM.Tok) (h : ∀ t ∈ T, (NM.foldT t).2.length = t.2.length) : (NM.cat (T.map NM.foldT)).length = (NM.cat T).length := by
  induction T with
  | nil => rfl
  | cons t T ih =>
    rw [List.map_cons, NM.cat_cons, NM.cat_cons, List.length_append, List.length_append, h t (.head _), ih fun u hu => h u (.tail _ hu)]
theorem foldS_size (s : ByteArray) : (foldS s).size = s.size := by
  rw [← bs_len (foldS s), bs_foldS, NM.foldB, cat_len _ (foldT_len (bs s)), NM.cat_toks, bs_len]
theorem foldS_foldS (s : ByteArray) : foldS (foldS s) = foldS s := by
  apply bs_inj
  rw [bs_foldS, bs_foldS, NM.fold_fold]
theorem tk_zero (s : ByteArray) : tk s 0 = NM.toks (bs s) := by unfold tk; rw [List.drop_zero]
theorem is_foldS (s : ByteArray) (h : NM.isT 0 (tk s 0) = true) : foldS s = s := by
  rw [tk_zero] at h
  apply bs_inj
  rw [bs_foldS, NM.is_fold _ h]
theorem cmp_eq (a b : ByteArray) (ha : NM.isT 0 (tk a 0) = true) (hb : NM.isT 0 (tk b 0) = true) : NM.cmpT (tk a 0) (tk b 0) = 0 ↔ a = b := by
  constructor
  · intro h
    rw [tk_zero] at ha hb
    have := NM.cmpT_zero _ _ h
    rw [tk_zero, tk_zero] at this
    exact bs_inj (NM.name_eq _ _ ha hb this)
  · rintro rfl
    exact NM.cmpT_self _ _ rfl
set_option maxRecDepth 100000
set_option maxHeartbeats 1600000
theorem nameIs_walk (s : ByteArray) (w : World) (hT : Lib.Utf8Tabs 0 1 w) (w0 : s.size ≤ 140737488351232) : Calls Tryd.prog 3 #[.string s] w fun e w' => e = .returned (.bool true) ∧ Below w.heap.size w w' := by
  have HT := Lib.hid hT
  clear hT
  obtain ⟨b, hb⟩ : ∃ b, NM.isT 0 (tk s 0) = b := ⟨_, rfl⟩
  have HB := Lib.hid hb
  clear hb
  have hS := Sat.start w
  cases b
  all_goals
    go_enter Tryd.func3, Tryd.ntmps3
    go_wp2_with (first
      | (go_at_call 13; refine (is_any s _ w0).mono ?_; rintro e w2 ⟨rfl, hb⟩; rw [HB.out]; replace hS := hS.below hb; clear hb)
      | (go_at_call 14; refine (ris_any s _ w0).mono ?_; rintro e w2 ⟨rfl, rfl⟩; rw [HB.out])
      | (go_at_call 15; refine (live_any _ (tabs_keep HT.out (hS.old (by simp)))).mono ?_; rintro e w9 ⟨rfl, hb⟩; replace hS := hS.below hb; clear hb))
    go_ret
    exact ⟨rfl, hS.old (by simp)⟩
theorem nameFolds_walk (s : ByteArray) (w : World) (hT : Lib.Utf8Tabs 0 1 w) (w0 : s.size ≤ 140737488351232) : Calls Tryd.prog 4 #[.string s] w fun e w' => e = .returned (.bool true) ∧ Below w.heap.size w w' := by
  have HT := Lib.hid hT
  clear hT
  have k1 := str_yes (foldS s)
  have hS := Sat.start w
  go_enter Tryd.func4, Tryd.ntmps4
  go_wp2_with (first
    | (go_at_call 16; refine (fold_any s _ (tabs_keep HT.out (hS.old (by simp))) w0).mono ?_; rintro e w2 ⟨rfl, hb⟩; replace hS := hS.below hb; clear hb)
    | (go_at_call 17; refine (rfold_any s _ w0).mono ?_; rintro e w2 ⟨rfl, hb⟩; replace hS := hS.below hb; clear hb)
    | (go_at_call 15; refine (live_any _ (tabs_keep HT.out (hS.old (by simp)))).mono ?_; rintro e w9 ⟨rfl, hb⟩; replace hS := hS.below hb; clear hb))
  go_ret
  exact ⟨rfl, hS.old (by simp)⟩
theorem nameCompares_walk (a b : ByteArray) (w : World) (hT : Lib.Utf8Tabs 0 1 w) (w0 : a.size ≤ 1048576) (w1 : b.size ≤ 1048576) : Calls Tryd.prog 5 #[.string a, .string b] w fun e w' => e = .returned (.bool true) ∧ Below w.heap.size w w' := by
  have HT := Lib.hid hT
  clear hT
  obtain ⟨x, hx⟩ : ∃ z, NM.cmpT (tk a 0) (tk b 0) = z := ⟨_, rfl⟩
  obtain ⟨y, hy⟩ : ∃ z, NM.cmpT (tk b 0) (tk a 0) = z := ⟨_, rfl⟩
  have HX := Lib.hid hx
  have HY := Lib.hid hy
  clear hx hy
  have t1 : (x == x) = true := by simp
  have t2 : (y == y) = true := by simp
  have hS := Sat.start w
  go_enter Tryd.func5, Tryd.ntmps5
  go_wp2_with fail
  refine (compare_any a b _ (tabs_keep HT.out (hS.old (by simp))) (by omega) (by omega)).mono ?_
  rintro e w9 ⟨rfl, hb9⟩
  rw [HX.out]
  replace hS := hS.below hb9
  clear hb9
  go_wp2_with fail
  refine (compare_any b a _ (tabs_keep HT.out (hS.old (by simp))) (by omega) (by omega)).mono ?_
  rintro e w9 ⟨rfl, hb9⟩
  rw [HY.out]
  replace hS := hS.below hb9
  clear hb9
  go_wp2_with fail
  refine (rcompare_any a b _ (by omega) (by omega)).mono ?_
  rintro e w9 ⟨rfl, hb9⟩
  rw [HX.out]
  replace hS := hS.below hb9
  clear hb9
  go_wp2_with fail
  refine (rcompare_any b a _ (by omega) (by omega)).mono ?_
  rintro e w9 ⟨rfl, hb9⟩
  rw [HY.out]
  replace hS := hS.below hb9
  clear hb9
  go_wp2_with fail
  refine (live_any _ (tabs_keep HT.out (hS.old (by simp)))).mono ?_
  rintro e w9 ⟨rfl, hb9⟩
  replace hS := hS.below hb9
  clear hb9
  go_wp2_with fail
  go_ret
  exact ⟨rfl, hS.old (by simp)⟩
theorem nameOwners_walk (s : ByteArray) (w : World) (hT : Lib.Utf8Tabs 0 1 w) (w0 : s.size ≤ 1048576) : Calls Tryd.prog 6 #[.string s] w fun e w' => e = .returned (.bool true) ∧ Below w.heap.size w w' := by
  have HT := Lib.hid hT
  clear hT
  obtain ⟨x, hx⟩ : ∃ b, sumT (tk s 0) % 4 = b := ⟨_, rfl⟩
  have HX := Lib.hid hx
  clear hx
  have t1 : ((x : Int) == (x : Int)) = true := by simp
  have hS := Sat.start w
  go_enter Tryd.func6, Tryd.ntmps6
  go_wp2_with (first
    | (go_at_call 20; refine (owner_any s _ (by omega)).mono ?_; rintro e w2 ⟨rfl, hb⟩; rw [HX.out]; replace hS := hS.below hb; clear hb)
    | (go_at_call 21; refine (rowner_any s _ (by omega)).mono ?_; rintro e w2 ⟨rfl, hb⟩; rw [HX.out]; replace hS := hS.below hb; clear hb)
    | (go_at_call 15; refine (live_any _ (tabs_keep HT.out (hS.old (by simp)))).mono ?_; rintro e w9 ⟨rfl, hb⟩; replace hS := hS.below hb; clear hb))
  go_ret
  exact ⟨rfl, hS.old (by simp)⟩
theorem nameFolded_walk (s : ByteArray) (w : World) (hT : Lib.Utf8Tabs 0 1 w) (w0 : s.size ≤ 140737488351232) : Calls Tryd.prog 8 #[.string s] w fun e w' => e = .returned (.bool true) ∧ Below w.heap.size w w' := by
  have HT := Lib.hid hT
  clear hT
  have k0 := is_foldS s
  obtain ⟨b, hb⟩ : ∃ b, NM.isT 0 (tk s 0) = b := ⟨_, rfl⟩
  rw [hb] at k0
  have HB := Lib.hid hb
  have hff := foldS_foldS s
  have hfs := foldS_size s
  obtain ⟨f, hf⟩ : ∃ f, foldS s = f := ⟨_, rfl⟩
  rw [hf] at k0 hff hfs
  have HF := Lib.hid hf
  have HFF := Lib.hid hff
  clear hb hf hff
  have k1 := str_yes f
  have hS := Sat.start w
  cases b
  · clear k0
    go_enter Tryd.func8, Tryd.ntmps8
    go_wp2_with fail
    refine (fold_any s _ (tabs_keep HT.out (hS.old (by simp))) w0).mono ?_
    rintro e w9 ⟨rfl, hb9⟩
    rw [HF.out]
    replace hS := hS.below hb9
    clear hb9
    go_wp2_with fail
    refine (fold_any f _ (tabs_keep HT.out (hS.old (by simp))) (by omega)).mono ?_
    rintro e w9 ⟨rfl, hb9⟩
    rw [HFF.out]
    replace hS := hS.below hb9
    clear hb9
    go_wp2_with fail
    refine (is_any s _ w0).mono ?_
    rintro e w9 ⟨rfl, hb9⟩
    rw [HB.out]
    replace hS := hS.below hb9
    clear hb9
    go_wp2_with fail
    refine (live_any _ (tabs_keep HT.out (hS.old (by simp)))).mono ?_
    rintro e w9 ⟨rfl, hb9⟩
    replace hS := hS.below hb9
    clear hb9
    go_wp2_with fail
    go_ret
    exact ⟨rfl, hS.old (by simp)⟩
  · obtain rfl := k0 rfl
    clear hfs
    go_enter Tryd.func8, Tryd.ntmps8
    go_wp2_with fail
    refine (fold_any f _ (tabs_keep HT.out (hS.old (by simp))) w0).mono ?_
    rintro e w9 ⟨rfl, hb9⟩
    rw [HFF.out]
    replace hS := hS.below hb9
    clear hb9
    go_wp2_with fail
    refine (fold_any f _ (tabs_keep HT.out (hS.old (by simp))) w0).mono ?_
    rintro e w9 ⟨rfl, hb9⟩
    rw [HFF.out]
    replace hS := hS.below hb9
    clear hb9
    go_wp2_with fail
    refine (is_any f _ w0).mono ?_
    rintro e w9 ⟨rfl, hb9⟩
    rw [HB.out]
    replace hS := hS.below hb9
    clear hb9
    go_wp2_with fail
    refine (live_any _ (tabs_keep HT.out (hS.old (by simp)))).mono ?_
    rintro e w9 ⟨rfl, hb9⟩
    replace hS := hS.below hb9
    clear hb9
    go_wp2_with fail
    go_ret
    exact ⟨rfl, hS.old (by simp)⟩
end Go.Proofs.YtipbjcchhgbabaaDoor
