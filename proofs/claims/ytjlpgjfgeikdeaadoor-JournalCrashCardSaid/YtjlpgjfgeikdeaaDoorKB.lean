/- The plain law: any journal, call by call; what a cut file has. -/
import Derived.Test.YtjlpgjfgeikdeaaDoorJ5
set_option linter.unusedVariables false
set_option linter.unusedSimpArgs false
set_option linter.unnecessarySimpa false
set_option maxRecDepth 100000
namespace Go.Proofs.YtjlpgjfgeikdeaaDoor
open Go.RowKit Go.ChangeShapes Go.WideShapes Go.ChangeAt
open Fr (strOfNats strOfNats_size strOfNats_bytes bytesOf Table restOf wrapS)
theorem takeN_le (f : Nat) : ∀ (k n : Nat) (l : List Nat), (JnM.takeN f k n l).1 ≤ 1125899906842624 := by
  induction f with
  | zero => intro k n l; exact Nat.zero_le _
  | succ f ih =>
    intro k n l
    cases l with
    | nil => exact Nat.zero_le _
    | cons b l =>
      rw [JnM.takeN]
      split
      · split
        · exact Nat.zero_le _
        · rename_i h; show n + b * 2 ^ (7 * k) ≤ _; omega
      · exact ih _ _ _
theorem headGen_le (s : ByteArray) : headGen s ≤ 1125899906842624 := by
  unfold headGen
  split
  · exact takeN_le _ _ _ _
  · exact Nat.zero_le _
theorem foundB_gen (l : List ByteArray) : (foundB l).gen ≤ 1125899906842624 := by
  cases l with
  | nil => exact Nat.zero_le _
  | cons h t =>
    rw [foundB]
    split
    · exact headGen_le h
    · exact Nat.zero_le _
theorem foundB_size (l : List ByteArray) : 8 * (foundB l).recs.length ≤ (foundB l).size ∧ (foundB l).size ≤ sizeB l := by
  cases l with
  | nil => exact ⟨Nat.le_refl _, Nat.le_refl _⟩
  | cons h t =>
    rw [foundB]
    split
    · have := sizeB_len (shortB t)
      refine ⟨by show 8 * (shortB t).length ≤ 8 + h.size + sizeB (shortB t); omega, ?_⟩
      show 8 + h.size + sizeB (shortB t) ≤ 8 + h.size + sizeB t
      have : ∀ l : List ByteArray, sizeB (shortB l) ≤ sizeB l := by
        intro l
        induction l with
        | nil => exact Nat.le_refl _
        | cons r l ih =>
          rw [shortB]
          split
          · simp only [sizeB]; omega
          · exact Nat.zero_le _
      have := this t
      omega
    · exact ⟨Nat.le_refl _, Nat.zero_le _⟩
theorem foundM_size (M : MD) (i : Nat) : 8 * (foundM M i).recs.length ≤ (foundM M i).size ∧ (foundM M i).size ≤ (M.f i).b.size := by
  have h1 := foundB_size (scanB (M.f i).b)
  have h2 := sizeB_scan (M.f i).b
  exact ⟨h1.1, Nat.le_trans h1.2 h2⟩
theorem cut_eq {M : MD} {n z : Nat} (hn : n < 4) (hz : z ≤ (M.f n).b.size) : (cutR M (n : Int) (z : Int)).1 = M.set n ⟨(M.f n).b.extract 0 z, min (M.f n).safe z⟩ := by
  unfold cutR
  rw [if_pos (isB_file hn)]
  simp only [Int.toNat_natCast]
  rw [if_pos ⟨by omega, by omega⟩]
theorem ext_zero (b : ByteArray) : b.extract 0 0 = ⟨#[]⟩ := by
  apply ByteArray.ext
  apply Array.toList_inj.1
  simp
/-- the files that Open leaves -/
theorem openM_f (M : MD) (i : Nat) : (openM M).f i = if i = taken M then ⟨(M.f i).b.extract 0 (takenF M).size, (takenF M).size⟩ else if i = 1 - taken M then ⟨⟨#[]⟩, 0⟩ else M.f i := by
  have ht := taken_lt M
  have hz : (takenF M).size ≤ (M.f (taken M)).b.size := (foundM_size M (taken M)).2
  unfold openM
  rw [sync_eq (by omega)]
  have hc0 := cut_eq (M := M) (n := 1 - taken M) (z := 0) (by omega) (Nat.zero_le _)
  rw [show ((0 : Nat) : Int) = 0 from rfl] at hc0
  rw [hc0]
  rw [cut_eq (by omega) (by rw [set_f, if_neg (by omega)]; exact hz)]
  have hne : ¬ taken M = 1 - taken M := by omega
  simp only [set_f]
  by_cases h : i = taken M
  · subst h
    simp only [if_neg hne, ↓reduceIte, ByteArray.size_extract]
    congr 1
    omega
  · simp only [if_neg h]
    by_cases h2 : i = 1 - taken M
    · simp only [if_pos h2, ext_zero]
      simp
    · simp only [if_neg h2]
/-- a journal in order; gen 0: there is none -/
structure Sane (M : MD) (J : JS) : Prop where
  ok : M.Ok
  file : J.file < 2
  gen : J.gen ≤ 1125899906842624
  n : 8 * J.n ≤ (M.f J.file).b.size
theorem Sane.n_le {M : MD} {J : JS} (h : Sane M J) : J.n ≤ 131072 := by
  have := h.n
  have := (ok_size h.ok J.file (by have := h.file; omega)).1
  omega
def openJ (M : MD) : MD × JS := if (takenF M).gen = 0 then (M, ⟨0, 0, 0⟩) else (openM M, ⟨taken M, (takenF M).gen, (takenF M).recs.length⟩)
theorem openJ_ok {M : MD} (h : M.Ok) : (openJ M).1.Ok := by
  unfold openJ
  split
  · exact h
  · exact openM_ok h
theorem openJ_sane {M : MD} (h : M.Ok) (hg : (openJ M).2.gen ≠ 0) : Sane (openJ M).1 (openJ M).2 := by
  unfold openJ at hg ⊢
  by_cases h0 : (takenF M).gen = 0
  · rw [if_pos h0] at hg; exact absurd rfl hg
  · rw [if_neg h0]
    have hz := foundM_size M (taken M)
    refine ⟨openM_ok h, taken_lt M, foundB_gen _, ?_⟩
    show 8 * (takenF M).recs.length ≤ ((openM M).f (taken M)).b.size
    rw [openM_f, if_pos rfl]
    simp only [ByteArray.size_extract]
    have : takenF M = foundM M (taken M) := rfl
    rw [this]
    omega
/-- a call -/
def stepJ (M : MD) (J : JS) (o : JOp) : MD × JS :=
  if o.act = 0 then ((addR M J o.s).1, (addR M J o.s).2.1)
  else if o.act = 1 then ((jsyncR M J).1, J)
  else if o.act = 2 then ((compR M J o.s).1, (compR M J o.s).2.1)
  else if o.act = 3 then openJ (crashM M o.num.toNat)
  else if o.act = 4 then openJ M
  else (M, J)
theorem add_sane {M : MD} {J : JS} (h : Sane M J) (s : ByteArray) : Sane (addR M J s).1 (addR M J s).2.1 := by
  have hf4 : J.file < 4 := by have := h.file; omega
  unfold addR
  split
  · exact h
  · split
    · rename_i h2
      refine ⟨app_ok h.ok _ _, h.file, h.gen, ?_⟩
      show 8 * (J.n + 1) ≤ ((appR M J.file (wrapS s)).1.f J.file).b.size
      rw [app_eq hf4 h2, set_f, if_pos rfl]
      simp only [ByteArray.size_append, wrapS_size]
      have := h.n
      omega
    · exact h
theorem sync_sane {M : MD} {J : JS} (h : Sane M J) : Sane (jsyncR M J).1 J := by
  have hf4 : J.file < 4 := by have := h.file; omega
  unfold jsyncR
  refine ⟨sync_ok h.ok _, h.file, h.gen, ?_⟩
  rw [sync_eq hf4]
  show 8 * J.n ≤ ((M.set _ _).f _).b.size
  rw [set_f, if_pos rfl]
  exact h.n
theorem lays_no {M : MD} {file gen : Nat} {snap : ByteArray} (hf : file < 4) (h : (laysR M file gen snap).2 ≠ 0) : (laysR M file gen snap).1 = M := by
  unfold laysR at h ⊢
  split
  · split
    · rename_i h1 h2
      rw [if_pos h1, if_pos h2, sync_eq hf] at h
      exact absurd rfl h
    · rfl
  · rfl
theorem lays_yes {M : MD} {file gen : Nat} {snap : ByteArray} (hf : file < 4) (h : (laysR M file gen snap).2 = 0) :
    gen ≤ 1125899906842624 ∧ snap.size ≤ 190000 ∧ (appR M (file : Int) (headS gen snap)).2 = 0 ∧ (laysR M file gen snap).1 = M.set file ⟨(M.f file).b ++ headS gen snap, ((M.f file).b ++ headS gen snap).size⟩ := by
  unfold laysR at h ⊢
  by_cases h1 : gen ≤ 1125899906842624 ∧ snap.size ≤ 190000
  · rw [if_pos h1] at h ⊢
    by_cases h2 : (appR M (file : Int) (headS gen snap)).2 = 0
    · rw [if_pos h2] at h ⊢
      refine ⟨h1.1, h1.2, h2, ?_⟩
      rw [app_eq hf h2, sync_eq hf]
      unfold MD.set
      simp only [if_pos]
      congr 1
      funext i
      split <;> rfl
    · rw [if_neg h2] at h; exact absurd h h2
  · rw [if_neg h1] at h; simp at h
theorem comp_sane {M : MD} {J : JS} (h : Sane M J) (s : ByteArray) : Sane (compR M J s).1 (compR M J s).2.1 := by
  have hf := h.file
  unfold compR
  split
  · rename_i h2
    obtain ⟨g1, g2, g3, g4⟩ := lays_yes (by omega) h2
    exact ⟨cut_ok (lays_ok h.ok _ _ _) _ _, by show 1 - J.file < 2; omega, g1, Nat.zero_le _⟩
  · rename_i h2
    have := lays_no (by omega) h2
    rw [this]
    exact h
theorem step_ok {M : MD} {J : JS} (h : Sane M J) (o : JOp) : (stepJ M J o).1.Ok := by
  unfold stepJ
  split
  · exact (add_sane h _).ok
  · split
    · exact (sync_sane h).ok
    · split
      · exact (comp_sane h _).ok
      · split
        · exact openJ_ok (crash_ok h.ok _)
        · split
          · exact openJ_ok h.ok
          · exact h.ok
theorem step_sane {M : MD} {J : JS} (h : Sane M J) (o : JOp) (hg : (stepJ M J o).2.gen ≠ 0) : Sane (stepJ M J o).1 (stepJ M J o).2 := by
  unfold stepJ at hg ⊢
  split at hg
  · rename_i c; rw [if_pos c]; exact add_sane h _
  · rename_i c; rw [if_neg c]
    split at hg
    · rename_i c; rw [if_pos c]; exact sync_sane h
    · rename_i c; rw [if_neg c]
      split at hg
      · rename_i c; rw [if_pos c]; exact comp_sane h _
      · rename_i c; rw [if_neg c]
        split at hg
        · rename_i c; rw [if_pos c]; exact openJ_sane (crash_ok h.ok _) hg
        · rename_i c; rw [if_neg c]
          split at hg
          · rename_i c; rw [if_pos c]; exact openJ_sane h.ok hg
          · rename_i c; rw [if_neg c]; exact h
/-- what is not safe ahead of a file -/
def unsafeN (M : MD) : Nat → Nat
  | 0 => 0
  | k + 1 => unsafeN M k + ((M.f k).b.size - (M.f k).safe)
theorem left_eq (M : MD) (L : Nat) : ∀ k, (crashTo M L k).2 = L - unsafeN M k := by
  intro k
  induction k with
  | zero => rfl
  | succ k ih =>
    show (crashTo M L k).2 - keptOf (M.f k) (crashTo M L k).2 = L - unsafeN M (k + 1)
    rw [ih, show unsafeN M (k + 1) = unsafeN M k + ((M.f k).b.size - (M.f k).safe) from rfl]
    unfold keptOf
    omega
theorem crash_f' (M : MD) (L : Nat) : ∀ n k, k < n → (crashTo M L n).1.f k = crashF (M.f k) (L - unsafeN M k) := by
  intro n
  induction n with
  | zero => intro k hk; omega
  | succ n ih =>
    intro k hk
    show ((crashTo M L n).1.set n (crashF (M.f n) (crashTo M L n).2)).f k = _
    rw [set_f]
    by_cases e : k = n
    · rw [if_pos e, e, left_eq]
    · rw [if_neg e]; exact ih k (by omega)
/-- what a file keeps of a crash -/
def keptN (M : MD) (L k : Nat) : Nat := (M.f k).safe + min (L - unsafeN M k) ((M.f k).b.size - (M.f k).safe)
theorem crash_f (M : MD) (L k : Nat) (hk : k < 4) : (crashM M L).f k = ⟨(M.f k).b.extract 0 (keptN M L k), keptN M L k⟩ := by
  rw [show (crashM M L).f k = crashF (M.f k) (L - unsafeN M k) from crash_f' M L 4 k hk]
  rfl
theorem kept_le {M : MD} (h : M.Ok) (L k : Nat) (hk : k < 4) : (M.f k).safe ≤ keptN M L k ∧ keptN M L k ≤ (M.f k).b.size := by
  have := (ok_size h k hk).2
  unfold keptN
  omega
theorem kept_mono (M : MD) {L K : Nat} (h : L ≤ K) (k : Nat) : keptN M L k ≤ keptN M K k := by
  unfold keptN
  omega
/-- how many frames fit -/
def fitN : List ByteArray → Nat → Nat
  | [], _ => 0
  | r :: l, m => if 8 + r.size ≤ m then fitN l (m - (8 + r.size)) + 1 else 0
theorem fit_le : ∀ (L : List ByteArray) (m : Nat), fitN L m ≤ L.length
  | [], _ => Nat.le_refl _
  | r :: l, m => by
    rw [fitN]
    split
    · have := fit_le l (m - (8 + r.size)); simp only [List.length_cons]; omega
    · exact Nat.zero_le _
theorem fit_mono : ∀ (L : List ByteArray) (m k : Nat), m ≤ k → fitN L m ≤ fitN L k
  | [], _, _, _ => Nat.le_refl _
  | r :: l, m, k, h => by
    rw [fitN, fitN]
    split
    · rw [if_pos (by omega)]
      have := fit_mono l (m - (8 + r.size)) (k - (8 + r.size)) (by omega)
      omega
    · exact Nat.zero_le _
theorem fit_ge : ∀ (L : List ByteArray) (t m : Nat), t ≤ L.length → sizeB (L.take t) ≤ m → t ≤ fitN L m
  | [], t, _, h, _ => h
  | r :: l, 0, m, _, _ => Nat.zero_le _
  | r :: l, t + 1, m, h, hm => by
    rw [List.take_succ_cons] at hm
    simp only [sizeB] at hm
    rw [fitN, if_pos (by omega)]
    have := fit_ge l t (m - (8 + r.size)) (by simpa using h) (by omega)
    omega
theorem fit_size : ∀ (L : List ByteArray) (m : Nat), sizeB (L.take (fitN L m)) ≤ m
  | [], m => by simp [fitN, sizeB]
  | r :: l, m => by
    rw [fitN]
    split
    · rename_i h
      rw [List.take_succ_cons]
      simp only [sizeB]
      have := fit_size l (m - (8 + r.size))
      omega
    · simp [sizeB]
theorem scan_fit : ∀ (L : List ByteArray) (m : Nat), (∀ r ∈ L, r.size ≤ 200000) → (FrM.scanL ((FrM.wraps (L.map bytesOf)).take m)).1 = (L.take (fitN L m)).map bytesOf
  | [], m, _ => by
    simp only [List.map_nil, FrM.wraps, List.take_nil, fitN]
    rw [FrM.scanL_none FrM.size_nil]
  | r :: l, m, h => by
    have hr := h r (by simp)
    have hl := FrM.wrap_length (bytesOf r)
    rw [len_bytes'] at hl
    rw [List.map_cons, FrM.wraps, fitN, List.take_append, hl]
    by_cases hm : 8 + r.size ≤ m
    · rw [if_pos hm, List.take_of_length_le (by omega), FrM.scan_wrap _ _ (by rw [len_bytes']; exact hr)]
      have ih := scan_fit l (m - (8 + r.size)) fun x hx => h x (by simp [hx])
      rw [show m - (r.size + 8) = m - (8 + r.size) by omega]
      simp only [List.take_succ_cons, List.map_cons, ih]
    · rw [if_neg hm, show m - (r.size + 8) = 0 by omega, List.take_zero, List.append_nil]
      have := FrM.size_cut (bytesOf r) (by rw [len_bytes']; exact hr) (r.size + 8 - m) (by omega) (by rw [len_bytes']; omega)
      rw [len_bytes', show r.size + 8 - (r.size + 8 - m) = m by omega] at this
      rw [FrM.scanL_none this]
      rfl
theorem scanB_fit (L : List ByteArray) (m : Nat) (h : ∀ r ∈ L, r.size ≤ 200000) : scanB ((wrapsS L).extract 0 m) = L.take (fitN L m) := by
  symm
  apply scanB_of
  rw [Fr.bytes_extract, wrapsS_bytes, List.drop_zero, Nat.sub_zero, scan_fit L m h]
theorem ex_ex' (b : ByteArray) (n m : Nat) (h : m ≤ n) : (b.extract 0 n).extract 0 m = b.extract 0 m := by
  apply ByteArray.ext
  apply Array.toList_inj.1
  simp only [ByteArray.data_extract, Array.toList_extract, List.extract_eq_take_drop, List.drop_zero, Nat.sub_zero, List.take_take]
  rw [Nat.min_eq_left h]
theorem ex_front (a b : ByteArray) (n : Nat) (h : n = a.size) : (a ++ b).extract 0 n = a := by
  apply Fr.bytes_inj
  rw [Fr.bytes_extract, Fr.bytes_append, List.drop_zero, Nat.sub_zero, List.take_append_of_le_length (by rw [len_bytes']; omega), List.take_of_length_le (by rw [len_bytes']; omega)]
theorem ex_whole (b : ByteArray) (n : Nat) (h : b.size ≤ n) : b.extract 0 n = b := by
  apply Fr.bytes_inj
  rw [Fr.bytes_extract, List.drop_zero, Nat.sub_zero, List.take_of_length_le (by rw [len_bytes']; omega)]
/-- the disk behind a crash: the file that holds is a beginning with its whole head, the other one is empty -/
structure CutG (M : MD) (file gen : Nat) (snap : ByteArray) (recs : List ByteArray) (m : Nat) : Prop where
  ok : M.Ok
  fl : file < 2
  gen1 : 1 ≤ gen
  gen2 : gen ≤ 1125899906842624
  hsnap : snap.size ≤ 190000
  hrecs : ∀ r ∈ recs, r.size ≤ 4000
  here : (M.f file).b = (fileS gen snap recs).extract 0 m
  other : (M.f (1 - file)).b = ⟨#[]⟩
  head : (headS gen snap).size ≤ m
/-- how many records such a file has -/
def fewN (gen : Nat) (snap : ByteArray) (recs : List ByteArray) (m : Nat) : Nat := fitN recs (m - (headS gen snap).size)
section
variable {M : MD} {J : JS} {file gen m : Nat} {snap : ByteArray} {recs : List ByteArray}
theorem head_sz : (headS gen snap).size = 8 + (headRS gen snap).size := by unfold headS; rw [wrapS_size]; omega
theorem CutG.scan (h : CutG M file gen snap recs m) : scanB (M.f file).b = headRS gen snap :: recs.take (fewN gen snap recs m) := by
  rw [h.here, file_wraps, scanB_fit]
  · have := h.head
    rw [fitN, if_pos (by rw [← head_sz]; exact h.head)]
    rw [List.take_succ_cons]
    unfold fewN
    rw [head_sz]
  · intro r hr
    rcases List.mem_cons.1 hr with rfl | hr
    · have := headRS_size h.gen2 snap
      have := h.hsnap
      omega
    · have := h.hrecs r hr
      omega
theorem CutG.found (h : CutG M file gen snap recs m) : foundM M file = ⟨gen, snap, recs.take (fewN gen snap recs m), (fileS gen snap (recs.take (fewN gen snap recs m))).size⟩ := by
  unfold foundM
  rw [h.scan, found_file h.gen1 h.gen2 h.hsnap fun r hr => h.hrecs r (List.mem_of_mem_take hr)]
theorem CutG.taken (h : CutG M file gen snap recs m) : taken M = file ∧ takenF M = ⟨gen, snap, recs.take (fewN gen snap recs m), (fileS gen snap (recs.take (fewN gen snap recs m))).size⟩ := by
  have h1 := h.found
  have h2 : foundM M (1 - file) = FB.none := by
    unfold foundM
    rw [h.other, scan_empty]
    rfl
  have hg := h.gen1
  have hf := h.fl
  have ht : Go.Proofs.YtjlpgjfgeikdeaaDoor.taken M = file := by
    unfold Go.Proofs.YtjlpgjfgeikdeaaDoor.taken
    have : file = 0 ∨ file = 1 := by omega
    rcases this with e | e
    · rw [e] at h1 h2 ⊢
      rw [h1, h2]
      rfl
    · rw [e] at h1 h2 ⊢
      rw [h1, show foundM M 0 = FB.none from h2]
      exact if_pos (by show 0 < gen; omega)
  exact ⟨ht, by unfold takenF; rw [ht, h1]⟩
theorem file_take (q : Nat) : fileS gen snap recs = fileS gen snap (recs.take q) ++ wrapsS (recs.drop q) := by
  unfold fileS
  rw [ByteArray.append_assoc, ← wrapsS_append, List.take_append_drop]
theorem file_size : (fileS gen snap recs).size = (headS gen snap).size + sizeB recs := by
  unfold fileS
  rw [ByteArray.size_append, wrapsS_size]
/-- behind Open -/
theorem CutG.open_ (h : CutG M file gen snap recs m) : Good (openM M) ⟨file, gen, (recs.take (fewN gen snap recs m)).length⟩ snap (recs.take (fewN gen snap recs m)) ∧
    ((openM M).f file).safe = (fileS gen snap (recs.take (fewN gen snap recs m))).size := by
  obtain ⟨h1, h2⟩ := h.taken
  have hf := h.fl
  have hq : (fileS gen snap (recs.take (fewN gen snap recs m))).size ≤ m := by
    rw [file_size]
    have := fit_size recs (m - (headS gen snap).size)
    have := h.head
    unfold fewN
    omega
  refine ⟨⟨openM_ok h.ok, h.fl, h.gen1, h.gen2, rfl, h.hsnap, fun r hr => h.hrecs r (List.mem_of_mem_take hr), ?_, ?_⟩, ?_⟩
  · show ((openM M).f file).b = fileS gen snap _
    rw [openM_f, if_pos h1.symm, h2]
    simp only
    rw [h.here, ex_ex' _ _ _ hq]
    rw [file_take (gen := gen) (snap := snap) (recs := recs) (fewN gen snap recs m)]
    exact ex_front _ _ _ rfl
  · show ((openM M).f (1 - file)).b = _
    rw [openM_f, h1, if_neg (by omega), if_pos rfl]
  · rw [openM_f, if_pos h1.symm, h2]
/-- so many records are safe -/
def Safe (M : MD) (J : JS) (snap : ByteArray) (recs : List ByteArray) (t : Nat) : Prop := t ≤ recs.length ∧ (fileS J.gen snap (recs.take t)).size ≤ (M.f J.file).safe
theorem safe_all (h : Good M J snap recs) (hs : (M.f J.file).safe = (fileS J.gen snap recs).size) : Safe M J snap recs recs.length :=
  ⟨Nat.le_refl _, by rw [List.take_length, hs]; exact Nat.le_refl _⟩
/-- a crash -/
theorem Good.crash {t : Nat} (h : Good M J snap recs) (hs : Safe M J snap recs t) (L : Nat) : CutG (crashM M L) J.file J.gen snap recs (keptN M L J.file) ∧ t ≤ fewN J.gen snap recs (keptN M L J.file) := by
  have hf := h.file
  have k1 := kept_le h.ok L J.file (by omega)
  have k2 := kept_le h.ok L (1 - J.file) (by omega)
  have e := hs.2
  rw [file_size] at e
  refine ⟨⟨crash_ok h.ok L, h.file, h.gen1, h.gen2, h.hsnap, h.hrecs, ?_, ?_, by omega⟩, ?_⟩
  · rw [crash_f M L _ (by omega), h.here]
  · rw [crash_f M L _ (by omega)]
    rw [h.other] at k2 ⊢
    simp only
    have z0 : (⟨#[]⟩ : ByteArray).size = 0 := rfl
    have : keptN M L (1 - J.file) = 0 := by have := k2.2; omega
    rw [this]
    exact ext_zero _
  · exact fit_ge recs t _ hs.1 (by omega)
theorem Good.cutG (h : Good M J snap recs) : CutG M J.file J.gen snap recs (fileS J.gen snap recs).size ∧ fewN J.gen snap recs (fileS J.gen snap recs).size = recs.length := by
  refine ⟨⟨h.ok, h.file, h.gen1, h.gen2, h.hsnap, h.hrecs, by rw [ex_whole _ _ (Nat.le_refl _)]; exact h.here, h.other, by rw [file_size]; omega⟩, ?_⟩
  unfold fewN
  have h1 := fit_le recs ((fileS J.gen snap recs).size - (headS J.gen snap).size)
  have h2 := fit_ge recs recs.length ((fileS J.gen snap recs).size - (headS J.gen snap).size) (Nat.le_refl _) (by rw [List.take_length, file_size]; omega)
  omega
theorem good_comp (h : Good M J snap recs) (s : ByteArray) : ((compR M J s).2.2 = 0 ∧ Good (compR M J s).1 ⟨1 - J.file, J.gen + 1, 0⟩ s [] ∧ (compR M J s).2.1 = ⟨1 - J.file, J.gen + 1, 0⟩ ∧ ((compR M J s).1.f (1 - J.file)).safe = (fileS (J.gen + 1) s []).size ∧ (compR M J s).1.used + (M.f J.file).b.size = M.used + (headS (J.gen + 1) s).size) ∨
    ((compR M J s).2.2 ≠ 0 ∧ (compR M J s).1 = M ∧ (compR M J s).2.1 = J) := by
  have hf := h.file
  unfold compR
  by_cases hc : (laysR M (1 - J.file) (J.gen + 1) s).2 = 0
  · rw [if_pos hc]
    obtain ⟨g1, g2, g3, g4⟩ := lays_yes (by omega) hc
    left
    have hfile : fileS (J.gen + 1) s [] = headS (J.gen + 1) s := by unfold fileS; exact ByteArray.append_empty
    have hcut := cut_eq (M := (laysR M (1 - J.file) (J.gen + 1) s).1) (n := J.file) (z := 0) (by omega) (Nat.zero_le _)
    rw [show ((0 : Nat) : Int) = 0 from rfl] at hcut
    have hb : (M.f (1 - J.file)).b ++ headS (J.gen + 1) s = headS (J.gen + 1) s := by rw [h.other]; exact ByteArray.empty_append
    have hx : ((cutR (laysR M (1 - J.file) (J.gen + 1) s).1 J.file 0).1.f (1 - J.file)) = ⟨headS (J.gen + 1) s, (headS (J.gen + 1) s).size⟩ := by
      rw [hcut, set_f, if_neg (by omega), g4, set_f, if_pos rfl, hb]
    refine ⟨rfl, ⟨cut_ok (lays_ok h.ok _ _ _) _ _, by show 1 - J.file < 2; omega, by show 1 ≤ J.gen + 1; omega, g1, rfl, g2, by simp, ?_, ?_⟩, rfl, ?_, ?_⟩
    · show ((cutR (laysR M (1 - J.file) (J.gen + 1) s).1 J.file 0).1.f (1 - J.file)).b = _
      rw [hx, hfile]
    · show ((cutR (laysR M (1 - J.file) (J.gen + 1) s).1 J.file 0).1.f (1 - (1 - J.file))).b = _
      rw [show 1 - (1 - J.file) = J.file by omega, hcut, set_f, if_pos rfl]
      exact ext_zero _
    · show ((cutR (laysR M (1 - J.file) (J.gen + 1) s).1 J.file 0).1.f (1 - J.file)).safe = _
      rw [hx, hfile]
    · show (cutR (laysR M (1 - J.file) (J.gen + 1) s).1 J.file 0).1.used + _ = _
      rw [hcut]
      have u1 := used_set M (1 - J.file) ⟨(M.f (1 - J.file)).b ++ headS (J.gen + 1) s, ((M.f (1 - J.file)).b ++ headS (J.gen + 1) s).size⟩ (by omega)
      rw [← g4] at u1
      have hj : ((laysR M (1 - J.file) (J.gen + 1) s).1.f J.file) = M.f J.file := by rw [g4, set_f, if_neg (by omega)]
      have u2 := used_set (laysR M (1 - J.file) (J.gen + 1) s).1 J.file ⟨((laysR M (1 - J.file) (J.gen + 1) s).1.f J.file).b.extract 0 0, min ((laysR M (1 - J.file) (J.gen + 1) s).1.f J.file).safe 0⟩ (by omega)
      rw [hj] at u2 ⊢
      rw [hb] at u1
      rw [h.other] at u1
      have z0 : (⟨#[]⟩ : ByteArray).size = 0 := rfl
      simp only [ext_zero, z0] at u1 u2 ⊢
      omega
  · rw [if_neg hc]
    right
    exact ⟨hc, lays_no (by omega) hc, rfl⟩
end
end Go.Proofs.YtjlpgjfgeikdeaaDoor
