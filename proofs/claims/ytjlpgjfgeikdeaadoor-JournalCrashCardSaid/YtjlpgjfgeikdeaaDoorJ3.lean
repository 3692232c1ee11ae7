import Derived.Test.YtjlpgjfgeikdeaaDoorJ2
section
/- What a file has: the document's found. -/
set_option linter.unusedVariables false
set_option linter.unusedSimpArgs false
set_option linter.unnecessarySimpa false
set_option maxRecDepth 100000
namespace Go.Proofs.YtjlpgjfgeikdeaaDoor
open Go.RowKit Go.ChangeShapes Go.WideShapes Go.ChangeAt
open Fr (strOfNats strOfNats_size strOfNats_bytes bytesOf Table restOf wrapS)
def strs (L : List ByteArray) : List Value := L.map Value.string
theorem strs_len (L : List ByteArray) : (strs L).length = L.length := by simp [strs]
theorem strs_one (L : List ByteArray) : ∀ u ∈ strs L, u.oneCell' = true := by
  intro u hu
  simp [strs] at hu
  obtain ⟨a, _, rfl⟩ := hu
  rfl
/-- a row that a call has made -/
theorem Sat.rowNew {w0 w w' : World} {L : List HP} {E sz n c : Nat} {A : Option Addr} {xs : List Value} (h : Sat w0 w L) (hb : Below w.heap.size w w') (ho : w'.ownsRow w.heap.size E sz (.slice A n c) n xs) : Sat w0 w' (Row E sz A n c xs :: L) := by
  have far := h.below hb
  obtain ⟨hl, ho⟩ := ho
  rcases ho with ⟨e, rfl⟩ | ⟨g', cap', cur', e, hg, hg', r1, r2, r3, r4⟩
  · cases e
    have hx : xs = [] := List.eq_nil_of_length_eq_zero (by simpa using hl)
    subst hx
    exact far.nilRow E sz
  · cases e
    refine Sat.rowOf (g := g') (cur := cur') ?_ hl r1 r2 r3 r4
    refine ⟨far.os, far.tape, far.output, far.size, fun k => if k = g' then some (.cells cur' E (0, 0)) else none, hp w, fun k x hk => ?_, fun k o hk => ?_, fun k => ?_, by simp [BlkO], h.own⟩
    · by_cases e : k = g'
      · subst e; simp at hk; subst hk; exact hg'
      · simp [e] at hk
    · exact (hb.block k (Array.getElem?_eq_some_iff.1 hk).1).trans hk
    · by_cases e : k = g'
      · subst e; exact .inr (Array.getElem?_eq_none hg)
      · exact .inl (by simp [e])
/-- the records of the frames with which bytes begin -/
def scanB (s : ByteArray) : List ByteArray := (FrM.scanL (bytesOf s)).1.map strOfNats
theorem str_bytes (b : ByteArray) : strOfNats (bytesOf b) = b := Fr.bytes_inj (strOfNats_bytes _ (Fr.bytes_lt' b))
theorem scanB_of {s : ByteArray} {L : List ByteArray} (h : L.map bytesOf = (FrM.scanL (bytesOf s)).1) : L = scanB s := by
  unfold scanB
  rw [← h, List.map_map]
  have : (strOfNats ∘ bytesOf) = id := by funext b; exact str_bytes b
  rw [this, List.map_id]
theorem scanB_bytes (s : ByteArray) : (scanB s).map bytesOf = (FrM.scanL (bytesOf s)).1 := by
  have h := (FrM.wraps_scan (bytesOf s).length (bytesOf s) (Nat.le_refl _) (Fr.bytes_lt' s)).1
  unfold scanB
  rw [List.map_map]
  have hb : ∀ r ∈ (FrM.scanL (bytesOf s)).1, ∀ x ∈ r, x < 256 := by
    intro r hr x hx
    have hmem : x ∈ FrM.wraps (FrM.scanL (bytesOf s)).1 := by
      generalize (FrM.scanL (bytesOf s)).1 = W at hr
      induction W with
      | nil => cases hr
      | cons a W ih =>
        unfold FrM.wraps
        rw [List.mem_append]
        rcases List.mem_cons.1 hr with rfl | hr
        · left
          unfold FrM.wrap
          simp [hx]
        · exact .inr (ih hr)
    rw [h] at hmem
    exact Fr.bytes_lt' s x (List.mem_of_mem_take hmem)
  conv => rhs; rw [← List.map_id (FrM.scanL (bytesOf s)).1]
  apply List.map_congr_left
  intro r hr
  exact strOfNats_bytes r (hb r hr)
/-- the bytes of frames -/
def sizeB : List ByteArray → Nat
  | [] => 0
  | r :: l => 8 + r.size + sizeB l
theorem sizeB_append (a b : List ByteArray) : sizeB (a ++ b) = sizeB a + sizeB b := by
  induction a with
  | nil => simp [sizeB]
  | cons r a ih => simp only [List.cons_append, sizeB, ih]; omega
theorem sizeB_wraps (L : List ByteArray) : sizeB L = (FrM.wraps (L.map bytesOf)).length := by
  induction L with
  | nil => rfl
  | cons r L ih =>
    simp only [sizeB, List.map_cons, FrM.wraps, List.length_append, FrM.wrap_length, len_bytes', ih]
    omega
theorem sizeB_scan (s : ByteArray) : sizeB (scanB s) ≤ s.size := by
  rw [sizeB_wraps, scanB_bytes, (FrM.wraps_scan (bytesOf s).length (bytesOf s) (Nat.le_refl _) (Fr.bytes_lt' s)).1, List.length_take, len_bytes']
  omega
theorem sizeB_len (L : List ByteArray) : 8 * L.length ≤ sizeB L := by
  induction L with
  | nil => simp [sizeB]
  | cons r L ih => simp only [sizeB, List.length_cons]; omega
/-- the records that stay -/
def shortB : List ByteArray → List ByteArray
  | [] => []
  | r :: l => if r.size ≤ 4000 then r :: shortB l else []
theorem shortB_take : ∀ (l : List ByteArray) (m : Nat), m ≤ l.length → (∀ i, (h : i < l.length) → i < m → l[i].size ≤ 4000) → (m = l.length ∨ ∃ h : m < l.length, ¬ l[m].size ≤ 4000) → shortB l = l.take m
  | [], m, hm, _, _ => by simp at hm; subst hm; rfl
  | r :: l, 0, _, _, he => by
    rcases he with he | ⟨_, he⟩
    · simp at he
    · simp only [List.getElem_cons_zero] at he
      simp [shortB, he]
  | r :: l, m + 1, hm, hs, he => by
    have h0 := hs 0 (by simp) (by omega)
    simp only [List.getElem_cons_zero] at h0
    rw [shortB, if_pos h0, List.take_succ_cons]
    congr 1
    refine shortB_take l m (by simpa using hm) (fun i h hi => ?_) ?_
    · have := hs (i + 1) (by simpa using h) (by omega)
      simpa using this
    · rcases he with he | ⟨h, he⟩
      · left; simpa using he
      · right; exact ⟨by simpa using h, by simpa using he⟩
/-- what a file has -/
structure FB where
  gen : Nat
  snap : ByteArray
  recs : List ByteArray
  size : Nat
def FB.none : FB := ⟨0, ⟨#[]⟩, [], 0⟩
def foundB : List ByteArray → FB
  | [] => .none
  | h :: t => if isHead h then ⟨headGen h, headSnap h, shortB t, 8 + h.size + sizeB (shortB t)⟩ else .none
def FdOut (w0 : World) (F : List HP) (f : FB) (e : Ending) (w' : World) : Prop :=
  ∃ A c, e = .returned (.tuple #[.int .i64 f.gen, .string f.snap, .slice A f.recs.length c, .int .i64 f.size]) ∧ Sat w0 w' (Row 9 1 A f.recs.length c (strs f.recs) :: F)
def FdRel (w0 : World) (F : List HP) (B : Option Addr) (cB : Nat) (L : List ByteArray) (h : ByteArray) (x r i : Value) (wr : World) : Prop :=
  ∃ (k : Nat) (A : Option Addr) (c : Nat), 1 ≤ k ∧ k ≤ L.length ∧ i = .int .i64 k ∧ r = .slice A (k - 1) c ∧ x = .int .i64 (8 + h.size + sizeB ((L.drop 1).take (k - 1)) : Nat) ∧
    (∀ z, (hz : z < (L.drop 1).length) → z < k - 1 → (L.drop 1)[z].size ≤ 4000) ∧ Sat w0 wr (Row 9 1 A (k - 1) c (strs ((L.drop 1).take (k - 1))) :: Row 9 1 B L.length cB (strs L) :: F)
end Go.Proofs.YtjlpgjfgeikdeaaDoor
end

section
/- What a file has: the walk of the document's found. -/
set_option linter.unusedVariables false
set_option linter.unusedSimpArgs false
set_option linter.unnecessarySimpa false
set_option maxRecDepth 100000
namespace Go.Proofs.YtjlpgjfgeikdeaaDoor
open Go.RowKit Go.ChangeShapes Go.WideShapes Go.ChangeAt
open Fr (strOfNats strOfNats_size strOfNats_bytes bytesOf Table restOf wrapS)
theorem results_tmp4 {fn : Func} {t u v x : Tmp} (h : fn.results = #[.tmp t, .tmp u, .tmp v, .tmp x]) (tmps : Array Value) (P : Program) (w : World) :
    (results fn tmps).run P w = .ok (.tuple #[tmps.getD t undef, tmps.getD u undef, tmps.getD v undef, tmps.getD x undef]) w := by
  simp [results, h]
theorem info9 : (Tryd.prog.info? 9).map (fun i => (i.zero, i.size, i.bytes)) = some (some (.string ⟨#[]⟩), 1, 16) := by kernel_rfl
section
variable {w0 w : World} {F : List HP}
theorem rscan_sat (hS : Sat w0 w F) (s : ByteArray) (hs : s.size ≤ 1048576) : Calls Tryd.prog 69 #[.string s] w fun e w' => ∃ A c q, e = .returned (.tuple #[.slice A (scanB s).length c, .int .i64 q]) ∧ Sat w0 w' (Row 9 1 A (scanB s).length c (strs (scanB s)) :: F) := by
  refine (Fr.rscan_any s w (by omega)).mono ?_
  rintro e w' ⟨v, L, rfl, hL, ho, hb⟩
  obtain rfl := scanB_of hL
  rcases ho.slice with ⟨rfl, hn⟩ | ⟨g, cap, rfl, _⟩
  · rw [hn] at ho ⊢
    exact ⟨none, 0, _, rfl, hS.rowNew hb ho⟩
  · exact ⟨_, _, _, rfl, hS.rowNew hb ho⟩
theorem row_str {A : Option Addr} {c : Nat} {L : List ByteArray} (hS : Sat w0 w (Row 9 1 A L.length c (strs L) :: F)) (hn : 0 < L.length) : ∃ g, A = some ⟨g, 0, none⟩ ∧ ∀ i, (h : i < L.length) → w.cell? ⟨g, i, none⟩ = some (.string L[i]) := by
  obtain ⟨g, rfl, hc, _⟩ := hS.rowCell (by intro e; have := strs_len L; rw [e] at this; simp at this; omega)
  refine ⟨g, rfl, fun i h => ?_⟩
  rw [hc i (by rw [strs_len]; exact h)]
  simp [strs, h]
theorem fdOut_mk {f : FB} {A : Option Addr} {n c : Nat} (hn : f.recs.length = n) (h : Sat w0 w (Row 9 1 A n c (strs f.recs) :: F)) : FdOut w0 F f (.returned (.tuple #[.int .i64 f.gen, .string f.snap, .slice A n c, .int .i64 f.size])) w := by
  subst hn
  exact ⟨A, c, rfl, h⟩
set_option maxHeartbeats 1600000 in
theorem rfound_any (hS : Sat w0 w F) (s : ByteArray) (hs : s.size ≤ 1048576) : Calls Tryd.prog 61 #[.string s] w (FdOut w0 F (foundB (scanB s))) := by
  have hsz := sizeB_scan s
  have hRS := Lib.hid (rscan_sat hS s hs)
  obtain ⟨L, hL⟩ : ∃ L, scanB s = L := ⟨_, rfl⟩
  rw [hL] at hsz hRS ⊢
  obtain ⟨ii, hi, hz, hsz9, hby⟩ := info_parts info9
  clear hL
  cases L with
  | nil =>
    go_enter Tryd.func61, Tryd.ntmps61
    go_wp2_with fail
    refine hRS.out.mono ?_
    rintro e w1 ⟨A, c, q, rfl, h1⟩
    go_wp2_with fail
    (try simp only [Exit.inBlock, Exit.then])
    refine bodyPost_ret (results_tmp4 rfl _ _ _) rfl ?_
    exact ⟨none, 0, rfl, h1.tail.nilRow 9 1⟩
  | cons h t =>
    have hhs : h.size ≤ 1048576 := by simp only [sizeB] at hsz; omega
    have HRH := Lib.hid (fun (w1 : World) => readHead_any h w1 (by omega))
    have hlen := sizeB_len (h :: t)
    have t0 : (((h :: t).length : Int) == 0) = false := by rw [beq_eq_false_iff_ne]; simp; omega
    by_cases hh : isHead h
    · have HF : Hid (foundB (h :: t) = ⟨headGen h, headSnap h, shortB t, 8 + h.size + sizeB (shortB t)⟩) := by show _ = _; rw [foundB, if_pos hh]
      unfold rhOut at HRH
      rw [decide_eq_true hh] at HRH
      obtain ⟨gn, hgn⟩ : ∃ x, headGen h = x := ⟨_, rfl⟩
      obtain ⟨sn, hsn⟩ : ∃ x, headSnap h = x := ⟨_, rfl⟩
      rw [hgn, hsn] at HF HRH
      have HST := Lib.hid (fun m a b c => shortB_take t m a b c)
      obtain ⟨K, hK⟩ : ∃ K, h :: t = K := ⟨_, rfl⟩
      have HK := Lib.hid hK
      have hK0 : 0 < K.length := by rw [← hK]; simp
      have hKt : t = K.drop 1 := by rw [← hK]; rfl
      have hKl : K.length = t.length + 1 := by rw [← hK]; simp
      have HKT := Lib.hid hKt
      have HKL := Lib.hid hKl
      have hK00 : K[0] = h := by subst hK; rfl
      rw [hK] at hRS hsz hlen t0 HF
      have hlK : K.length ≤ 1048576 := by omega
      have HSZ := Lib.hid hsz
      clear hh hgn hsn hK hKt hKl hsz hlen
      go_enter Tryd.func61, Tryd.ntmps61
      go_wp2_with fail
      refine hRS.out.mono ?_
      rintro e w1 ⟨B, cB, q, rfl, h1⟩
      obtain ⟨gB, rfl, hcB⟩ := row_str h1 hK0
      have y0 := hcB 0 hK0
      rw [hK00] at y0
      clear hcB
      go_wp2_with fail
      refine (HRH.out _).mono ?_
      rintro e w2 ⟨rfl, m, rfl⟩
      have h2 := (h1.drewN m).nilRow 9 1
      go_wp2_with fail
      clear y0 h1
      go_loopw [11, 12, 13] (FdRel w0 F (some ⟨gB, 0, none⟩) cB K h) (fun _ _ i _ => K.length - (intOf i).toNat)
      case atStart => exact ⟨1, none, 0, Nat.le_refl _, hK0, rfl, rfl, by simp [sizeB], fun z _ hz => by omega, by simpa [strs] using h2⟩
      case round =>
        obtain ⟨k, A, c, hk1, hk, rfl, rfl, rfl, hsh, hT⟩ := hrel
        have HSH := Lib.hid hsh
        clear hsh h2
        have HNX : Hid (∀ hlt : k < K.length, (K.drop 1).take (k + 1 - 1) = (K.drop 1).take (k - 1) ++ [K[k]]) := by
          show ∀ hlt, _
          intro hlt
          have hl : k - 1 < (K.drop 1).length := by rw [List.length_drop]; omega
          have := List.take_succ_eq_append_getElem hl
          rw [show k + 1 - 1 = k - 1 + 1 by omega, this]
          congr 2
          rw [List.getElem_drop]
          congr 1
          omega
        have HSB : Hid (sizeB ((K.drop 1).take (k - 1)) ≤ 1048576) := by
          have e := sizeB_append ((K.drop 1).take (k - 1)) ((K.drop 1).drop (k - 1))
          rw [List.take_append_drop] at e
          have e2 : sizeB K = 8 + h.size + sizeB (K.drop 1) := by rw [← HKT.out, ← HK.out]; rfl
          have := HSZ.out
          show _ ≤ _
          omega
        by_cases hlt : k < K.length
        · obtain ⟨_, q1, hcB⟩ := row_str hT.r2 hK0
          cases q1
          have yk := hcB k hlt
          have HNX2 := Lib.hid (HNX.out hlt)
          have HKS : Hid (∀ z : ByteArray, z = K[k] → z.size ≤ 1048576) := by
            show ∀ z, _
            intro z hz
            have e := sizeB_append (K.take k) (K.drop k)
            rw [List.take_append_drop, List.drop_eq_getElem_cons hlt] at e
            simp only [sizeB] at e
            have := HSZ.out
            subst hz
            omega
          have HKZ : Hid (∀ hz : k - 1 < (K.drop 1).length, (K.drop 1)[k - 1] = K[k]) := by
            show ∀ hz, _
            intro hz
            rw [List.getElem_drop]
            congr 1
            omega
          obtain ⟨b, hb⟩ : ∃ b, K[k] = b := ⟨_, rfl⟩
          rw [hb] at yk HNX2 HKZ
          have hbs := HKS.out b hb.symm
          have HB := Lib.hid hb
          clear hcB hb HKS HNX
          by_cases h4 : b.size ≤ 4000
          · have t1 : decide ((b.size : Int) ≤ 4000) = true := decide_eq_true (by omega)
            have hm1 : k - 1 + 1 ≤ maxLen := by unfold maxLen; omega
            have hm2 : (k - 1 + 1) * 16 ≤ 140737488355328 := by omega
            have hsb := HSB.out
            obtain ⟨Z, hZ⟩ : ∃ Z, sizeB ((K.drop 1).take (k - 1)) = Z := ⟨_, rfl⟩
            rw [hZ] at hsb ⊢
            have HZ := Lib.hid hZ
            have hNB := hT.new #[.string b] 9
            clear hZ
            go_wp2_with (at_builtin; refine wpList_app1 rfl (.tmp 51) (.tmp 56) 37 rfl 9 ii (.string ⟨#[]⟩) 1 16 Tryd.underlying37 hi hz hsz9 hby rfl (by decide) rfl hNB (by rfl) rfl (strs_one [b]) hm1 hm2 ?_; intro A' c' w' hT2; obtain ⟨_, q2, hcB2⟩ := row_str hT2.r2 hK0; cases q2; have yk2 := hcB2 k hlt; rw [HB.out] at yk2; clear hcB2 yk)
            go_roundw
            · have hsa := sizeB_append ((K.drop 1).take (k - 1)) [b]
              rw [← HNX2.out] at hsa
              refine ⟨k + 1, A', c', by omega, by omega, rfl, ?_, ?_, fun z hz hzk => ?_, ?_⟩
              · rfl
              · rw [hsa]; simp only [sizeB]; rw [HZ.out]; congr 1; omega
              · by_cases hzz : z = k - 1
                · subst hzz; rw [HKZ.out hz]; exact h4
                · exact HSH.out z hz (by omega)
              · rw [HNX2.out]
                have := hT2
                rw [show k - 1 + 1 = k + 1 - 1 by omega] at this
                simpa [strs] using this
            · simp only [intOf]; omega
          · have t1 : decide ((b.size : Int) ≤ 4000) = false := decide_eq_false (by omega)
            go_wp2_with fail
            (try simp only [Exit.inBlock, Exit.then])
            refine bodyPost_ret (results_tmp4 rfl _ _ _) rfl ?_
            have e := HKT.out
            subst e
            have hst := HST.out (k - 1) (by rw [List.length_drop]; omega) HSH.out (.inr ⟨by rw [List.length_drop]; omega, by rw [HKZ.out (by rw [List.length_drop]; omega)]; exact h4⟩)
            rw [HK.out, HF.out, hst]
            have hl : ((K.drop 1).take (k - 1)).length = k - 1 := by rw [List.length_take, List.length_drop]; omega
            exact fdOut_mk (f := ⟨gn, sn, (K.drop 1).take (k - 1), _⟩) hl hT.r2.tail
        · go_wp2_with fail
          (try simp only [Exit.inBlock, Exit.then])
          refine bodyPost_ret (results_tmp4 rfl _ _ _) rfl ?_
          have e := HKT.out
          subst e
          have hst := HST.out (k - 1) (by rw [List.length_drop]; omega) HSH.out (.inl (by rw [List.length_drop]; omega))
          rw [HK.out, HF.out, hst]
          have hl : ((K.drop 1).take (k - 1)).length = k - 1 := by rw [List.length_take, List.length_drop]; omega
          exact fdOut_mk (f := ⟨gn, sn, (K.drop 1).take (k - 1), _⟩) hl hT.r2.tail
    · rw [show foundB (h :: t) = FB.none by rw [foundB, if_neg hh]]
      unfold rhOut at HRH
      rw [decide_eq_false hh] at HRH
      have hlK : (h :: t).length ≤ 1048576 := by omega
      obtain ⟨K, hK⟩ : ∃ K, h :: t = K := ⟨_, rfl⟩
      have hK0 : 0 < K.length := by rw [← hK]; simp
      have hK00 : K[0] = h := by subst hK; rfl
      rw [hK] at hRS hlK t0
      clear hh hsz hlen
      clear hK
      go_enter Tryd.func61, Tryd.ntmps61
      go_wp2_with fail
      refine hRS.out.mono ?_
      rintro e w1 ⟨B, cB, q, rfl, h1⟩
      obtain ⟨gB, rfl, hcB⟩ := row_str h1 hK0
      have y0 := hcB 0 hK0
      rw [hK00] at y0
      clear hcB
      go_wp2_with fail
      refine (HRH.out _).mono ?_
      rintro e w2 ⟨rfl, m, rfl⟩
      have h2 := (h1.drewN m).tail.nilRow 9 1
      go_wp2_with fail
      (try simp only [Exit.inBlock, Exit.then])
      refine bodyPost_ret (results_tmp4 rfl _ _ _) rfl ?_
      exact ⟨none, 0, rfl, h2⟩
end
end Go.Proofs.YtjlpgjfgeikdeaaDoor
end

section
/- What a file has: the program's look. -/
set_option linter.unusedVariables false
set_option linter.unusedSimpArgs false
set_option linter.unnecessarySimpa false
set_option maxRecDepth 100000
namespace Go.Proofs.YtjlpgjfgeikdeaaDoor
open Go.RowKit Go.ChangeShapes Go.WideShapes Go.ChangeAt
open Fr (strOfNats strOfNats_size strOfNats_bytes bytesOf Table restOf wrapS)
section
variable {w0 w : World} {F : List HP} {d : Nat} {v : Nat → Value} {M : MD}
theorem scan_sat (hS : Sat w0 w F) (hO : Old w0 ∈ F) (hT : Table w0) (s : ByteArray) (hs : s.size ≤ 1048576) : Calls Tryd.prog 58 #[.string s] w fun e w' => ∃ A c q, e = .returned (.tuple #[.slice A (scanB s).length c, .int .i64 q]) ∧ Sat w0 w' (Row 9 1 A (scanB s).length c (strs (scanB s)) :: F) := by
  refine (Fr.scan_any s w (by omega) (hS.table hO hT)).mono ?_
  rintro e w' ⟨v, L, rfl, hL, ho, hb⟩
  obtain rfl := scanB_of hL
  rcases ho.slice with ⟨rfl, hn⟩ | ⟨g, cap, rfl, _⟩
  · rw [hn] at ho ⊢
    exact ⟨none, 0, _, rfl, hS.rowNew hb ho⟩
  · exact ⟨_, _, _, rfl, hS.rowNew hb ho⟩
/-- what look hands back -/
def LkOut (w0 : World) (F : List HP) (f : FB) (e : Ending) (w' : World) : Prop :=
  ∃ A c, e = .returned (.agg #[.int .i64 f.gen, .string f.snap, .slice A f.recs.length c, .int .i64 f.size]) ∧ Sat w0 w' (Row 9 1 A f.recs.length c (strs f.recs) :: F)
def zeroL : List Value := [.int .i64 0, .string ⟨#[]⟩, .slice none 0 0, .int .i64 0]
theorem ok_len (hok : M.Ok) {i : Nat} (hi : i < 4) : (M.f i).b.size ≤ 1048576 := by
  obtain ⟨_, h2, h3, _⟩ := hok
  unfold MD.used at h3
  have : i = 0 ∨ i = 1 ∨ i = 2 ∨ i = 3 := by omega
  rcases this with rfl | rfl | rfl | rfl <;> omega
theorem u90 : Tryd.prog.underlying 90 = some (((Tryd.prog.underlying 90).getD (.struct #[]))) := by kernel_rfl
theorem d90 : (match (Tryd.prog.underlying 90).getD (.struct #[]) with | .struct _ | .array _ _ => true | _ => false) = true := by kernel_rfl
theorem i90 : (Tryd.prog.info? 90).map (·.size) = some 4 := by kernel_rfl
theorem lkOut_mk {f : FB} {A : Option Addr} {n c : Nat} (hn : f.recs.length = n) (h : Sat w0 w (Row 9 1 A n c (strs f.recs) :: F)) : LkOut w0 F f (.returned (.agg #[.int .i64 f.gen, .string f.snap, .slice A n c, .int .i64 f.size])) w := by
  subst hn
  exact ⟨A, c, rfl, h⟩
theorem lk_results {w : World} {g : Nat} {tmps : Array Value} {a b c d : Value} (h : Sat w0 w (Blk g 90 [a, b, c, d] :: F)) (hp : tmps.getD 4 undef = .pointer (some ⟨g, 0, none⟩)) : (results Tryd.f41 tmps).run Tryd.prog w = .ok (.agg #[a, b, c, d]) w :=
  results_cell_row (by rfl) tmps w g 90 #[a, b, c, d] (0, 0) _ hp h.blk u90 d90 i90
theorem row_le {E sz n c : Nat} {A : Option Addr} {xs : List Value} (h : Sat w0 w (Row E sz A n c xs :: F)) : n ≤ c := by
  cases A with
  | none => have := h.rowNone; omega
  | some a =>
    obtain ⟨g, cur, rfl, h1, h2, h3, h4, hl, hS⟩ := h.rowBlk
    exact h1
/-- the round of look's loop -/
def LkRel (w0 : World) (G : List HP) (gB g4 g12 cB tv H : Nat) (sn : ByteArray) (K t : List ByteArray) (i : Value) (wr : World) : Prop :=
  ∃ (k : Nat) (A : Option Addr) (c : Nat), k ≤ t.length ∧ i = .int .i64 k ∧ (∀ z, (hz : z < t.length) → z < k → t[z].size ≤ 4000) ∧
    Sat w0 wr (Row 9 1 A k c (strs (t.take k)) :: Blk g12 90 [.int .i64 tv, .string sn, .slice A k c, .int .i64 (8 + H + sizeB (t.take k) : Nat)] :: Row 9 1 (some ⟨gB, 0, none⟩) K.length cB (strs K) :: Blk g4 90 [.int .i64 0, .string ⟨#[]⟩, .slice none 0 0, .int .i64 0] :: G)
set_option maxHeartbeats 3200000 in
theorem look_any (hS : Sat w0 w (DiskV d v M :: F)) (hok : M.Ok) (file : Nat) (hf : file < 4) (hO : Old w0 ∈ F) (hT : Table w0) : Calls Tryd.prog 41 #[.pointer (some ⟨d, 0, none⟩), .int .i64 file] w (LkOut w0 (DiskV d v M :: F) (foundB (scanB (M.f file).b))) := by
  have hs : (M.f file).b.size ≤ 1048576 := ok_len hok hf
  have HR := Lib.hid (fun (w1 : World) (h1 : DiskAt w1 d v M) => read_any d v M file w1 hf h1)
  obtain ⟨s, hsb⟩ : ∃ s, (M.f file).b = s := ⟨_, rfl⟩
  rw [hsb] at hs HR ⊢
  have hsz := sizeB_scan s
  have hRS := Lib.hid (fun (w1 : World) (F1 : List HP) (h1 : Sat w0 w1 F1) (hO1 : Old w0 ∈ F1) => scan_sat h1 hO1 hT s hs)
  obtain ⟨L, hL⟩ : ∃ L, scanB s = L := ⟨_, rfl⟩
  rw [hL] at hsz hRS ⊢
  clear hL
  cases L with
  | nil =>
    go_enter Tryd.func41, Tryd.ntmps41
    go_wp2_with fail
    go_step3
    go_wp2_with fail
    refine (HR.out _ (hS.alloc _).tail.disk).mono ?_
    rintro e w1 ⟨rfl, rfl⟩
    go_wp2_with fail
    refine (hRS.out _ _ (hS.new _ _) (by simp [hO])).mono ?_
    rintro e w1 ⟨A, c, q, rfl, h1⟩
    have hZ := h1.tail
    have c0 := hZ.blk.cell 0
    have c1 := hZ.blk.cell 1
    have c2 := hZ.blk.cell 2
    have c3 := hZ.blk.cell 3
    have f0 := hZ.blk.free 0
    have f1 := hZ.blk.free 1
    have f2 := hZ.blk.free 2
    have f3 := hZ.blk.free 3
    have H9 := Lib.hid ((((hZ.set 0 (.int .i64 0)).set 1 (.string ⟨#[]⟩)).set 2 (.slice none 0 0)).set 3 (.int .i64 0))
    clear hZ
    go_wp2_with fail
    simp only [Exit.inBlock, Exit.then, Exit.noGoto]
    refine bodyPost_ret (lk_results H9.out rfl) rfl ?_
    exact ⟨none, 0, rfl, H9.out.tail.nilRow 9 1⟩
  | cons h t =>
    have hhs : h.size ≤ 1048576 := by simp only [sizeB] at hsz; omega
    have HC0 := Lib.hid (fun (w1 : World) (hp : 1 ≤ h.size) => takeNum_any h 1 w1 hp (by omega))
    have hlen := sizeB_len (h :: t)
    have t0 : (((h :: t).length : Int) == 0) = false := by rw [beq_eq_false_iff_ne]; simp; omega
    have HY := Lib.hid (fun hh : isHead h => show foundB (h :: t) = ⟨headGen h, headSnap h, shortB t, 8 + h.size + sizeB (shortB t)⟩ by rw [foundB, if_pos hh])
    have HN := Lib.hid (fun hh : ¬isHead h => show foundB (h :: t) = FB.none by rw [foundB, if_neg hh])
    have HST := Lib.hid (fun m a b c => shortB_take t m a b c)
    obtain ⟨K, hK⟩ : ∃ K, h :: t = K := ⟨_, rfl⟩
    have HK := Lib.hid hK
    have hK0 : 0 < K.length := by rw [← hK]; simp
    have hKt : t = K.drop 1 := by rw [← hK]; rfl
    have hKl : K.length = t.length + 1 := by rw [← hK]; simp
    have HKT := Lib.hid hKt
    have HKL := Lib.hid hKl
    have hK00 : K[0] = h := by subst hK; rfl
    have hK1 : ∀ i, (hi : i < t.length) → (hx : i + 1 < K.length) → K[i + 1] = t[i] := by subst hK; intro i hi hx; rfl
    have HK1 := Lib.hid hK1
    rw [hK] at hRS hsz hlen t0 HY HN ⊢
    have hlK : K.length ≤ 1048576 := by omega
    have HSZ := Lib.hid hsz
    clear hK hKt hKl hsz hlen hK1
    go_enter Tryd.func41, Tryd.ntmps41
    go_wp2_with fail
    go_step3
    go_wp2_with fail
    refine (HR.out _ (hS.alloc _).tail.disk).mono ?_
    rintro e w1 ⟨rfl, rfl⟩
    go_wp2_with fail
    refine (hRS.out _ _ (hS.new _ _) (by simp [hO])).mono ?_
    rintro e w1 ⟨B, cB, q, rfl, h1⟩
    obtain ⟨gB, rfl, hcB⟩ := row_str h1 hK0
    have y0 := hcB 0 hK0
    rw [hK00] at y0
    clear hcB
    by_cases h0 : h.size = 0
    · have HO := Lib.hid (HN.out (by rintro ⟨hx, _⟩; omega))
      clear HC0 HN HY
      have hZ := h1.tail
      have c0 := hZ.blk.cell 0
      have c1 := hZ.blk.cell 1
      have c2 := hZ.blk.cell 2
      have c3 := hZ.blk.cell 3
      have f0 := hZ.blk.free 0
      have f1 := hZ.blk.free 1
      have f2 := hZ.blk.free 2
      have f3 := hZ.blk.free 3
      have H9 := Lib.hid ((((hZ.set 0 (.int .i64 0)).set 1 (.string ⟨#[]⟩)).set 2 (.slice none 0 0)).set 3 (.int .i64 0))
      clear hZ
      go_wp2_with fail
      simp only [Exit.inBlock, Exit.then, Exit.noGoto]
      refine bodyPost_ret (lk_results H9.out rfl) rfl ?_
      rw [HO.out]
      exact ⟨none, 0, rfl, H9.out.tail.nilRow 9 1⟩
    have hp : 0 < h.size := by omega
    have hfb := first_byte h hp
    have t00 : ((h.size : Int) == 0) = false := by rw [beq_eq_false_iff_ne]; omega
    have hb256 : h[0].toNat < 256 := by have := h[0].toNat_lt; simpa using this
    by_cases h72 : h[0].toNat = 72
    case neg =>
      have HO := Lib.hid (HN.out (by rintro ⟨_, h, _⟩; rw [hfb] at h; exact h72 h))
      obtain ⟨b, hb⟩ : ∃ b, h[0].toNat = b := ⟨_, rfl⟩
      rw [hb] at h72 hb256
      have t1 : ((b : Int) == 72) = false := by rw [beq_eq_false_iff_ne]; omega
      have t2 : ((b : Int) != 72) = true := by simp; omega
      clear hfb h72 HC0 HN HY
      have hZ := h1.tail
      have c0 := hZ.blk.cell 0
      have c1 := hZ.blk.cell 1
      have c2 := hZ.blk.cell 2
      have c3 := hZ.blk.cell 3
      have f0 := hZ.blk.free 0
      have f1 := hZ.blk.free 1
      have f2 := hZ.blk.free 2
      have f3 := hZ.blk.free 3
      have H9 := Lib.hid ((((hZ.set 0 (.int .i64 0)).set 1 (.string ⟨#[]⟩)).set 2 (.slice none 0 0)).set 3 (.int .i64 0))
      clear hZ
      go_wp2_with fail
      simp only [Exit.inBlock, Exit.then, Exit.noGoto]
      refine bodyPost_ret (lk_results H9.out rfl) rfl ?_
      rw [HO.out]
      exact ⟨none, 0, rfl, H9.out.tail.nilRow 9 1⟩
    case pos =>
      have HC := Lib.hid (HC0.out w1 (by omega))
      have hih : isHead h ↔ ((JnM.takeNum (restOf h 1)).2.2 = 0 ∧ 1 ≤ (JnM.takeNum (restOf h 1)).1 ∧ h.size - (1 + (JnM.takeNum (restOf h 1)).2.1) ≤ 190000) := by
        unfold isHead
        rw [hfb]
        exact ⟨fun h => h.2.2, fun h => ⟨hp, h72, h⟩⟩
      have HU := Lib.hid (fun x => head_used (s := h) x)
      have hHG : isHead h → headGen h = (JnM.takeNum (restOf h 1)).1 := fun hx => by unfold headGen; rw [if_pos hx]
      have hHS : isHead h → headSnap h = h.extract (1 + (JnM.takeNum (restOf h 1)).2.1) h.size := fun hx => by unfold headSnap; rw [if_pos hx]
      have HHG := Lib.hid hHG
      have HHS := Lib.hid hHS
      obtain ⟨⟨tv, u, er⟩, ht⟩ : ∃ x, JnM.takeNum (restOf h 1) = x := ⟨_, rfl⟩
      rw [ht] at HC hih HU HHG HHS
      simp only at HC hih HU HHG HHS
      have HIH := Lib.hid hih
      unfold tkOut at HC
      simp only at HC
      clear hfb ht hih hHG hHS HC0
      by_cases he : er = 0
      case neg =>
        rw [if_neg he] at HC
        have t1 : ((er : Int) == 0) = false := by rw [beq_eq_false_iff_ne]; omega
        have t2 : ((er : Int) != 0) = true := by simp; omega
        have HO := Lib.hid (HN.out (fun h => he (HIH.out.1 h).1))
        clear he HY HN HIH HU HHG HHS
        go_wp2_with fail
        refine HC.out.mono ?_
        rintro e w2 ⟨rfl, rfl⟩
        have hZ := h1.tail
        have c0 := hZ.blk.cell 0
        have c1 := hZ.blk.cell 1
        have c2 := hZ.blk.cell 2
        have c3 := hZ.blk.cell 3
        have f0 := hZ.blk.free 0
        have f1 := hZ.blk.free 1
        have f2 := hZ.blk.free 2
        have f3 := hZ.blk.free 3
        have H9 := Lib.hid ((((hZ.set 0 (.int .i64 0)).set 1 (.string ⟨#[]⟩)).set 2 (.slice none 0 0)).set 3 (.int .i64 0))
        clear hZ
        go_wp2_with fail
        simp only [Exit.inBlock, Exit.then, Exit.noGoto]
        refine bodyPost_ret (lk_results H9.out rfl) rfl ?_
        rw [HO.out]
        exact ⟨none, 0, rfl, H9.out.tail.nilRow 9 1⟩
      case pos =>
        subst he
        have hu := HU.out rfl
        rw [if_pos rfl] at HC
        obtain ⟨at_, hat⟩ : ∃ a, 1 + u = a := ⟨_, rfl⟩
        rw [hat] at HC HIH hu HHS
        have sw : IntKind.i64.wrap ((h.size : Int) - (at_ : Int)) = ((h.size - at_ : Nat) : Int) := by rw [IntWalk.i64_in _ (by omega)]; omega
        have sw' : (h.size : Int) - (at_ : Int) = ((h.size - at_ : Nat) : Int) := by omega
        clear hat HU
        by_cases hv : 1 ≤ tv
        case neg =>
          have t1 : decide ((tv : Int) < 1) = true := decide_eq_true (by omega)
          have HO := Lib.hid (HN.out (fun h => hv (HIH.out.1 h).2.1))
          clear hv HY HN HIH HHG HHS
          go_wp2_with fail
          refine HC.out.mono ?_
          rintro e w2 ⟨rfl, rfl⟩
          have hZ := h1.tail
          have c0 := hZ.blk.cell 0
          have c1 := hZ.blk.cell 1
          have c2 := hZ.blk.cell 2
          have c3 := hZ.blk.cell 3
          have f0 := hZ.blk.free 0
          have f1 := hZ.blk.free 1
          have f2 := hZ.blk.free 2
          have f3 := hZ.blk.free 3
          have H9 := Lib.hid ((((hZ.set 0 (.int .i64 0)).set 1 (.string ⟨#[]⟩)).set 2 (.slice none 0 0)).set 3 (.int .i64 0))
          clear hZ
          go_wp2_with fail
          simp only [Exit.inBlock, Exit.then, Exit.noGoto]
          refine bodyPost_ret (lk_results H9.out rfl) rfl ?_
          rw [HO.out]
          exact ⟨none, 0, rfl, H9.out.tail.nilRow 9 1⟩
        case pos =>
          have t1 : decide ((tv : Int) < 1) = false := decide_eq_false (by omega)
          obtain ⟨R, hR⟩ : ∃ R, h.size - at_ = R := ⟨_, rfl⟩
          rw [hR] at sw sw' HIH
          clear hR
          by_cases hl : R ≤ 190000
          case neg =>
            have t2 : decide ((R : Int) > 190000) = true := decide_eq_true (by omega)
            have t3 : decide ((190000 : Int) < (R : Int)) = true := decide_eq_true (by omega)
            have HO := Lib.hid (HN.out (fun h => hl (HIH.out.1 h).2.2))
            clear hv hl HY HN HIH HHG HHS
            go_wp2_with fail
            refine HC.out.mono ?_
            rintro e w2 ⟨rfl, rfl⟩
            have hZ := h1.tail
            have c0 := hZ.blk.cell 0
            have c1 := hZ.blk.cell 1
            have c2 := hZ.blk.cell 2
            have c3 := hZ.blk.cell 3
            have f0 := hZ.blk.free 0
            have f1 := hZ.blk.free 1
            have f2 := hZ.blk.free 2
            have f3 := hZ.blk.free 3
            have H9 := Lib.hid ((((hZ.set 0 (.int .i64 0)).set 1 (.string ⟨#[]⟩)).set 2 (.slice none 0 0)).set 3 (.int .i64 0))
            clear hZ
            go_wp2_with fail
            simp only [Exit.inBlock, Exit.then, Exit.noGoto]
            refine bodyPost_ret (lk_results H9.out rfl) rfl ?_
            rw [HO.out]
            exact ⟨none, 0, rfl, H9.out.tail.nilRow 9 1⟩
          case pos =>
            have t2 : decide ((R : Int) > 190000) = false := decide_eq_false (by omega)
            have t3 : decide ((190000 : Int) < (R : Int)) = false := decide_eq_false (by omega)
            have hhd := HIH.out.2 ⟨rfl, hv, hl⟩
            have HO := Lib.hid (HY.out hhd)
            rw [HHG.out hhd, HHS.out hhd] at HO
            clear hv hl HY HN HIH HHG HHS hhd
            obtain ⟨sn, hsn⟩ : ∃ x, h.extract at_ h.size = x := ⟨_, rfl⟩
            rw [hsn] at HO
            have sw8 : IntKind.i64.wrap ((8 : Int) + (h.size : Int)) = (8 : Int) + (h.size : Int) := IntWalk.i64_in _ (by omega)
            go_wp2_with fail
            refine HC.out.mono ?_
            rintro e w2 ⟨rfl, rfl⟩
            go_wp2_with fail
            have hA := h1.new #[.int .i64 0, .string ⟨#[]⟩, .slice none 0 0, .int .i64 0] 90
            obtain ⟨_, qA, hcA⟩ := row_str hA.tail hK0
            cases qA
            have y1 := hcA 0 hK0
            rw [hK00] at y1
            clear hcA hA
            go_region
            have hB := (h1.new #[.int .i64 tv, .string sn, .slice none 0 0, .int .i64 ((8 : Int) + (h.size : Int))] 90).drew
            obtain ⟨w3, hw3⟩ : ∃ w3, (w2.alloc (.cells #[.int .i64 tv, .string sn, .slice none 0 0, .int .i64 ((8 : Int) + (h.size : Int))] 90)).drew = w3 := ⟨_, rfl⟩
            rw [hw3] at hB ⊢
            obtain ⟨g12, hg12⟩ : ∃ g, w2.heap.size = g := ⟨_, rfl⟩
            obtain ⟨g4, hg4⟩ : ∃ g, w.heap.size = g := ⟨_, rfl⟩
            rw [hg12] at hB ⊢
            rw [hg4] at hB ⊢
            clear hg12 hg4 hw3 h1 y0 y1 sw sw' t1 t2 t3 hsn HC HR hRS
            obtain ⟨H, hH⟩ : ∃ H, h.size = H := ⟨_, rfl⟩
            rw [hH] at hB HO hhs ⊢
            have hc8 : ((8 : Int) + (H : Int)) = ((8 + H + sizeB (t.take 0) : Nat) : Int) := by simp [sizeB]
            rw [hc8] at hB
            have HB := Lib.hid (hB.nilRow 9 1)
            have hlt1 : decide ((K.length : Int) < 1) = false := decide_eq_false (by omega)
            have sw9 : IntKind.i64.wrap ((K.length : Int) - 1) = ((K.length - 1 : Nat) : Int) := by rw [IntWalk.i64_in _ (by omega)]; omega
            clear hB hc8
            by_cases hcb : cB = 1
            · have hle := row_le HB.out.r3
              have hK1' : K.length = 1 := by omega
              have hd : decide ((0 : Int) < ((K.length - 1 : Nat) : Int)) = false := decide_eq_false (by omega)
              have ht : t = [] := List.eq_nil_of_length_eq_zero (by have := HKL.out; omega)
              subst ht
              subst hcb
              go_wp2_with fail
              go_step3
              go_wp2_with fail
              refine wp_loop_rounds 1 ?_
              rw [rounds_succ]
              have hZ := HB.out
              have z0 := hZ.tail.blk.cell 0
              have z1 := hZ.tail.blk.cell 1
              have z2 := hZ.tail.blk.cell 2
              have z3 := hZ.tail.blk.cell 3
              have hY := hZ.tail.tail.tail
              have c0 := hY.blk.cell 0
              have c1 := hY.blk.cell 1
              have c2 := hY.blk.cell 2
              have c3 := hY.blk.cell 3
              have f0 := hY.blk.free 0
              have f1 := hY.blk.free 1
              have f2 := hY.blk.free 2
              have f3 := hY.blk.free 3
              have hX := hZ.r4
              have H9 := Lib.hid ((((hX.set 0 (.int .i64 tv)).set 1 (.string sn)).set 2 (.slice none 0 0)).set 3 (.int .i64 (8 + H + sizeB [] : Nat)))
              clear hZ hY hX
              go_wp2_with fail
              simp only [Exit.inBlock, Exit.then, Exit.noGoto]
              refine bodyPost_ret (lk_results H9.out rfl) rfl ?_
              rw [HO.out]
              exact lkOut_mk (f := ⟨tv, sn, shortB [], _⟩) rfl (H9.out.tail.r2.tail.r2.tail)
            · go_wp2_with fail
              go_step3
              go_wp2_with fail
              go_loopw [83] (LkRel w0 (DiskV d v M :: F) gB g4 g12 cB tv H sn K t) (fun i _ => t.length - (intOf i).toNat)
              case atStart => exact ⟨0, none, 0, Nat.zero_le _, rfl, fun z _ hz => by omega, by simpa [strs] using HB.out⟩
              case round => 
                obtain ⟨k, A, c, hk, rfl, hsh, hT⟩ := hrel
                have HSH := Lib.hid hsh
                clear hsh
                have hpr := row_le hT
                have hle := row_le hT.r3
                have HLT : Hid (∀ hlt : k < t.length, t.take (k + 1) = t.take k ++ [t[k]]) := fun hlt => List.take_succ_eq_append_getElem hlt
                have HSB : Hid (sizeB (t.take k) ≤ 1048576) := by
                  have e := sizeB_append (t.take k) (t.drop k)
                  rw [List.take_append_drop] at e
                  have e2 : sizeB K = 8 + h.size + sizeB t := by rw [← HK.out]; rfl
                  have := HSZ.out
                  show _ ≤ _
                  omega
                by_cases hlt : k < t.length
                · have hd : decide ((k : Int) < ((K.length - 1 : Nat) : Int)) = true := decide_eq_true (by have := HKL.out; omega)
                  obtain ⟨_, q1, hcB⟩ := row_str hT.r3 hK0
                  cases q1
                  have hk1K : k + 1 < K.length := by have := HKL.out; omega
                  have yk : wr.cell? ⟨gB, 1 + k, none⟩ = some (.string t[k]) := by rw [Nat.add_comm 1 k, hcB (k + 1) hk1K, HK1.out k hlt hk1K]
                  have htl : t.length ≤ 1048576 := by have := HKL.out; omega
                  have HNX2 := Lib.hid (HLT.out hlt)
                  have HKS : Hid (∀ z : ByteArray, z = t[k] → z.size ≤ 1048576) := by
                    show ∀ z, _
                    intro z hz
                    have e := sizeB_append (t.take k) (t.drop k)
                    rw [List.take_append_drop, List.drop_eq_getElem_cons hlt] at e
                    simp only [sizeB] at e
                    have e2 : sizeB K = 8 + h.size + sizeB t := by rw [← HK.out]; rfl
                    have := HSZ.out
                    subst hz
                    omega
                  have HKZ : Hid (∀ hz : k < t.length, t[k] = t[k]) := fun _ => rfl
                  obtain ⟨b, hb⟩ : ∃ b, t[k] = b := ⟨_, rfl⟩
                  have hbs := HKS.out b hb.symm
                  have HB2 := Lib.hid hb
                  rw [hb] at yk HNX2
                  clear hcB hb HKS HLT HKZ
                  by_cases h4 : b.size ≤ 4000
                  · have t5 : decide ((b.size : Int) > 4000) = false := decide_eq_false (by omega)
                    have t6 : decide ((4000 : Int) < (b.size : Int)) = false := decide_eq_false (by omega)
                    have t7 : ¬ (4000 : Int) < (b.size : Int) := by omega
                    have hm1 : k + 1 ≤ maxLen := by unfold maxLen; omega
                    have hm2 : (k + 1) * 16 ≤ 140737488355328 := by omega
                    have hsb := HSB.out
                    obtain ⟨Z, hZ⟩ : ∃ Z, 8 + H + sizeB (t.take k) = Z := ⟨_, rfl⟩
                    rw [hZ] at hT
                    have hZs : Z ≤ 4194304 := by omega
                    have HZ := Lib.hid hZ
                    have hNB := hT.new #[.string b] 9
                    have x2 := hNB.tail.tail.blk.cell 2
                    have x2' := hT.tail.blk.cell 2
                    obtain ⟨ii, hi, hz, hsz9, hby⟩ := info_parts info9
                    clear hZ hsb hpr
                    go_wp2_with (at_builtin; refine wpList_app1 rfl (.tmp 88) (.tmp 90) 37 rfl 9 ii (.string ⟨#[]⟩) 1 16 Tryd.underlying37 hi hz hsz9 hby rfl (by decide) rfl hNB (by rfl) rfl (strs_one [b]) hm1 hm2 ?_; intro A' c' w' hT2; have z2 := hT2.tail.blk.cell 2; have z3 := hT2.tail.blk.cell 3; have f2 := hT2.tail.blk.free 2; have f3 := hT2.tail.blk.free 3; have HT3 := Lib.hid (((hT2.r2.set 2 (.slice A' (k + 1) c')).set 3 (.int .i64 ((Z : Int) + ((8 : Int) + (b.size : Int))))).r2); clear hT2 yk x2 x2' hNB)
                    go_roundw
                    case rel =>
                      have hsa := sizeB_append (t.take k) [b]
                      rw [← HNX2.out] at hsa
                      have hzz : ((Z : Int) + ((8 : Int) + (b.size : Int))) = ((8 + H + sizeB (t.take (k + 1)) : Nat) : Int) := by
                        have := HZ.out
                        rw [hsa]
                        simp only [sizeB]
                        omega
                      refine ⟨k + 1, A', c', by omega, by go_num, fun z hz hzk => ?_, ?_⟩
                      · by_cases hzz : z = k
                        · subst hzz; rw [HB2.out]; exact h4
                        · exact HSH.out z hz (by omega)
                      · rw [← hzz]
                        have := HT3.out
                        rw [HNX2.out]
                        simpa [strs] using this
                    case measure => simp only [intOf]; omega
                  · have t5 : decide ((b.size : Int) > 4000) = true := decide_eq_true (by omega)
                    have t6 : decide ((4000 : Int) < (b.size : Int)) = true := decide_eq_true (by omega)
                    have t7 : (4000 : Int) < (b.size : Int) := by omega
                    have hst := HST.out k hk HSH.out (.inr ⟨hlt, by rw [HB2.out]; exact h4⟩)
                    have HO2 : Hid (foundB K = ⟨tv, sn, t.take k, 8 + H + sizeB (t.take k)⟩) := by show _ = _; rw [HO.out, hst]
                    obtain ⟨Z, hZ⟩ : ∃ Z, 8 + H + sizeB (t.take k) = Z := ⟨_, rfl⟩
                    rw [hZ] at hT HO2
                    have hl : (t.take k).length = k := by rw [List.length_take]; omega
                    have HL := Lib.hid hl
                    clear hst hZ hl hpr
                    have hZ := hT
                    have z0 := hZ.tail.blk.cell 0
                    have z1 := hZ.tail.blk.cell 1
                    have z2 := hZ.tail.blk.cell 2
                    have z3 := hZ.tail.blk.cell 3
                    have hY := hZ.tail.tail.tail
                    have c0 := hY.blk.cell 0
                    have c1 := hY.blk.cell 1
                    have c2 := hY.blk.cell 2
                    have c3 := hY.blk.cell 3
                    have f0 := hY.blk.free 0
                    have f1 := hY.blk.free 1
                    have f2 := hY.blk.free 2
                    have f3 := hY.blk.free 3
                    have hX := hZ.r4
                    have H9 := Lib.hid ((((hX.set 0 (.int .i64 tv)).set 1 (.string sn)).set 2 (.slice A k c)).set 3 (.int .i64 Z))
                    clear hZ hY hX
                    go_wp2_with fail
                    simp only [Exit.inBlock, Exit.then, Exit.noGoto]
                    refine bodyPost_ret (lk_results H9.out rfl) rfl ?_
                    rw [HO2.out]
                    exact lkOut_mk (f := ⟨tv, sn, t.take k, Z⟩) HL.out (H9.out.tail.r2.tail.r2.tail)
                · have hd : decide ((k : Int) < ((K.length - 1 : Nat) : Int)) = false := decide_eq_false (by have := HKL.out; omega)
                  have hd' : ¬ (k < K.length - 1) := by have := HKL.out; omega
                  have hst := HST.out k hk HSH.out (.inl (by omega))
                  have HO2 : Hid (foundB K = ⟨tv, sn, t.take k, 8 + H + sizeB (t.take k)⟩) := by show _ = _; rw [HO.out, hst]
                  obtain ⟨Z, hZ⟩ : ∃ Z, 8 + H + sizeB (t.take k) = Z := ⟨_, rfl⟩
                  rw [hZ] at hT HO2
                  have hl : (t.take k).length = k := by rw [List.length_take]; omega
                  have HL := Lib.hid hl
                  clear hst hZ hl hpr
                  have hZ := hT
                  have z0 := hZ.tail.blk.cell 0
                  have z1 := hZ.tail.blk.cell 1
                  have z2 := hZ.tail.blk.cell 2
                  have z3 := hZ.tail.blk.cell 3
                  have hY := hZ.tail.tail.tail
                  have c0 := hY.blk.cell 0
                  have c1 := hY.blk.cell 1
                  have c2 := hY.blk.cell 2
                  have c3 := hY.blk.cell 3
                  have f0 := hY.blk.free 0
                  have f1 := hY.blk.free 1
                  have f2 := hY.blk.free 2
                  have f3 := hY.blk.free 3
                  have hX := hZ.r4
                  have H9 := Lib.hid ((((hX.set 0 (.int .i64 tv)).set 1 (.string sn)).set 2 (.slice A k c)).set 3 (.int .i64 Z))
                  clear hZ hY hX
                  go_wp2_with fail
                  simp only [Exit.inBlock, Exit.then, Exit.noGoto]
                  refine bodyPost_ret (lk_results H9.out rfl) rfl ?_
                  rw [HO2.out]
                  exact lkOut_mk (f := ⟨tv, sn, t.take k, Z⟩) HL.out (H9.out.tail.r2.tail.r2.tail)
end
end Go.Proofs.YtjlpgjfgeikdeaaDoor
end
