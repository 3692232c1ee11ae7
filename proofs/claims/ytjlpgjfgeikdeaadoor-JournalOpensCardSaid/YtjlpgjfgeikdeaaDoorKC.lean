/- The law's own functions: a call on both. -/
import Derived.Test.YtjlpgjfgeikdeaaDoorKB
import Derived.Deep.RegionHeld3
import Derived.Test.YtjlpgjfgeikdeaaDoorD2
set_option linter.unusedVariables false
set_option linter.unusedSimpArgs false
set_option linter.unnecessarySimpa false
set_option maxRecDepth 100000
namespace Go.Proofs.YtjlpgjfgeikdeaaDoor
open Go.RowKit Go.ChangeShapes Go.WideShapes Go.ChangeAt
open Fr (strOfNats strOfNats_size strOfNats_bytes bytesOf Table restOf wrapS)
/-- behind a call on both; gen 0: there is no journal -/
def DoesOut (w0 : World) (F : List HP) (p d r : Nat) (R : MD × JS) (e : Ending) (w' : World) : Prop := e = .returned (.bool true) ∧
  ((R.2.gen = 0 ∧ ∃ v', Sat w0 w' (Blk p 56 [.pointer (some ⟨d, 0, none⟩), .pointer none, .pointer (some ⟨r, 0, none⟩), .pointer none] :: DiskV d v' R.1 :: Blk r 83 (cellsR R.1) :: F)) ∨
   (R.2.gen ≠ 0 ∧ ∃ j y v', Sat w0 w' (PB p d j r y :: Two d j r y v' R.1 R.2 F)))
section
variable {w0 w : World} {F : List HP} {d r j y p : Nat} {v : Nat → Value} {M : MD} {J : JS}
theorem Sat.b6 {A B C D E G : HP} {L : List HP} (h : Sat w0 w (A :: B :: C :: D :: E :: G :: L)) : Sat w0 w (B :: C :: D :: E :: G :: A :: L) := h.b5.perm (((((List.Perm.swap G A L).cons E).cons D).cons C).cons B)
theorem opens_does {a b : Value} {X Y Z : HP} (hS : Sat w0 w (Blk p 56 [.pointer (some ⟨d, 0, none⟩), a, .pointer (some ⟨r, 0, none⟩), b] :: DiskV d v M :: Blk r 83 (cellsR M) :: X :: Y :: Z :: F)) (hok : M.Ok) (hO : Old w0 ∈ F) (hT : Table w0) :
    Calls Tryd.prog 26 #[.pointer (some ⟨p, 0, none⟩)] w (DoesOut w0 F p d r (openJ M)) := by
  refine (opens_any hS hok (by simp [hO]) hT).mono ?_
  unfold OpsOut DoesOut openJ
  rintro e w' ⟨rfl, h⟩
  refine ⟨rfl, ?_⟩
  rcases h with ⟨hg, v', h⟩ | ⟨hg, j, y, v', h⟩
  · rw [if_pos hg]
    exact .inl ⟨rfl, v', h.r4.tail.r4.tail.r4.tail⟩
  · rw [if_neg hg]
    unfold Two at h ⊢
    exact .inr ⟨hg, j, y, v', h.r6.tail.r6.tail.r6.tail⟩
set_option maxHeartbeats 1600000 in
theorem jdoes_add (act num : Int) (s : ByteArray) (hS : Sat w0 w (PB p d j r y :: Two d j r y v M J F)) (hJ : Sane M J) (hg : J.gen ≠ 0) (hwf : (JOp.mk act num s).wf) (hO : Old w0 ∈ F) (hT : Table w0) (ha : act = 0) :
    Calls Tryd.prog 25 #[.pointer (some ⟨p, 0, none⟩), .agg #[.int .i64 act, .int .i64 num, .string s]] w (DoesOut w0 F p d r (stepJ M J ⟨act, num, s⟩)) := by
  obtain ⟨o1, o2⟩ := hwf
  simp only at o1 o2
  have HN := Lib.hid o1
  have HO2 := Lib.hid o2
  have HJ := Lib.hid hJ
  have HOK := Lib.hid hJ.ok
  have hn : J.n ≤ 1099511627776 := by have := hJ.n_le; omega
  have HNL := Lib.hid hn
  have HFL := Lib.hid hJ.file
  have HGN := Lib.hid hJ.gen
  have h1 := (hS.new #[.int .i64 act, .int .i64 num, .string s] 62)
  clear o1 o2 hJ hn hS
  subst ha
  have HST : Hid (stepJ M J ⟨0, num, s⟩ = ((addR M J s).1, (addR M J s).2.1)) := by show _ = _; unfold stepJ; rw [if_pos rfl]
  have HOK2 : Hid ((addR M J s).1.Ok) := (add_sane HJ.out s).ok
  have HG2 : Hid ((addR M J s).2.1.gen ≠ 0) := by show ¬ _; unfold addR; split; exact hg; split; exact hg; exact hg
  have HF2 : Hid ((addR M J s).2.1.file < 2) := (add_sane HJ.out s).file
  have HA := Lib.hid (fun (w1 : World) (G : List HP) (h : Sat w0 w1 (JB j d J :: DiskV d v M :: G)) (hO1 : Old w0 ∈ G) => add_any h HOK.out s HO2.out HNL.out hO1 hT)
  have HB := Lib.hid (fun (w1 : World) (G : List HP) (h : Sat w0 w1 (RB y r J :: Blk r 83 (cellsR M) :: G)) => radd_any h HOK.out s HO2.out HNL.out)
  unfold Two at h1
  unfold POut at HA
  unfold ROut at HB
  rw [HST.out]
  obtain ⟨⟨M1, J1, k1⟩, hR⟩ : ∃ x, addR M J s = x := ⟨_, rfl⟩
  rw [hR] at HOK2 HG2 HF2 HA HB ⊢
  simp only at HOK2 HG2 HF2 HA HB ⊢
  have i1 : (k1 == k1) = true := by simp
  have HH := Lib.hid h1
  clear hR HST h1
  go_enter Tryd.func25, Tryd.ntmps25
  go_wp2_with fail
  have h1 := HH.out.r6.r6.r6.r6
  obtain ⟨g, hg⟩ : ∃ g, w.heap.size = g := ⟨_, rfl⟩
  generalize (w.alloc (.cells #[.int .i64 0, .int .i64 num, .string s] 62)) = W at h1 HH ⊢
  rw [hg] at h1 ⊢
  clear hg HH
  have x1 : W.cell? ⟨p, 1, none⟩ = some (.pointer (some ⟨j, 0, none⟩)) := h1.r6.blk.cell 1
  have x3 : W.cell? ⟨p, 3, none⟩ = some (.pointer (some ⟨y, 0, none⟩)) := h1.r6.blk.cell 3
  have xs : W.cell? ⟨g, 2, none⟩ = some (.string s) := h1.r5.blk.cell 2
  go_region_held3 (fun w' => w'.cell? ⟨p, 1, none⟩ = some (.pointer (some ⟨j, 0, none⟩)) ∧ w'.cell? ⟨p, 3, none⟩ = some (.pointer (some ⟨y, 0, none⟩)) ∧ w'.cell? ⟨g, 2, none⟩ = some (.string s))
    (first | exact ⟨x1, x3, xs⟩ | exact ⟨y1, y3, ys⟩ | exact ⟨z1, z3, zs⟩)
    (first
      | (go_at_call 34; refine (HA.out _ _ h1.drew (by simp [hO])).mono ?_; rintro e w5 ⟨rfl, v5, h5⟩; have y1 : w5.cell? ⟨p, 1, none⟩ = some (.pointer (some ⟨j, 0, none⟩)) := h5.r6.blk.cell 1; have y3 : w5.cell? ⟨p, 3, none⟩ = some (.pointer (some ⟨y, 0, none⟩)) := h5.r6.blk.cell 3; have ys : w5.cell? ⟨g, 2, none⟩ = some (.string s) := h5.r5.blk.cell 2)
      | (go_at_call 46; refine (HB.out _ _ h5.r4.r4).mono ?_; rintro e w6 ⟨rfl, h6'⟩; have h6 := h6'.r4.r4; have z1 : w6.cell? ⟨p, 1, none⟩ = some (.pointer (some ⟨j, 0, none⟩)) := h6.r6.blk.cell 1; have z3 : w6.cell? ⟨p, 3, none⟩ = some (.pointer (some ⟨y, 0, none⟩)) := h6.r6.blk.cell 3; have zs : w6.cell? ⟨g, 2, none⟩ = some (.string s) := h6.r5.blk.cell 2)
      | (go_at_call 46; refine (HB.out _ _ h1.drew.r4.r4).mono ?_; rintro e w5 ⟨rfl, h5'⟩; have h5 := h5'.r4.r4; have y1 : w5.cell? ⟨p, 1, none⟩ = some (.pointer (some ⟨j, 0, none⟩)) := h5.r6.blk.cell 1; have y3 : w5.cell? ⟨p, 3, none⟩ = some (.pointer (some ⟨y, 0, none⟩)) := h5.r6.blk.cell 3; have ys : w5.cell? ⟨g, 2, none⟩ = some (.string s) := h5.r5.blk.cell 2)
      | (go_at_call 34; refine (HA.out _ _ h5 (by simp [hO])).mono ?_; rintro e w6 ⟨rfl, v5, h6⟩; have z1 : w6.cell? ⟨p, 1, none⟩ = some (.pointer (some ⟨j, 0, none⟩)) := h6.r6.blk.cell 1; have z3 : w6.cell? ⟨p, 3, none⟩ = some (.pointer (some ⟨y, 0, none⟩)) := h6.r6.blk.cell 3; have zs : w6.cell? ⟨g, 2, none⟩ = some (.string s) := h6.r5.blk.cell 2))
  all_goals
    have h7 := h6.r6
    clear x1 x3 xs y1 y3 ys z1 z3 zs h1 h5 HA HB
    try clear h5'
    try clear h6'
    obtain ⟨L, hL⟩ : ∃ L, L = PB p d j r y :: Two d j r y v5 M1 J1 (Blk g 62 [.int .i64 0, .int .i64 num, .string s] :: F) := ⟨_, rfl⟩
    have hIn : Sat w0 w6 L := by rw [hL]; exact h7
    have op : ∀ w', Sat w0 w' L → Sat w0 w' (PB p d j r y :: Two d j r y v5 M1 J1 (Blk g 62 [.int .i64 0, .int .i64 num, .string s] :: F)) := fun w' h => by rw [hL] at h; exact h
    have po : ∀ w', Sat w0 w' (PB p d j r y :: Two d j r y v5 M1 J1 (Blk g 62 [.int .i64 0, .int .i64 num, .string s] :: F)) → Sat w0 w' L := fun w' h => by rw [hL]; exact h
    have f0 : ∀ x : In w0 L, x.w.cell? ⟨p, 0, none⟩ = some (.pointer (some ⟨d, 0, none⟩)) := fun x => (op _ x.ok).blk.cell 0
    have f2 : ∀ x : In w0 L, x.w.cell? ⟨p, 2, none⟩ = some (.pointer (some ⟨r, 0, none⟩)) := fun x => (op _ x.ok).blk.cell 2
    have c24 : Hid (∀ x : In w0 L, Calls Tryd.prog 24 #[.pointer (some ⟨p, 0, none⟩)] x.w fun e w' => e = .returned (.bool true) ∧ ∃ y : In w0 L, w' = y.w) := by
      show ∀ x, _
      intro x
      exact Calls.in_ ((statP_any (op _ x.ok) (by have := HF2.out; omega)).mono fun e w' h => ⟨h.1, po _ h.2⟩)
    have c13 : Hid (∀ x : In w0 L, Calls Tryd.prog 13 #[.pointer (some ⟨d, 0, none⟩), .pointer (some ⟨r, 0, none⟩)] x.w fun e w' => e = .returned (.bool true) ∧ ∃ y : In w0 L, w' = y.w) := by
      show ∀ x, _
      intro x
      have h := op _ x.ok
      unfold Two at h
      exact Calls.in_drewN (alike_any h.r5.r4 HOK2.out)
    have HIN := Lib.hid hIn
    have HOP := Lib.hid op
    haveI hne : Nonempty (In w0 L) := ⟨⟨_, hIn⟩⟩
    clear hL op hIn h7 po
    go_wp2_with fail
    refine wp_region_in HIN.out (by kernel_rfl) (by kernel_rfl) ?_
    repeat go_big_quiet_step ((first | (go_at_call 24; exact c24.out _) | (go_at_call 13; exact c13.out _)))
    refine wpQuiet_nil ?_
    intro w9 hw'
    obtain ⟨x9, hw9⟩ := hw'
    have h9 := x9.ok
    rw [← hw9] at h9
    clear hw9 x9
    clear f0 f2 hne c24 c13
    have h8 := HOP.out _ h9
    unfold Two at h8
    clear h9 HIN HOP
    go_wp2_with fail
    go_ret
    exact ⟨rfl, .inr ⟨HG2.out, j, y, _, h8.r6.tail⟩⟩
set_option maxHeartbeats 1600000 in
theorem jdoes_sync (act num : Int) (s : ByteArray) (hS : Sat w0 w (PB p d j r y :: Two d j r y v M J F)) (hJ : Sane M J) (hg : J.gen ≠ 0) (hwf : (JOp.mk act num s).wf) (hO : Old w0 ∈ F) (hT : Table w0) (ha : act = 1) :
    Calls Tryd.prog 25 #[.pointer (some ⟨p, 0, none⟩), .agg #[.int .i64 act, .int .i64 num, .string s]] w (DoesOut w0 F p d r (stepJ M J ⟨act, num, s⟩)) := by
  obtain ⟨o1, o2⟩ := hwf
  simp only at o1 o2
  have HN := Lib.hid o1
  have HO2 := Lib.hid o2
  have HJ := Lib.hid hJ
  have HOK := Lib.hid hJ.ok
  have hn : J.n ≤ 1099511627776 := by have := hJ.n_le; omega
  have HNL := Lib.hid hn
  have HFL := Lib.hid hJ.file
  have HGN := Lib.hid hJ.gen
  have h1 := (hS.new #[.int .i64 act, .int .i64 num, .string s] 62)
  clear o1 o2 hJ hn hS
  subst ha
  have HST : Hid (stepJ M J ⟨1, num, s⟩ = ((jsyncR M J).1, J)) := by show _ = _; unfold stepJ; rw [if_neg (by simp), if_pos rfl]
  have HOK2 : Hid ((jsyncR M J).1.Ok) := (sync_sane HJ.out).ok
  have HG2 : Hid ((jsyncR M J).2.1.gen ≠ 0) := hg
  have HF2 : Hid ((jsyncR M J).2.1.file < 2) := HFL.out
  have HA := Lib.hid (fun (w1 : World) (G : List HP) (h : Sat w0 w1 (JB j d J :: DiskV d v M :: G)) (hO1 : Old w0 ∈ G) => jsync_any h)
  have HB := Lib.hid (fun (w1 : World) (G : List HP) (h : Sat w0 w1 (RB y r J :: Blk r 83 (cellsR M) :: G)) => rjsync_any h)
  unfold Two at h1
  unfold POut at HA
  unfold ROut at HB
  rw [HST.out]
  rw [show ((jsyncR M J).1, J) = ((jsyncR M J).1, (jsyncR M J).2.1) from rfl]
  obtain ⟨⟨M1, J1, k1⟩, hR⟩ : ∃ x, jsyncR M J = x := ⟨_, rfl⟩
  rw [hR] at HOK2 HG2 HF2 HA HB ⊢
  simp only at HOK2 HG2 HF2 HA HB ⊢
  have i1 : (k1 == k1) = true := by simp
  have HH := Lib.hid h1
  clear hR HST h1
  go_enter Tryd.func25, Tryd.ntmps25
  go_wp2_with fail
  have h1 := HH.out.r6.r6.r6.r6
  obtain ⟨g, hg⟩ : ∃ g, w.heap.size = g := ⟨_, rfl⟩
  generalize (w.alloc (.cells #[.int .i64 1, .int .i64 num, .string s] 62)) = W at h1 HH ⊢
  rw [hg] at h1 ⊢
  clear hg HH
  have x1 : W.cell? ⟨p, 1, none⟩ = some (.pointer (some ⟨j, 0, none⟩)) := h1.r6.blk.cell 1
  have x3 : W.cell? ⟨p, 3, none⟩ = some (.pointer (some ⟨y, 0, none⟩)) := h1.r6.blk.cell 3
  go_region_held3 (fun w' => w'.cell? ⟨p, 1, none⟩ = some (.pointer (some ⟨j, 0, none⟩)) ∧ w'.cell? ⟨p, 3, none⟩ = some (.pointer (some ⟨y, 0, none⟩)))
    (first | exact ⟨x1, x3⟩ | exact ⟨y1, y3⟩ | exact ⟨z1, z3⟩)
    (first
      | (go_at_call 35; refine (HA.out _ _ h1.drew (by simp [hO])).mono ?_; rintro e w5 ⟨rfl, v5, h5⟩; have y1 : w5.cell? ⟨p, 1, none⟩ = some (.pointer (some ⟨j, 0, none⟩)) := h5.r6.blk.cell 1; have y3 : w5.cell? ⟨p, 3, none⟩ = some (.pointer (some ⟨y, 0, none⟩)) := h5.r6.blk.cell 3)
      | (go_at_call 47; refine (HB.out _ _ h5.r4.r4).mono ?_; rintro e w6 ⟨rfl, h6'⟩; have h6 := h6'.r4.r4; have z1 : w6.cell? ⟨p, 1, none⟩ = some (.pointer (some ⟨j, 0, none⟩)) := h6.r6.blk.cell 1; have z3 : w6.cell? ⟨p, 3, none⟩ = some (.pointer (some ⟨y, 0, none⟩)) := h6.r6.blk.cell 3)
      | (go_at_call 47; refine (HB.out _ _ h1.drew.r4.r4).mono ?_; rintro e w5 ⟨rfl, h5'⟩; have h5 := h5'.r4.r4; have y1 : w5.cell? ⟨p, 1, none⟩ = some (.pointer (some ⟨j, 0, none⟩)) := h5.r6.blk.cell 1; have y3 : w5.cell? ⟨p, 3, none⟩ = some (.pointer (some ⟨y, 0, none⟩)) := h5.r6.blk.cell 3)
      | (go_at_call 35; refine (HA.out _ _ h5 (by simp [hO])).mono ?_; rintro e w6 ⟨rfl, v5, h6⟩; have z1 : w6.cell? ⟨p, 1, none⟩ = some (.pointer (some ⟨j, 0, none⟩)) := h6.r6.blk.cell 1; have z3 : w6.cell? ⟨p, 3, none⟩ = some (.pointer (some ⟨y, 0, none⟩)) := h6.r6.blk.cell 3))
  all_goals
    have h7 := h6.r6
    clear x1 x3 y1 y3 z1 z3 h1 h5 HA HB
    try clear h5'
    try clear h6'
    obtain ⟨L, hL⟩ : ∃ L, L = PB p d j r y :: Two d j r y v5 M1 J1 (Blk g 62 [.int .i64 1, .int .i64 num, .string s] :: F) := ⟨_, rfl⟩
    have hIn : Sat w0 w6 L := by rw [hL]; exact h7
    have op : ∀ w', Sat w0 w' L → Sat w0 w' (PB p d j r y :: Two d j r y v5 M1 J1 (Blk g 62 [.int .i64 1, .int .i64 num, .string s] :: F)) := fun w' h => by rw [hL] at h; exact h
    have po : ∀ w', Sat w0 w' (PB p d j r y :: Two d j r y v5 M1 J1 (Blk g 62 [.int .i64 1, .int .i64 num, .string s] :: F)) → Sat w0 w' L := fun w' h => by rw [hL]; exact h
    have f0 : ∀ x : In w0 L, x.w.cell? ⟨p, 0, none⟩ = some (.pointer (some ⟨d, 0, none⟩)) := fun x => (op _ x.ok).blk.cell 0
    have f2 : ∀ x : In w0 L, x.w.cell? ⟨p, 2, none⟩ = some (.pointer (some ⟨r, 0, none⟩)) := fun x => (op _ x.ok).blk.cell 2
    have c24 : Hid (∀ x : In w0 L, Calls Tryd.prog 24 #[.pointer (some ⟨p, 0, none⟩)] x.w fun e w' => e = .returned (.bool true) ∧ ∃ y : In w0 L, w' = y.w) := by
      show ∀ x, _
      intro x
      exact Calls.in_ ((statP_any (op _ x.ok) (by have := HF2.out; omega)).mono fun e w' h => ⟨h.1, po _ h.2⟩)
    have c13 : Hid (∀ x : In w0 L, Calls Tryd.prog 13 #[.pointer (some ⟨d, 0, none⟩), .pointer (some ⟨r, 0, none⟩)] x.w fun e w' => e = .returned (.bool true) ∧ ∃ y : In w0 L, w' = y.w) := by
      show ∀ x, _
      intro x
      have h := op _ x.ok
      unfold Two at h
      exact Calls.in_drewN (alike_any h.r5.r4 HOK2.out)
    have HIN := Lib.hid hIn
    have HOP := Lib.hid op
    haveI hne : Nonempty (In w0 L) := ⟨⟨_, hIn⟩⟩
    clear hL op hIn h7 po
    go_wp2_with fail
    refine wp_region_in HIN.out (by kernel_rfl) (by kernel_rfl) ?_
    repeat go_big_quiet_step ((first | (go_at_call 24; exact c24.out _) | (go_at_call 13; exact c13.out _)))
    refine wpQuiet_nil ?_
    intro w9 hw'
    obtain ⟨x9, hw9⟩ := hw'
    have h9 := x9.ok
    rw [← hw9] at h9
    clear hw9 x9
    clear f0 f2 hne c24 c13
    have h8 := HOP.out _ h9
    unfold Two at h8
    clear h9 HIN HOP
    go_wp2_with fail
    go_ret
    exact ⟨rfl, .inr ⟨HG2.out, j, y, _, h8.r6.tail⟩⟩
set_option maxHeartbeats 1600000 in
theorem jdoes_comp (act num : Int) (s : ByteArray) (hS : Sat w0 w (PB p d j r y :: Two d j r y v M J F)) (hJ : Sane M J) (hg : J.gen ≠ 0) (hwf : (JOp.mk act num s).wf) (hO : Old w0 ∈ F) (hT : Table w0) (ha : act = 2) :
    Calls Tryd.prog 25 #[.pointer (some ⟨p, 0, none⟩), .agg #[.int .i64 act, .int .i64 num, .string s]] w (DoesOut w0 F p d r (stepJ M J ⟨act, num, s⟩)) := by
  obtain ⟨o1, o2⟩ := hwf
  simp only at o1 o2
  have HN := Lib.hid o1
  have HO2 := Lib.hid o2
  have HJ := Lib.hid hJ
  have HOK := Lib.hid hJ.ok
  have hn : J.n ≤ 1099511627776 := by have := hJ.n_le; omega
  have HNL := Lib.hid hn
  have HFL := Lib.hid hJ.file
  have HGN := Lib.hid hJ.gen
  have h1 := (hS.new #[.int .i64 act, .int .i64 num, .string s] 62)
  clear o1 o2 hJ hn hS
  subst ha
  have HST : Hid (stepJ M J ⟨2, num, s⟩ = ((compR M J s).1, (compR M J s).2.1)) := by show _ = _; unfold stepJ; rw [if_neg (by simp), if_neg (by simp), if_pos rfl]
  have HOK2 : Hid ((compR M J s).1.Ok) := (comp_sane HJ.out s).ok
  have HG2 : Hid ((compR M J s).2.1.gen ≠ 0) := by show ¬ _; unfold compR; split; exact Nat.succ_ne_zero _; exact hg
  have HF2 : Hid ((compR M J s).2.1.file < 2) := (comp_sane HJ.out s).file
  have HA := Lib.hid (fun (w1 : World) (G : List HP) (h : Sat w0 w1 (JB j d J :: DiskV d v M :: G)) (hO1 : Old w0 ∈ G) => comp_any h HOK.out s HO2.out HFL.out HGN.out hO1 hT)
  have HB := Lib.hid (fun (w1 : World) (G : List HP) (h : Sat w0 w1 (RB y r J :: Blk r 83 (cellsR M) :: G)) => rcomp_any h HOK.out s HO2.out HFL.out HGN.out)
  unfold Two at h1
  unfold POut at HA
  unfold ROut at HB
  rw [HST.out]
  obtain ⟨⟨M1, J1, k1⟩, hR⟩ : ∃ x, compR M J s = x := ⟨_, rfl⟩
  rw [hR] at HOK2 HG2 HF2 HA HB ⊢
  simp only at HOK2 HG2 HF2 HA HB ⊢
  have i1 : (k1 == k1) = true := by simp
  have HH := Lib.hid h1
  clear hR HST h1
  go_enter Tryd.func25, Tryd.ntmps25
  go_wp2_with fail
  have h1 := HH.out.r6.r6.r6.r6
  obtain ⟨g, hg⟩ : ∃ g, w.heap.size = g := ⟨_, rfl⟩
  generalize (w.alloc (.cells #[.int .i64 2, .int .i64 num, .string s] 62)) = W at h1 HH ⊢
  rw [hg] at h1 ⊢
  clear hg HH
  have x1 : W.cell? ⟨p, 1, none⟩ = some (.pointer (some ⟨j, 0, none⟩)) := h1.r6.blk.cell 1
  have x3 : W.cell? ⟨p, 3, none⟩ = some (.pointer (some ⟨y, 0, none⟩)) := h1.r6.blk.cell 3
  have xs : W.cell? ⟨g, 2, none⟩ = some (.string s) := h1.r5.blk.cell 2
  go_region_held3 (fun w' => w'.cell? ⟨p, 1, none⟩ = some (.pointer (some ⟨j, 0, none⟩)) ∧ w'.cell? ⟨p, 3, none⟩ = some (.pointer (some ⟨y, 0, none⟩)) ∧ w'.cell? ⟨g, 2, none⟩ = some (.string s))
    (first | exact ⟨x1, x3, xs⟩ | exact ⟨y1, y3, ys⟩ | exact ⟨z1, z3, zs⟩)
    (first
      | (go_at_call 20; refine (HA.out _ _ h1.drew (by simp [hO])).mono ?_; rintro e w5 ⟨rfl, v5, h5⟩; have y1 : w5.cell? ⟨p, 1, none⟩ = some (.pointer (some ⟨j, 0, none⟩)) := h5.r6.blk.cell 1; have y3 : w5.cell? ⟨p, 3, none⟩ = some (.pointer (some ⟨y, 0, none⟩)) := h5.r6.blk.cell 3; have ys : w5.cell? ⟨g, 2, none⟩ = some (.string s) := h5.r5.blk.cell 2)
      | (go_at_call 48; refine (HB.out _ _ h5.r4.r4).mono ?_; rintro e w6 ⟨rfl, h6'⟩; have h6 := h6'.r4.r4; have z1 : w6.cell? ⟨p, 1, none⟩ = some (.pointer (some ⟨j, 0, none⟩)) := h6.r6.blk.cell 1; have z3 : w6.cell? ⟨p, 3, none⟩ = some (.pointer (some ⟨y, 0, none⟩)) := h6.r6.blk.cell 3; have zs : w6.cell? ⟨g, 2, none⟩ = some (.string s) := h6.r5.blk.cell 2)
      | (go_at_call 48; refine (HB.out _ _ h1.drew.r4.r4).mono ?_; rintro e w5 ⟨rfl, h5'⟩; have h5 := h5'.r4.r4; have y1 : w5.cell? ⟨p, 1, none⟩ = some (.pointer (some ⟨j, 0, none⟩)) := h5.r6.blk.cell 1; have y3 : w5.cell? ⟨p, 3, none⟩ = some (.pointer (some ⟨y, 0, none⟩)) := h5.r6.blk.cell 3; have ys : w5.cell? ⟨g, 2, none⟩ = some (.string s) := h5.r5.blk.cell 2)
      | (go_at_call 20; refine (HA.out _ _ h5 (by simp [hO])).mono ?_; rintro e w6 ⟨rfl, v5, h6⟩; have z1 : w6.cell? ⟨p, 1, none⟩ = some (.pointer (some ⟨j, 0, none⟩)) := h6.r6.blk.cell 1; have z3 : w6.cell? ⟨p, 3, none⟩ = some (.pointer (some ⟨y, 0, none⟩)) := h6.r6.blk.cell 3; have zs : w6.cell? ⟨g, 2, none⟩ = some (.string s) := h6.r5.blk.cell 2))
  all_goals
    have h7 := h6.r6
    clear x1 x3 xs y1 y3 ys z1 z3 zs h1 h5 HA HB
    try clear h5'
    try clear h6'
    obtain ⟨L, hL⟩ : ∃ L, L = PB p d j r y :: Two d j r y v5 M1 J1 (Blk g 62 [.int .i64 2, .int .i64 num, .string s] :: F) := ⟨_, rfl⟩
    have hIn : Sat w0 w6 L := by rw [hL]; exact h7
    have op : ∀ w', Sat w0 w' L → Sat w0 w' (PB p d j r y :: Two d j r y v5 M1 J1 (Blk g 62 [.int .i64 2, .int .i64 num, .string s] :: F)) := fun w' h => by rw [hL] at h; exact h
    have po : ∀ w', Sat w0 w' (PB p d j r y :: Two d j r y v5 M1 J1 (Blk g 62 [.int .i64 2, .int .i64 num, .string s] :: F)) → Sat w0 w' L := fun w' h => by rw [hL]; exact h
    have f0 : ∀ x : In w0 L, x.w.cell? ⟨p, 0, none⟩ = some (.pointer (some ⟨d, 0, none⟩)) := fun x => (op _ x.ok).blk.cell 0
    have f2 : ∀ x : In w0 L, x.w.cell? ⟨p, 2, none⟩ = some (.pointer (some ⟨r, 0, none⟩)) := fun x => (op _ x.ok).blk.cell 2
    have c24 : Hid (∀ x : In w0 L, Calls Tryd.prog 24 #[.pointer (some ⟨p, 0, none⟩)] x.w fun e w' => e = .returned (.bool true) ∧ ∃ y : In w0 L, w' = y.w) := by
      show ∀ x, _
      intro x
      exact Calls.in_ ((statP_any (op _ x.ok) (by have := HF2.out; omega)).mono fun e w' h => ⟨h.1, po _ h.2⟩)
    have c13 : Hid (∀ x : In w0 L, Calls Tryd.prog 13 #[.pointer (some ⟨d, 0, none⟩), .pointer (some ⟨r, 0, none⟩)] x.w fun e w' => e = .returned (.bool true) ∧ ∃ y : In w0 L, w' = y.w) := by
      show ∀ x, _
      intro x
      have h := op _ x.ok
      unfold Two at h
      exact Calls.in_drewN (alike_any h.r5.r4 HOK2.out)
    have HIN := Lib.hid hIn
    have HOP := Lib.hid op
    haveI hne : Nonempty (In w0 L) := ⟨⟨_, hIn⟩⟩
    clear hL op hIn h7 po
    go_wp2_with fail
    refine wp_region_in HIN.out (by kernel_rfl) (by kernel_rfl) ?_
    repeat go_big_quiet_step ((first | (go_at_call 24; exact c24.out _) | (go_at_call 13; exact c13.out _)))
    refine wpQuiet_nil ?_
    intro w9 hw'
    obtain ⟨x9, hw9⟩ := hw'
    have h9 := x9.ok
    rw [← hw9] at h9
    clear hw9 x9
    clear f0 f2 hne c24 c13
    have h8 := HOP.out _ h9
    unfold Two at h8
    clear h9 HIN HOP
    go_wp2_with fail
    go_ret
    exact ⟨rfl, .inr ⟨HG2.out, j, y, _, h8.r6.tail⟩⟩
set_option maxHeartbeats 1600000 in
theorem jdoes_crash (act num : Int) (s : ByteArray) (hS : Sat w0 w (PB p d j r y :: Two d j r y v M J F)) (hJ : Sane M J) (hg : J.gen ≠ 0) (hwf : (JOp.mk act num s).wf) (hO : Old w0 ∈ F) (hT : Table w0) (ha : act = 3) :
    Calls Tryd.prog 25 #[.pointer (some ⟨p, 0, none⟩), .agg #[.int .i64 act, .int .i64 num, .string s]] w (DoesOut w0 F p d r (stepJ M J ⟨act, num, s⟩)) := by
  obtain ⟨o1, o2⟩ := hwf
  simp only at o1 o2
  have HN := Lib.hid o1
  have HO2 := Lib.hid o2
  have HJ := Lib.hid hJ
  have HOK := Lib.hid hJ.ok
  have hn : J.n ≤ 1099511627776 := by have := hJ.n_le; omega
  have HNL := Lib.hid hn
  have HFL := Lib.hid hJ.file
  have HGN := Lib.hid hJ.gen
  have h1 := (hS.new #[.int .i64 act, .int .i64 num, .string s] 62)
  clear o1 o2 hJ hn hS
  subst ha
  have HST : Hid (stepJ M J ⟨3, num, s⟩ = openJ (crashM M num.toNat)) := by show _ = _; unfold stepJ; rw [if_neg (by simp), if_neg (by simp), if_neg (by simp), if_pos rfl]
  have HOK2 : Hid ((crashM M num.toNat).Ok) := crash_ok HOK.out _
  unfold Two at h1
  rw [HST.out]
  have HH := Lib.hid h1
  clear HST h1
  go_enter Tryd.func25, Tryd.ntmps25
  go_wp2_with fail
  have h1 := HH.out
  obtain ⟨g, hg⟩ : ∃ g, w.heap.size = g := ⟨_, rfl⟩
  generalize (w.alloc (.cells #[.int .i64 3, .int .i64 num, .string s] 62)) = W at h1 HH ⊢
  rw [hg] at h1 ⊢
  clear hg HH
  have x0 : W.cell? ⟨p, 0, none⟩ = some (.pointer (some ⟨d, 0, none⟩)) := h1.r2.blk.cell 0
  have x1 : W.cell? ⟨g, 1, none⟩ = some (.int .i64 num) := h1.blk.cell 1
  go_region_held3 (fun w' => w'.cell? ⟨p, 0, none⟩ = some (.pointer (some ⟨d, 0, none⟩)) ∧ w'.cell? ⟨g, 1, none⟩ = some (.int .i64 num))
    (first | exact ⟨x0, x1⟩ | exact ⟨y0, y1⟩)
    (first | (go_at_call 17; refine (crash_sat h1.r4.drew HOK.out num HN.out).mono ?_; rintro e w5 ⟨rfl, v5, h5⟩; have y0 : w5.cell? ⟨p, 0, none⟩ = some (.pointer (some ⟨d, 0, none⟩)) := h5.r3.blk.cell 0; have y1 : w5.cell? ⟨g, 1, none⟩ = some (.int .i64 num) := h5.r2.blk.cell 1))
  have h5' := h5.r6.r2
  have x2 : w5.cell? ⟨p, 2, none⟩ = some (.pointer (some ⟨r, 0, none⟩)) := h5.r3.blk.cell 2
  clear x0 x1 y0 h1
  go_wp2_with fail
  go_region_held3 (fun w' => w'.cell? ⟨p, 2, none⟩ = some (.pointer (some ⟨r, 0, none⟩)) ∧ w'.cell? ⟨g, 1, none⟩ = some (.int .i64 num))
    (first | exact ⟨x2, y1⟩ | exact ⟨z2, z1⟩)
    (first | (go_at_call 49; refine (rcrash_sat h5'.drew HOK.out num HN.out).mono ?_; rintro e w6 ⟨rfl, h6⟩; have z2 : w6.cell? ⟨p, 2, none⟩ = some (.pointer (some ⟨r, 0, none⟩)) := h6.r4.blk.cell 2; have z1 : w6.cell? ⟨g, 1, none⟩ = some (.int .i64 num) := h6.r3.blk.cell 1))
  have h7 := h6.r4
  clear x2 z2 z1 y1 h5 h5' h6
  go_wp2_with fail
  refine (opens_does h7 HOK2.out hO hT).mono ?_
  rintro e w7 ⟨rfl, h8⟩
  go_wp2_with fail
  go_ret
  exact ⟨rfl, h8⟩
set_option maxHeartbeats 1600000 in
theorem jdoes_open (act num : Int) (s : ByteArray) (hS : Sat w0 w (PB p d j r y :: Two d j r y v M J F)) (hJ : Sane M J) (hg : J.gen ≠ 0) (hwf : (JOp.mk act num s).wf) (hO : Old w0 ∈ F) (hT : Table w0) (ha : act = 4) :
    Calls Tryd.prog 25 #[.pointer (some ⟨p, 0, none⟩), .agg #[.int .i64 act, .int .i64 num, .string s]] w (DoesOut w0 F p d r (stepJ M J ⟨act, num, s⟩)) := by
  obtain ⟨o1, o2⟩ := hwf
  simp only at o1 o2
  have HN := Lib.hid o1
  have HO2 := Lib.hid o2
  have HJ := Lib.hid hJ
  have HOK := Lib.hid hJ.ok
  have hn : J.n ≤ 1099511627776 := by have := hJ.n_le; omega
  have HNL := Lib.hid hn
  have HFL := Lib.hid hJ.file
  have HGN := Lib.hid hJ.gen
  have h1 := (hS.new #[.int .i64 act, .int .i64 num, .string s] 62)
  clear o1 o2 hJ hn hS
  subst ha
  have HST : Hid (stepJ M J ⟨4, num, s⟩ = openJ M) := by show _ = _; unfold stepJ; rw [if_neg (by simp), if_neg (by simp), if_neg (by simp), if_neg (by simp), if_pos rfl]
  unfold Two at h1
  rw [HST.out]
  have HH := Lib.hid h1
  clear HST h1
  go_enter Tryd.func25, Tryd.ntmps25
  go_wp2_with fail
  refine (opens_does (X := Blk w.heap.size 62 [.int .i64 4, .int .i64 num, .string s]) (Y := JB j d J) (Z := RB y r J) (M := M) (d := d) (r := r) (v := v) HH.out.r2.r6.r5.r3 HOK.out hO hT).mono ?_
  rintro e w7 ⟨rfl, h8⟩
  go_wp2_with fail
  go_ret
  exact ⟨rfl, h8⟩
set_option maxHeartbeats 1600000 in
theorem jdoes_none (act num : Int) (s : ByteArray) (hS : Sat w0 w (PB p d j r y :: Two d j r y v M J F)) (hJ : Sane M J) (hg : J.gen ≠ 0) (hwf : (JOp.mk act num s).wf) (hO : Old w0 ∈ F) (hT : Table w0) (ha : ¬ act = 0 ∧ ¬ act = 1 ∧ ¬ act = 2 ∧ ¬ act = 3 ∧ ¬ act = 4) :
    Calls Tryd.prog 25 #[.pointer (some ⟨p, 0, none⟩), .agg #[.int .i64 act, .int .i64 num, .string s]] w (DoesOut w0 F p d r (stepJ M J ⟨act, num, s⟩)) := by
  obtain ⟨o1, o2⟩ := hwf
  simp only at o1 o2
  have HN := Lib.hid o1
  have HO2 := Lib.hid o2
  have HJ := Lib.hid hJ
  have HOK := Lib.hid hJ.ok
  have hn : J.n ≤ 1099511627776 := by have := hJ.n_le; omega
  have HNL := Lib.hid hn
  have HFL := Lib.hid hJ.file
  have HGN := Lib.hid hJ.gen
  have h1 := (hS.new #[.int .i64 act, .int .i64 num, .string s] 62)
  clear o1 o2 hJ hn hS
  obtain ⟨a0, a1, a2, a3, a4⟩ := ha
  have HST : Hid (stepJ M J ⟨act, num, s⟩ = (M, J)) := by show _ = _; unfold stepJ; rw [if_neg a0, if_neg a1, if_neg a2, if_neg a3, if_neg a4]
  have t0 : (act == 0) = false := by rw [beq_eq_false_iff_ne]; exact a0
  have t1 : (act == 1) = false := by rw [beq_eq_false_iff_ne]; exact a1
  have t2 : (act == 2) = false := by rw [beq_eq_false_iff_ne]; exact a2
  have t3 : (act == 3) = false := by rw [beq_eq_false_iff_ne]; exact a3
  have t4 : (act == 4) = false := by rw [beq_eq_false_iff_ne]; exact a4
  have HG := Lib.hid hg
  unfold Two at h1
  rw [HST.out]
  have HH := Lib.hid h1
  clear HST h1 a0 a1 a2 a3 a4 hg
  go_enter Tryd.func25, Tryd.ntmps25
  have h7 := HH.out.b6
  obtain ⟨g, hg⟩ : ∃ g, w.heap.size = g := ⟨_, rfl⟩
  rw [hg] at h7
  obtain ⟨L, hL⟩ : ∃ L, L = PB p d j r y :: Two d j r y v M J (Blk g 62 [.int .i64 act, .int .i64 num, .string s] :: F) := ⟨_, rfl⟩
  have hIn : Sat w0 (w.alloc (.cells #[.int .i64 act, .int .i64 num, .string s] 62)) L := by rw [hL]; exact h7
  have op : ∀ w', Sat w0 w' L → Sat w0 w' (PB p d j r y :: Two d j r y v M J (Blk g 62 [.int .i64 act, .int .i64 num, .string s] :: F)) := fun w' h => by rw [hL] at h; exact h
  have po : ∀ w', Sat w0 w' (PB p d j r y :: Two d j r y v M J (Blk g 62 [.int .i64 act, .int .i64 num, .string s] :: F)) → Sat w0 w' L := fun w' h => by rw [hL]; exact h
  have f0 : ∀ x : In w0 L, x.w.cell? ⟨p, 0, none⟩ = some (.pointer (some ⟨d, 0, none⟩)) := fun x => (op _ x.ok).blk.cell 0
  have f2 : ∀ x : In w0 L, x.w.cell? ⟨p, 2, none⟩ = some (.pointer (some ⟨r, 0, none⟩)) := fun x => (op _ x.ok).blk.cell 2
  have c24 : Hid (∀ x : In w0 L, Calls Tryd.prog 24 #[.pointer (some ⟨p, 0, none⟩)] x.w fun e w' => e = .returned (.bool true) ∧ ∃ y : In w0 L, w' = y.w) := by
    show ∀ x, _
    intro x
    exact Calls.in_ ((statP_any (op _ x.ok) (by have := HFL.out; omega)).mono fun e w' h => ⟨h.1, po _ h.2⟩)
  have c13 : Hid (∀ x : In w0 L, Calls Tryd.prog 13 #[.pointer (some ⟨d, 0, none⟩), .pointer (some ⟨r, 0, none⟩)] x.w fun e w' => e = .returned (.bool true) ∧ ∃ y : In w0 L, w' = y.w) := by
    show ∀ x, _
    intro x
    have h := op _ x.ok
    unfold Two at h
    exact Calls.in_drewN (alike_any h.r5.r4 HOK.out)
  have HIN := Lib.hid hIn
  have HOP := Lib.hid op
  haveI hne : Nonempty (In w0 L) := ⟨⟨_, hIn⟩⟩
  clear hL op hIn h7 po
  go_wp2_with fail
  refine wp_region_in HIN.out (by kernel_rfl) (by kernel_rfl) ?_
  repeat go_big_quiet_step ((first | (go_at_call 24; exact c24.out _) | (go_at_call 13; exact c13.out _)))
  refine wpQuiet_nil ?_
  intro w9 hw'
  obtain ⟨x9, hw9⟩ := hw'
  have h9 := x9.ok
  rw [← hw9] at h9
  clear hw9 x9
  clear f0 f2 hne c24 c13
  have h8 := HOP.out _ h9
  unfold Two at h8
  clear h9 HIN HOP
  go_wp2_with fail
  go_ret
  exact ⟨rfl, .inr ⟨HG.out, j, y, _, h8.r6.tail⟩⟩
theorem jdoes_any (o : JOp) (hS : Sat w0 w (PB p d j r y :: Two d j r y v M J F)) (hJ : Sane M J) (hg : J.gen ≠ 0) (hwf : o.wf) (hO : Old w0 ∈ F) (hT : Table w0) :
    Calls Tryd.prog 25 #[.pointer (some ⟨p, 0, none⟩), .agg #[.int .i64 o.act, .int .i64 o.num, .string o.s]] w (DoesOut w0 F p d r (stepJ M J o)) := by
  obtain ⟨act, num, s⟩ := o
  by_cases a0 : act = 0
  · exact jdoes_add act num s hS hJ hg hwf hO hT a0
  by_cases a1 : act = 1
  · exact jdoes_sync act num s hS hJ hg hwf hO hT a1
  by_cases a2 : act = 2
  · exact jdoes_comp act num s hS hJ hg hwf hO hT a2
  by_cases a3 : act = 3
  · exact jdoes_crash act num s hS hJ hg hwf hO hT a3
  by_cases a4 : act = 4
  · exact jdoes_open act num s hS hJ hg hwf hO hT a4
  exact jdoes_none act num s hS hJ hg hwf hO hT ⟨a0, a1, a2, a3, a4⟩
end
end Go.Proofs.YtjlpgjfgeikdeaaDoor
