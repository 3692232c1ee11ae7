/- The laws JournalScripts and JournalOpens: the walks. -/
import Derived.Test.YtjlpgjfgeikdeaaDoorKC
import Derived.Test.YtjlpgjfgeikdeaaDoorKD
set_option linter.unusedVariables false
set_option linter.unusedSimpArgs false
set_option linter.unnecessarySimpa false
set_option maxRecDepth 100000
namespace Go.Proofs.YtjlpgjfgeikdeaaDoor
open Go.RowKit Go.ChangeShapes Go.WideShapes Go.ChangeAt
open Fr (strOfNats strOfNats_size strOfNats_bytes bytesOf Table restOf wrapS)
theorem jop_cells {w0 w' : World} {b of c : Nat} {l : List JOp} (hE : Elems w0 (.slice (some ⟨b, of, none⟩) l.length c) 3 (l.map JOp.vs)) (hb : Below w0.heap.size w0 w') (k : Nat) (hk : k < l.length) :
    w'.cell? ⟨b, of + k * 3, none⟩ = some (.int .i64 l[k].act) ∧ w'.cell? ⟨b, of + k * 3 + 1, none⟩ = some (.int .i64 l[k].num) ∧ w'.cell? ⟨b, of + k * 3 + 2, none⟩ = some (.string l[k].s) := by
  obtain ⟨b', of', e, hc⟩ := (hE.keep hb).at_.2.2 (by rw [List.length_map]; omega)
  cases e
  have hc' := hc k (by rw [List.length_map]; exact hk)
  have hx : (l.map JOp.vs).getD k [] = (l[k]).vs := by simp [List.getD, hk]
  rw [hx] at hc'
  exact ⟨hc' 0 (by decide), hc' 1 (by decide), hc' 2 (by decide)⟩
theorem jop_addr {w0 : World} {A : Option Addr} {c : Nat} {l : List JOp} (hE : Elems w0 (.slice A l.length c) 3 (l.map JOp.vs)) (hk : 0 < l.length) : ∃ b of, A = some ⟨b, of, none⟩ := by
  obtain ⟨b', of', e, hc⟩ := hE.at_.2.2 (by rw [List.length_map]; omega)
  exact ⟨b', of', e⟩
def ScrRel (w0 : World) (F : List HP) (p d r : Nat) (B : MD) (l : List JOp) (i : Value) (wr : World) : Prop :=
  ∃ (k j y : Nat) (v : Nat → Value), k ≤ l.length ∧ i = .int .i64 k ∧ Sat w0 wr (PB p d j r y :: Two d j r y v (playJ B ⟨0, 1, 0⟩ l k).1 (playJ B ⟨0, 1, 0⟩ l k).2 F)
set_option maxHeartbeats 3200000 in
theorem journalScripts_walk (room : Int) (A : Option Addr) (n c : Nat) (l : List JOp) (w : World) (hT : Table w) (w0 : (Lit.int .i64 room).wf = true) (w1 : JOpsAt w A n c l) (_ : n * 32 ≤ 140737488351232) :
    Calls Tryd.prog 6 #[.int .i64 room, .slice A n c] w fun e w' => e = .returned (.bool true) ∧ Below w.heap.size w w' := by
  obtain ⟨hn, hml, _⟩ := w1.1.at_
  rw [List.length_map] at hn hml
  subst hn
  unfold maxLen at hml
  have HE := Lib.hid w1.1
  have HW := Lib.hid w1.2
  have HR := Lib.hid (i64_of w0)
  have hpk := pickN_lt room 6000 (by decide)
  have HP0 : Hid (Calls Tryd.prog 23 #[.int .i64 room, .int .i64 6000] w fun e w' => e = .returned (.int .i64 (pickN room 6000 : Nat)) ∧ w' = w) := pick_any room 6000 w HR.out (by decide) (by decide)
  obtain ⟨q, hq⟩ : ∃ q, pickN room 6000 = q := ⟨_, rfl⟩
  rw [hq] at hpk HP0
  have hr : (20 : Int) + (q : Int) = ((20 + q : Nat) : Int) := by omega
  have HRR := Lib.hid hr
  have H1 := Lib.hid (made_any (20 + q) (by omega) (by omega) (Sat.start w) (by simp) hT)
  have HST : Hid (Stands (madeM ((20 + q : Nat) : Int)) ⟨0, 1, 0⟩) := made_stands (by omega) (by omega)
  obtain ⟨B, hB⟩ : ∃ B, madeM ((20 + q : Nat) : Int) = B := ⟨_, rfl⟩
  rw [hB] at H1 HST
  have HOK : Hid (B.Ok) := HST.out.sane.1.ok
  have sw0 : IntKind.i64.wrap (20 + (q : Int)) = ((20 + q : Nat) : Int) := by rw [← hr]; exact IntWalk.i64_in _ (by omega)
  clear hB hq w0 w1 hr
  go_enter Tryd.func6, Tryd.ntmps6
  go_wp2_with fail
  refine HP0.out.mono ?_
  rintro e w ⟨rfl, rfl⟩
  go_wp2_with fail
  refine H1.out.mono ?_
  rintro e w3 ⟨d, j, r, y, v, rfl, h3⟩
  have h4 := h3.new #[.pointer (some ⟨d, 0, none⟩), .pointer (some ⟨j, 0, none⟩), .pointer (some ⟨r, 0, none⟩), .pointer (some ⟨y, 0, none⟩)] 56
  obtain ⟨p, hp⟩ : ∃ p, w3.heap.size = p := ⟨_, rfl⟩
  clear H1 HP0
  go_wp2_with fail
  refine (begun_any h4 (by unfold Two; simp) hT).mono ?_
  rintro e w4 ⟨rfl, h5⟩
  rw [hp] at h5
  clear h3 h4
  go_wp2_with fail
  clear hp
  refine (statP_any h5 (by show 0 < 4; decide)).mono ?_
  rintro e w5 ⟨rfl, h6⟩
  clear h5
  unfold Two at h6
  have x0 : w5.cell? ⟨p, 0, none⟩ = some (.pointer (some ⟨d, 0, none⟩)) := h6.blk.cell 0
  have x2 : w5.cell? ⟨p, 2, none⟩ = some (.pointer (some ⟨r, 0, none⟩)) := h6.blk.cell 2
  go_wp2_with fail
  refine (alike_any h6.r5.r4 HOK.out).mono ?_
  rintro e w6 ⟨rfl, m, rfl⟩
  have h7 := h6.drewN m
  clear h6 x0 x2
  go_wp2_with fail
  go_loopw [7] (ScrRel w [Old w] p d r B l) (fun i _ => l.length - (intOf i).toNat)
  case atStart => exact ⟨0, j, y, v, Nat.zero_le _, rfl, h7⟩
  case round =>
    obtain ⟨k, j, y, v, hk, rfl, hU⟩ := hrel
    clear h7
    by_cases hlt : k < l.length
    · obtain ⟨b, of, rfl⟩ := jop_addr HE.out (by omega)
      obtain ⟨e0, e1, e2⟩ := jop_cells HE.out (hU.old (by unfold Two; simp)) k hlt
      have hnx := play_next B ⟨0, 1, 0⟩ l k hlt
      have hst := play_stands HST.out l k
      obtain ⟨hs1, hs2⟩ := hst.sane
      have hs3 := stands_step hst l[k]
      have HD := Lib.hid (jdoes_any l[k] hU hs1 hs2 (HW.out _ (List.getElem_mem hlt)) (by simp) hT)
      have HG := Lib.hid hs3.1
      rw [← hnx] at HD HG
      obtain ⟨⟨act, num, s⟩, hM⟩ : ∃ x, l[k] = x := ⟨_, rfl⟩
      rw [hM] at e0 e1 e2 HD
      simp only at e0 e1 e2 HD
      clear hnx hst hs1 hs2 hs3 hM hU
      go_wp2_with fail
      refine HD.out.mono ?_
      unfold DoesOut
      rintro e w8 ⟨rfl, ⟨hz, _⟩ | ⟨_, j2, y2, v2, h8⟩⟩
      · exact absurd hz HG.out
      clear e0 e1 e2
      go_wp2_with fail
      go_roundw
      case rel => exact ⟨k + 1, j2, y2, v2, by omega, by go_num, h8⟩
      case measure => simp [intOf]; omega
    · go_wp2_with fail
      go_ret
      exact ⟨rfl, hU.old (by unfold Two; simp)⟩
/-- behind so many calls, or without a journal -/
def OpnRel (w0 : World) (F : List HP) (p d r : Nat) (n : Nat) (i : Value) (wr : World) : Prop :=
  ∃ k : Nat, k ≤ n ∧ i = .int .i64 k ∧
    ((∃ (M : MD) (v : Nat → Value), M.Ok ∧ Sat w0 wr (Blk p 56 [.pointer (some ⟨d, 0, none⟩), .pointer none, .pointer (some ⟨r, 0, none⟩), .pointer none] :: DiskV d v M :: Blk r 83 (cellsR M) :: F)) ∨
     (∃ (M : MD) (J : JS) (j y : Nat) (v : Nat → Value), Sane M J ∧ J.gen ≠ 0 ∧ Sat w0 wr (PB p d j r y :: Two d j r y v M J F)))
theorem does_opn {w0 w' : World} {F : List HP} {p d r n k : Nat} {R : MD × JS} {e : Ending} (h : DoesOut w0 F p d r R e w') (hok : R.1.Ok) (hs : R.2.gen ≠ 0 → Sane R.1 R.2) (hk : k ≤ n) :
    e = .returned (.bool true) ∧ OpnRel w0 F p d r n (.int .i64 k) w' := by
  obtain ⟨rfl, h⟩ := h
  refine ⟨rfl, k, hk, rfl, ?_⟩
  rcases h with ⟨_, v, h⟩ | ⟨hg, j, y, v, h⟩
  · exact .inl ⟨_, v, hok, h⟩
  · exact .inr ⟨_, _, j, y, v, hs hg, hg, h⟩
set_option maxHeartbeats 3200000 in
theorem journalOpens_walk (room : Int) (A : Option Addr) (n c : Nat) (l : List Img) (A2 : Option Addr) (n2 c2 : Nat) (s : List JOp) (w : World) (hT : Table w) (w0 : (Lit.int .i64 room).wf = true) (w1 : ImgAt w A n c l) (_ : n * 32 ≤ 140737488351232)
    (w2 : JOpsAt w A2 n2 c2 s) (_ : n2 * 32 ≤ 140737488351232) :
    Calls Tryd.prog 7 #[.int .i64 room, .slice A n c, .slice A2 n2 c2] w fun e w' => e = .returned (.bool true) ∧ Below w.heap.size w w' := by
  obtain ⟨hn, hml, _⟩ := w2.1.at_
  rw [List.length_map] at hn hml
  subst hn
  unfold maxLen at hml
  have HE := Lib.hid w2.1
  have HW := Lib.hid w2.2
  have H1 := Lib.hid (laid_any room A n c l (Sat.start w) (by simp) (i64_of w0) w1)
  have HOK : Hid ((laidM room l).Ok) := imgs_ok (fresh1_ok (by omega) (by have := pickN_lt room 1048576 (by decide); omega)) l _
  obtain ⟨M, hM⟩ : ∃ M, laidM room l = M := ⟨_, rfl⟩
  rw [hM] at H1 HOK
  clear hM w0 w1 w2
  go_enter Tryd.func7, Tryd.ntmps7
  go_wp2_with fail
  refine H1.out.mono ?_
  rintro e w2 ⟨d, r, v, rfl, h2⟩
  go_wp2_with fail
  refine (begun_any h2 (by simp) hT).mono ?_
  rintro e w3 ⟨rfl, h3⟩
  clear h2 H1
  go_wp2_with fail
  refine (open_nil _).mono ?_
  rintro e w4 ⟨rfl, rfl⟩
  have h4 := h3.new #[.pointer (some ⟨d, 0, none⟩), .pointer none, .pointer (some ⟨r, 0, none⟩), .pointer none] 56
  obtain ⟨p, hp⟩ : ∃ p, w4.heap.size = p := ⟨_, rfl⟩
  rw [hp] at h4
  clear h3
  have hab : (⟨#[]⟩ : ByteArray).toList = [] := by simp
  go_wp2_with fail
  clear hp
  refine (opens_any h4 HOK.out (by simp) hT).mono ?_
  intro e w5 h5
  obtain ⟨rfl, h6⟩ : e = .returned (.bool true) ∧ OpnRel w [Old w] p d r s.length (.int .i64 (0 : Nat)) w5 := by
    obtain ⟨rfl, h⟩ := h5
    refine ⟨rfl, 0, Nat.zero_le _, rfl, ?_⟩
    rcases h with ⟨_, v, h⟩ | ⟨hg, j, y, v, h⟩
    · exact .inl ⟨_, v, HOK.out, h⟩
    · refine .inr ⟨_, _, j, y, v, ?_, hg, h⟩
      have := openJ_sane HOK.out
      unfold openJ at this
      rw [if_neg hg] at this
      exact this hg
  clear h4 h5
  have H6 := Lib.hid h6
  clear h6
  go_wp2_with fail
  go_loopw [15] (OpnRel w [Old w] p d r s.length) (fun i _ => s.length - (intOf i).toNat)
  case atStart => exact H6.out
  case round =>
    obtain ⟨k, hk, rfl, hU⟩ := hrel
    clear H6
    rcases hU with ⟨N, v, hN, hU⟩ | ⟨N, J, j, y, v, hS, hg, hU⟩
    · have x3 : wr.cell? ⟨p, 3, none⟩ = some (.pointer none) := hU.blk.cell 3
      by_cases hlt : k < s.length
      · go_wp2_with fail
        go_ret
        exact ⟨rfl, hU.old (by simp)⟩
      · go_wp2_with fail
        go_ret
        exact ⟨rfl, hU.old (by simp)⟩
    · have x3 : wr.cell? ⟨p, 3, none⟩ = some (.pointer (some ⟨y, 0, none⟩)) := hU.blk.cell 3
      by_cases hlt : k < s.length
      · obtain ⟨b, of, rfl⟩ := jop_addr HE.out (by omega)
        obtain ⟨e0, e1, e2⟩ := jop_cells HE.out (hU.old (by unfold Two; simp)) k hlt
        have HD := Lib.hid (jdoes_any s[k] hU hS hg (HW.out _ (List.getElem_mem hlt)) (by simp) hT)
        have HO := Lib.hid (step_ok hS s[k])
        have HS := Lib.hid (step_sane hS s[k])
        obtain ⟨⟨act, num, t⟩, hM⟩ : ∃ x, s[k] = x := ⟨_, rfl⟩
        rw [hM] at e0 e1 e2 HD HO HS
        simp only at e0 e1 e2 HD
        clear hM hU hS hg
        go_wp2_with fail
        refine HD.out.mono ?_
        intro e w8 h8
        obtain ⟨rfl, h9⟩ := does_opn (n := s.length) (k := k + 1) h8 HO.out HS.out (by omega)
        have H9 := Lib.hid h9
        clear h8 h9 e0 e1 e2 x3
        go_wp2_with fail
        go_roundw
        case rel => exact (show OpnRel w [Old w] p d r s.length _ w8 from by have := H9.out; obtain ⟨k', h1, h2, h3⟩ := this; exact ⟨k + 1, by omega, by go_num, h3⟩)
        case measure => simp [intOf]; omega
      · go_wp2_with fail
        go_ret
        exact ⟨rfl, hU.old (by unfold Two; simp)⟩
end Go.Proofs.YtjlpgjfgeikdeaaDoor
