import Derived.Test.YtjlpgjfgeikdeaaDoorJ4
import Derived.Test.YtjlpgjfgeikdeaaDoorD2
import Derived.SizedLaws
section
/- The law's own functions: a new pair. -/
set_option linter.unusedVariables false
set_option linter.unusedSimpArgs false
set_option linter.unnecessarySimpa false
set_option maxRecDepth 100000
namespace Go.Proofs.YtjlpgjfgeikdeaaDoor
open Go.RowKit Go.ChangeShapes Go.WideShapes Go.ChangeAt
open Fr (strOfNats strOfNats_size strOfNats_bytes bytesOf Table restOf wrapS)
/-- the disk under a new journal -/
def madeM (room : Int) : MD := (laysR (freshM room) 0 1 noText).1
theorem fresh1_ok {room : Int} (h : 1 ≤ room) (h2 : room ≤ 1048576) : (freshM room).Ok :=
  ⟨h, h2, by show ((0 : Nat) : Int) ≤ room; omega, fun i hi => Nat.le_refl _⟩
theorem made_code {room : Int} (h : 17 ≤ room) : (laysR (freshM room) 0 1 noText).2 = 0 := by
  have hs : (headS 1 noText).size ≤ 17 := by
    have := headRS_size (gen := 1) (by decide) noText
    unfold headS
    rw [wrapS_size]
    have e : noText.size = 0 := rfl
    omega
  have hu : (freshM room).used = 0 := rfl
  have hr : (freshM room).room = room := rfl
  unfold laysR
  rw [if_pos ⟨by decide, by decide⟩]
  have : (appR (freshM room) ((0 : Nat) : Int) (headS 1 noText)).2 = 0 := by
    unfold appR
    rw [if_pos (by decide), if_pos (by rw [hu, hr]; omega)]
  rw [if_pos this]
theorem madeM_ok {room : Int} (h : 1 ≤ room) (h2 : room ≤ 1048576) : (madeM room).Ok := lays_ok (fresh1_ok h h2) _ _ _
section
variable {w0 w : World} {F : List HP}
theorem u56 : Tryd.prog.underlying 56 = some (((Tryd.prog.underlying 56).getD (.struct #[]))) := by kernel_rfl
theorem d56 : (match (Tryd.prog.underlying 56).getD (.struct #[]) with | .struct _ | .array _ _ => true | _ => false) = true := by kernel_rfl
theorem i56 : (Tryd.prog.info? 56).map (·.size) = some 4 := by kernel_rfl
theorem mk_results {w : World} {g : Nat} {tmps : Array Value} {a b c d : Value} (h : Sat w0 w (Blk g 56 [a, b, c, d] :: F)) (hp : tmps.getD 2 undef = .pointer (some ⟨g, 0, none⟩)) : (results Tryd.f22 tmps).run Tryd.prog w = .ok (.tuple #[.agg #[a, b, c, d], tmps.getD 3 undef]) w := by
  rw [results_cell_tmp (by rfl)]
  rw [hp]
  simp only [asAddr, Sem.run_pure, Result.andThen_ok]
  rw [run_loadVar_row w g 56 56 #[a, b, c, d] (0, 0) _ h.blk u56 d56 i56]
  rfl
set_option maxHeartbeats 1600000 in
theorem made_any (room : Nat) (h : 17 ≤ room) (h2 : room ≤ 1048576) (hS : Sat w0 w F) (hO : Old w0 ∈ F) (hT : Table w0) :
    Calls Tryd.prog 22 #[.int .i64 room] w fun e w' => ∃ d j r y v, e = .returned (.tuple #[.agg #[.pointer (some ⟨d, 0, none⟩), .pointer (some ⟨j, 0, none⟩), .pointer (some ⟨r, 0, none⟩), .pointer (some ⟨y, 0, none⟩)], .bool true]) ∧
      Sat w0 w' (Two d j r y v (madeM room) ⟨0, 1, 0⟩ F) := by
  have HC := Lib.hid (made_code (room := room) (by omega))
  have HOK := Lib.hid (fresh1_ok (room := (room : Int)) (by omega) (by omega))
  have h1' : (1 : Int) ≤ room := by omega
  have h2' : (room : Int) ≤ 1048576 := by omega
  have HE : ¬ (0 < ((freshM (room : Int)).f 0).b.size ∨ 0 < ((freshM (room : Int)).f 1).b.size) := by
    rintro (h | h) <;> exact absurd h (Nat.lt_irrefl 0)
  have HEE := Lib.hid HE
  have H1 := Lib.hid (fun (w1 : World) => new_any (room : Int) w1 h1' h2')
  have H2 := Lib.hid (fun (w1 : World) => rnew_any (room : Int) w1 h1' h2')
  have hnew := hS.new #[.pointer none, .pointer none, .pointer none, .pointer none] 56
  clear h1' h2' HE
  unfold madeM
  go_enter Tryd.func22, Tryd.ntmps22
  go_wp2_with fail
  refine (H1.out _).mono ?_
  rintro e w1 ⟨rfl, hD, hb⟩
  have hA := hnew.diskNew hb hD (fun k hk => by rcases hk with rfl | ⟨i, hi, hk⟩; exact Nat.le_refl _; simp [Value.ownBlock] at hk)
  clear hD hb hnew
  obtain ⟨d, hd⟩ : ∃ d, (w.alloc (.cells #[.pointer none, .pointer none, .pointer none, .pointer none] 56)).heap.size = d := ⟨_, rfl⟩
  rw [hd] at hA ⊢
  clear hd
  go_wp2_with fail
  refine (H2.out _).mono ?_
  rintro e w2 ⟨rfl, hR, hb⟩
  have hB := hA.made hb (Nat.le_refl _) hR
  clear hR hb hA
  obtain ⟨r, hr⟩ : ∃ r, w1.heap.size = r := ⟨_, rfl⟩
  rw [hr] at hB ⊢
  clear hr
  go_wp2_with fail
  refine (new_fresh hB.r2 HOK.out HEE.out (by simp [hO]) hT).mono ?_
  rintro e w3 (⟨_, j, v1, rfl, h3⟩ | ⟨hz, _⟩)
  case inr => exact absurd HC.out hz
  clear hB
  have h4 := h3.r3.r2
  clear h3
  go_wp2_with fail
  refine (rnew_fresh h4 HOK.out HEE.out).mono ?_
  rintro e w4 (⟨_, y, rfl, h5⟩ | ⟨hz, _⟩)
  case inr => exact absurd HC.out hz
  clear h4
  have h6 := h5.r5
  have c0 := h6.blk.cell 0
  have c1 := h6.blk.cell 1
  have c2 := h6.blk.cell 2
  have c3 := h6.blk.cell 3
  have f0 := h6.blk.free 0
  have f1 := h6.blk.free 1
  have f2 := h6.blk.free 2
  have f3 := h6.blk.free 3
  have H7 := Lib.hid ((((h6.set 0 (.pointer (some ⟨d, 0, none⟩))).set 1 (.pointer (some ⟨j, 0, none⟩))).set 2 (.pointer (some ⟨r, 0, none⟩))).set 3 (.pointer (some ⟨y, 0, none⟩)))
  clear h5 h6
  go_wp2_with fail
  (try simp only [Exit.inBlock, Exit.then])
  refine bodyPost_ret (mk_results H7.out rfl) rfl ?_
  exact ⟨d, j, r, y, v1, rfl, H7.out.tail.r4.r3⟩
end
end Go.Proofs.YtjlpgjfgeikdeaaDoor
end

section
/- The reading of images and of scripts; a disk laid with bytes. -/
set_option linter.unusedVariables false
set_option linter.unusedSimpArgs false
set_option linter.unnecessarySimpa false
set_option maxRecDepth 100000
namespace Go.Proofs.YtjlpgjfgeikdeaaDoor
open Go.RowKit Go.ChangeShapes Go.WideShapes Go.ChangeAt
open Fr (strOfNats strOfNats_size strOfNats_bytes bytesOf Table restOf wrapS)
theorem map_of {α : Type} {vs : α → List Value} {q : α → Prop} (L : List (List Value)) (h : ∀ i, i < L.length → ∃ o : α, L.getD i [] = vs o ∧ q o) : ∃ M : List α, L = M.map vs ∧ ∀ o ∈ M, q o := by
  have : ∀ L : List (List Value), (∀ x ∈ L, ∃ o : α, x = vs o ∧ q o) → ∃ M : List α, L = M.map vs ∧ ∀ o ∈ M, q o := by
    intro L
    induction L with
    | nil => intro _; exact ⟨[], rfl, by simp⟩
    | cons x l ih =>
      intro hx
      obtain ⟨o, rfl, ho⟩ := hx x (by simp)
      obtain ⟨M, rfl, hM⟩ := ih fun y hy => hx y (by simp [hy])
      refine ⟨o :: M, rfl, fun p hp => ?_⟩
      rcases List.mem_cons.1 hp with rfl | hp
      · exact ho
      · exact hM p hp
  refine this L fun x hx => ?_
  obtain ⟨i, hi, rfl⟩ := List.getElem_of_mem hx
  obtain ⟨o, e, ho⟩ := h i hi
  exact ⟨o, by rw [← e, ← List.getElem_eq_getD (h := hi)], ho⟩
/-- an image; a call -/
structure Img where
  safe : ByteArray
  more : ByteArray
def Img.vs (o : Img) : List Value := [.string o.safe, .string o.more]
def Img.wf (o : Img) : Prop := o.safe.size ≤ 9223372036854775807 ∧ o.more.size ≤ 9223372036854775807
structure JOp where
  act : Int
  num : Int
  s : ByteArray
def JOp.vs (o : JOp) : List Value := [.int .i64 o.act, .int .i64 o.num, .string o.s]
def JOp.wf (o : JOp) : Prop := wf64 o.num ∧ o.s.size ≤ 9223372036854775807
theorem read73 {H : Type} {enc : TypeId × Value → H} {W : World} {base fuel : Nat} {spare : Nat → Bool} {held : Bool} {cs : List Value} {x : DataW H × List MemPlace}
    (h : DataW.trod enc Tryd.prog W base spare held fuel 73 cs = some x) : ∃ o : Img, cs = o.vs ∧ o.wf := by
  obtain ⟨xs, n, rfl, hx, hlen, hn, hel⟩ := DataW.trod_struct Tryd.underlying73 h
  rw [show Tryd.prog.cellsOf 73 = 2 by kernel_rfl] at hlen
  match cs, hlen with
  | [c0, c1], _ =>
    have h0 := hel 0 _ rfl
    have h1 := hel 1 _ rfl
    match xs, hn with
    | [x0, x1], _ =>
      obtain ⟨k0, e0, _, w0⟩ := DataW.trod_string Tryd.underlying9 (x := x0) h0
      obtain ⟨k1, e1, _, w1⟩ := DataW.trod_string Tryd.underlying9 (x := x1) h1
      refine ⟨⟨k0, k1⟩, ?_, w0, w1⟩
      have q1 : Tryd.prog.cellsOf 9 = 1 := by kernel_rfl
      simp [q1] at e0 e1
      simp [Img.vs, e0, e1]
theorem read62 {H : Type} {enc : TypeId × Value → H} {W : World} {base fuel : Nat} {spare : Nat → Bool} {held : Bool} {cs : List Value} {x : DataW H × List MemPlace}
    (h : DataW.trod enc Tryd.prog W base spare held fuel 62 cs = some x) : ∃ o : JOp, cs = o.vs ∧ o.wf := by
  obtain ⟨xs, n, rfl, hx, hlen, hn, hel⟩ := DataW.trod_struct Tryd.underlying62 h
  rw [show Tryd.prog.cellsOf 62 = 3 by kernel_rfl] at hlen
  match cs, hlen with
  | [c0, c1, c2], _ =>
    have h0 := hel 0 _ rfl
    have h1 := hel 1 _ rfl
    have h2 := hel 2 _ rfl
    match xs, hn with
    | [x0, x1, x2], _ =>
      obtain ⟨k0, e0, _, w0⟩ := DataW.trod_int Tryd.underlying3 (x := x0) h0
      obtain ⟨k1, e1, _, w1⟩ := DataW.trod_int Tryd.underlying3 (x := x1) h1
      obtain ⟨k2, e2, _, w2⟩ := DataW.trod_string Tryd.underlying9 (x := x2) h2
      refine ⟨⟨k0, k1, k2⟩, ?_, i64_of w1, w2⟩
      have q0 : Tryd.prog.cellsOf 3 = 1 := by kernel_rfl
      have q1 : Tryd.prog.cellsOf 9 = 1 := by kernel_rfl
      simp [q0, q1] at e0 e1 e2
      simp [JOp.vs, e0, e1, e2]
def ImgAt (w : World) (A : Option Addr) (n c : Nat) (l : List Img) : Prop := Elems w (.slice A n c) 2 (l.map Img.vs) ∧ ∀ o ∈ l, o.wf
theorem open22 {H : Type} {enc : TypeId × Value → H} {W : World} {base : Nat} {spare : Nat → Bool} {held : Bool} {A : Option Addr} {n c : Nat} {d : DataW H} {ps : List MemPlace} (h : DataW.Trod enc Tryd.prog W base spare held 22 (.slice A n c) d ps) :
    ∃ l : List Img, ImgAt W A n c l ∧ (n = 0 ∨ ∃ ys rs, d = .slice ys rs ∧ ys.length = n) := by
  obtain ⟨L, ys, rs, hE, hy, hd, hL⟩ := elems_of Tryd.underlying22 (show Tryd.prog.cellsOf 73 = 2 by kernel_rfl) (by decide) h
  obtain ⟨M, rfl, hM⟩ := map_of L (vs := Img.vs) (q := Img.wf) (fun i hi => by
    obtain ⟨f, p, hr⟩ := hL i hi
    exact read73 hr)
  have hn := hE.at_.1
  refine ⟨M, ⟨hE, hM⟩, ?_⟩
  rcases hd with ⟨e, _⟩ | e
  · left; rw [hn, e]; rfl
  · right; exact ⟨ys, rs, e, by rw [hy, hn]⟩
def JOpsAt (w : World) (A : Option Addr) (n c : Nat) (l : List JOp) : Prop := Elems w (.slice A n c) 3 (l.map JOp.vs) ∧ ∀ o ∈ l, o.wf
theorem open47 {H : Type} {enc : TypeId × Value → H} {W : World} {base : Nat} {spare : Nat → Bool} {held : Bool} {A : Option Addr} {n c : Nat} {d : DataW H} {ps : List MemPlace} (h : DataW.Trod enc Tryd.prog W base spare held 47 (.slice A n c) d ps) :
    ∃ l : List JOp, JOpsAt W A n c l ∧ (n = 0 ∨ ∃ ys rs, d = .slice ys rs ∧ ys.length = n) := by
  obtain ⟨L, ys, rs, hE, hy, hd, hL⟩ := elems_of Tryd.underlying47 (show Tryd.prog.cellsOf 62 = 3 by kernel_rfl) (by decide) h
  obtain ⟨M, rfl, hM⟩ := map_of L (vs := JOp.vs) (q := JOp.wf) (fun i hi => by
    obtain ⟨f, p, hr⟩ := hL i hi
    exact read62 hr)
  have hn := hE.at_.1
  refine ⟨M, ⟨hE, hM⟩, ?_⟩
  rcases hd with ⟨e, _⟩ | e
  · left; rw [hn, e]; rfl
  · right; exact ⟨ys, rs, e, by rw [hy, hn]⟩
section
variable {P : Program} {H : Type} {ts : List TypeId} {ds : List (DataW H)}
theorem sized_of (h : (DataW.weightsEach P ts ds).all (· ≤ reachBytes) = true) {j : Nat} {t e : TypeId} {d : DataW H} {n b : Nat} (ht : ts[j]? = some t) (hd : ds[j]? = some d) (hu : P.underlying t = some (.slice e))
    (hb : P.bytesOf e = b) (he : n = 0 ∨ ∃ ys rs, d = .slice ys rs ∧ ys.length = n) : n * b ≤ 140737488351232 := by
  rcases he with rfl | ⟨ys, rs, rfl, rfl⟩
  · simp
  · have h1 := sized_slice h ht hd hu
    rw [hb] at h1
    have h2 : ys.length * b ≤ (ys.length + rs.length) * b := Nat.mul_le_mul_right _ (by omega)
    have h3 : reachBytes = 140737488351232 := by decide
    omega
end
/-- the disk behind an image; behind all of them -/
def imgM (M : MD) (i : Nat) (o : Img) : MD := (appR (syncR (appR M (i : Int) o.safe).1 (i : Int)).1 (i : Int) o.more).1
def imgsM (M : MD) (l : List Img) : Nat → MD
  | 0 => M
  | k + 1 => if h : k < l.length then imgM (imgsM M l k) k l[k] else imgsM M l k
theorem img_ok {M : MD} (h : M.Ok) (i : Nat) (o : Img) : (imgM M i o).Ok := app_ok (sync_ok (app_ok h _ _) _) _ _
theorem imgs_ok {M : MD} (h : M.Ok) (l : List Img) : ∀ k, (imgsM M l k).Ok
  | 0 => h
  | k + 1 => by
    unfold imgsM
    split
    · exact img_ok (imgs_ok h l k) _ _
    · exact imgs_ok h l k
def laidM (room : Int) (l : List Img) : MD := imgsM (freshM (1 + (pickN room 1048576 : Nat))) l (min l.length 4)
def LaidRel (w0 : World) (F : List HP) (d r : Nat) (B : MD) (l : List Img) (i : Value) (wr : World) : Prop :=
  ∃ (k : Nat) (v : Nat → Value), k ≤ l.length ∧ k ≤ 4 ∧ i = .int .i64 k ∧ Sat w0 wr (DiskV d v (imgsM B l k) :: Blk r 83 (cellsR (imgsM B l k)) :: F)
theorem imgs_next (M : MD) (l : List Img) (k : Nat) (h : k < l.length) : imgsM M l (k + 1) = imgM (imgsM M l k) k l[k] := by
  rw [imgsM, dif_pos h]
theorem img_cells {w0 w' : World} {b of c : Nat} {l : List Img} (hE : Elems w0 (.slice (some ⟨b, of, none⟩) l.length c) 2 (l.map Img.vs)) (hb : Below w0.heap.size w0 w') (k : Nat) (hk : k < l.length) :
    w'.cell? ⟨b, of + k * 2, none⟩ = some (.string l[k].safe) ∧ w'.cell? ⟨b, of + k * 2 + 1, none⟩ = some (.string l[k].more) := by
  obtain ⟨b', of', e, hc⟩ := (hE.keep hb).at_.2.2 (by rw [List.length_map]; omega)
  cases e
  have hc' := hc k (by rw [List.length_map]; exact hk)
  have hx : (l.map Img.vs).getD k [] = (l[k]).vs := by simp [List.getD, hk]
  rw [hx] at hc'
  exact ⟨hc' 0 (by decide), hc' 1 (by decide)⟩
theorem img_addr {w0 : World} {A : Option Addr} {c : Nat} {l : List Img} (hE : Elems w0 (.slice A l.length c) 2 (l.map Img.vs)) (hk : 0 < l.length) : ∃ b of, A = some ⟨b, of, none⟩ := by
  obtain ⟨b', of', e, hc⟩ := hE.at_.2.2 (by rw [List.length_map]; omega)
  exact ⟨b', of', e⟩
section
variable {w0 w : World} {F : List HP}
set_option maxHeartbeats 3200000 in
theorem laid_any (room : Int) (A : Option Addr) (n c : Nat) (l : List Img) (hS : Sat w0 w F) (hO : Old w0 ∈ F) (hr : wf64 room) (hI : ImgAt w0 A n c l) :
    Calls Tryd.prog 9 #[.int .i64 room, .slice A n c] w fun e w' => ∃ d r v, e = .returned (.tuple #[.pointer (some ⟨d, 0, none⟩), .pointer (some ⟨r, 0, none⟩), .bool true]) ∧
      Sat w0 w' (DiskV d v (laidM room l) :: Blk r 83 (cellsR (laidM room l)) :: F) := by
  have HE := Lib.hid hI.1
  obtain ⟨hn, hml, _⟩ := hI.1.at_
  rw [List.length_map] at hn hml
  subst hn
  unfold maxLen at hml
  have HW := Lib.hid hI.2
  have HR := Lib.hid hr
  have hpr := pickN_lt room 1048576 (by decide)
  have HL : Hid (laidM room l = imgsM (freshM (1 + (pickN room 1048576 : Nat))) l (min l.length 4)) := rfl
  obtain ⟨q, hq⟩ : ∃ q, pickN room 1048576 = q := ⟨_, rfl⟩
  rw [hq] at hpr HL
  have HQ := Lib.hid hq
  have HFO : Hid ((freshM (1 + (q : Int))).Ok) := fresh1_ok (by omega) (by omega)
  have HS := Lib.hid hS
  clear hq hI hr hS
  go_enter Tryd.func9, Tryd.ntmps9
  go_wp2_with fail
  refine (pick_any room 1048576 w HR.out (by decide) (by decide)).mono ?_
  rintro e w1 ⟨rfl, rfl⟩
  rw [HQ.out]
  go_wp2_with fail
  refine (new_any (1 + (q : Int)) w1 (by omega) (by omega)).mono ?_
  rintro e w2 ⟨rfl, hD, hb⟩
  have hS2 := HS.out.diskNew hb hD (fun k hk => by rcases hk with rfl | ⟨i, hi, hk⟩; exact Nat.le_refl _; simp [Value.ownBlock] at hk)
  clear hD hb
  obtain ⟨d, hd⟩ : ∃ d, w1.heap.size = d := ⟨_, rfl⟩
  rw [hd] at hS2 ⊢
  clear hd
  go_wp2_with fail
  refine (rnew_any (1 + (q : Int)) w2 (by omega) (by omega)).mono ?_
  rintro e w3 ⟨rfl, hD, hb⟩
  have hS3 := hS2.made hb (Nat.le_refl _) hD
  clear hD hb hS2
  obtain ⟨r, hr⟩ : ∃ d, w2.heap.size = d := ⟨_, rfl⟩
  rw [hr] at hS3 ⊢
  clear hr HS
  obtain ⟨B, hB⟩ : ∃ B, freshM (1 + (q : Int)) = B := ⟨_, rfl⟩
  rw [hB] at hS3 HFO HL
  have HS3 := Lib.hid hS3.r2
  clear hB hS3
  go_wp2_with fail
  go_loopw [11] (LaidRel w0 F d r B l) (fun i _ => l.length - (intOf i).toNat)
  case atStart => exact ⟨0, _, by omega, by omega, rfl, HS3.out⟩
  case round =>
    obtain ⟨k, v, hk, hk4, rfl, hT⟩ := hrel
    clear HS3
    have HIO : Hid ((imgsM B l k).Ok) := imgs_ok HFO.out l k
    by_cases hlt : k < l.length ∧ k < 4
    · have t1 : decide ((k : Int) < (l.length : Int)) = true := decide_eq_true (by omega)
      have t2 : decide ((k : Int) < 4) = true := decide_eq_true (by omega)
      have hlk := hlt.1
      have hk3 := hlt.2
      obtain ⟨b, of, rfl⟩ := img_addr HE.out (by omega)
      have HC : Hid (∀ w', Below w0.heap.size w0 w' → w'.cell? ⟨b, of + k * 2, none⟩ = some (.string l[k].safe) ∧ w'.cell? ⟨b, of + k * 2 + 1, none⟩ = some (.string l[k].more)) := fun w' hb => img_cells HE.out hb k hlk
      have hwf := HW.out _ (List.getElem_mem hlk)
      have HNX := Lib.hid (imgs_next B l k hlk)
      unfold imgM at HNX
      obtain ⟨⟨sf, mr⟩, ho⟩ : ∃ o, l[k] = o := ⟨_, rfl⟩
      rw [ho] at HC hwf HNX
      simp only at HC HNX
      have HWF := Lib.hid hwf
      obtain ⟨M0, hM0⟩ : ∃ M0, imgsM B l k = M0 := ⟨_, rfl⟩
      rw [hM0] at HNX HIO hT
      have HO1 : Hid ((appR M0 (k : Int) sf).1.Ok) := app_ok HIO.out _ _
      obtain ⟨M1, hM1⟩ : ∃ M1, (appR M0 (k : Int) sf).1 = M1 := ⟨_, rfl⟩
      have HM1 := Lib.hid hM1
      rw [hM1] at HNX HO1
      have HO2 : Hid ((syncR M1 (k : Int)).1.Ok) := sync_ok HO1.out _
      obtain ⟨M2, hM2⟩ : ∃ M2, (syncR M1 (k : Int)).1 = M2 := ⟨_, rfl⟩
      have HM2 := Lib.hid hM2
      rw [hM2] at HNX HO2
      obtain ⟨e0, _⟩ := HC.out _ (hT.old (by simp [hO]))
      clear hM1 hM2 hM0 ho hwf hlt
      go_wp2_with fail
      refine (app_sat hT HIO.out (k : Int) sf HWF.out.1).mono ?_
      rintro e w4 ⟨rfl, v4, h4⟩
      rw [HM1.out] at h4
      clear e0 hT
      go_wp2_with fail
      refine (sync_sat h4 (k : Int)).mono ?_
      rintro e w5 ⟨rfl, v5, h5⟩
      rw [HM2.out] at h5
      obtain ⟨_, e1⟩ := HC.out _ (h5.old (by simp [hO]))
      clear h4
      go_wp2_with fail
      refine (app_sat h5 HO2.out (k : Int) mr HWF.out.2).mono ?_
      rintro e w6 ⟨rfl, v6, h6⟩
      obtain ⟨e0, _⟩ := HC.out _ (h6.old (by simp [hO]))
      clear e1 h5
      go_wp2_with fail
      refine (rapp_sat h6 HIO.out (k : Int) sf HWF.out.1).mono ?_
      rintro e w7 ⟨rfl, h7⟩
      rw [HM1.out] at h7
      clear e0 h6
      go_wp2_with fail
      refine (rsync_sat h7 (k : Int)).mono ?_
      rintro e w8 ⟨rfl, h8⟩
      rw [HM2.out] at h8
      obtain ⟨_, e1⟩ := HC.out _ (h8.old (by simp [hO]))
      clear h7
      go_wp2_with fail
      refine (rapp_sat h8 HO2.out (k : Int) mr HWF.out.2).mono ?_
      rintro e w9 ⟨rfl, h9⟩
      clear e1 h8
      go_wp2_with fail
      go_roundw
      case rel => exact ⟨k + 1, v6, by omega, by omega, by go_num, by rw [HNX.out]; exact h9⟩
      case measure => simp [intOf]; omega
    · have hke : k = min l.length 4 := by omega
      by_cases h1 : k < l.length
      · have t1 : decide ((k : Int) < (l.length : Int)) = true := decide_eq_true (by omega)
        have t2 : decide ((k : Int) < 4) = false := decide_eq_false (by omega)
        have t3 : ¬ k < 4 := by omega
        rw [hke, ← HL.out] at hT
        clear hke
        go_wp2_with fail
        go_ret3
        exact ⟨d, r, v, rfl, hT⟩
      · have t1 : decide ((k : Int) < (l.length : Int)) = false := decide_eq_false (by omega)
        rw [hke, ← HL.out] at hT
        clear hke
        go_wp2_with fail
        go_ret3
        exact ⟨d, r, v, rfl, hT⟩
end
end Go.Proofs.YtjlpgjfgeikdeaaDoor
end

section
/- The plain law: what a file that a journal wrote has. -/
set_option linter.unusedVariables false
set_option linter.unusedSimpArgs false
set_option linter.unnecessarySimpa false
set_option maxRecDepth 100000
namespace Go.Proofs.YtjlpgjfgeikdeaaDoor
open Go.RowKit Go.ChangeShapes Go.WideShapes Go.ChangeAt
open Fr (strOfNats strOfNats_size strOfNats_bytes bytesOf Table restOf wrapS)
/-- frames one behind the other -/
def wrapsS : List ByteArray → ByteArray
  | [] => ⟨#[]⟩
  | r :: l => wrapS r ++ wrapsS l
theorem wrapsS_bytes (L : List ByteArray) : bytesOf (wrapsS L) = FrM.wraps (L.map bytesOf) := by
  induction L with
  | nil => rfl
  | cons r l ih =>
    rw [wrapsS, Fr.bytes_append, Fr.bytes_wrap, ih]
    rfl
theorem wrapsS_size (L : List ByteArray) : (wrapsS L).size = sizeB L := by
  induction L with
  | nil => rfl
  | cons r l ih =>
    rw [wrapsS, ByteArray.size_append, wrapS_size, ih]
    simp only [sizeB]
    omega
theorem wrapsS_append (A B : List ByteArray) : wrapsS (A ++ B) = wrapsS A ++ wrapsS B := by
  induction A with
  | nil => exact (ByteArray.empty_append).symm
  | cons r l ih => rw [List.cons_append, wrapsS, wrapsS, ih, ByteArray.append_assoc]
theorem wrapsS_one (r : ByteArray) : wrapsS [r] = wrapS r := ByteArray.append_empty
theorem scanB_wraps (L : List ByteArray) (h : ∀ r ∈ L, r.size ≤ 200000) : scanB (wrapsS L) = L := by
  refine (scanB_of ?_).symm
  rw [wrapsS_bytes, FrM.scan_wraps' _ (by
    intro r hr
    obtain ⟨x, hx, rfl⟩ := List.mem_map.1 hr
    have := h x hx
    rw [len_bytes']
    exact this)]
theorem rest_head (g : Nat) (snap : ByteArray) : restOf (headRS g snap) 1 = JnM.num g ++ bytesOf snap := by
  unfold restOf
  rw [headRS_bytes]
  rfl
theorem head_is {g : Nat} {snap : ByteArray} (h1 : 1 ≤ g) (h2 : g ≤ 1125899906842624) (h3 : snap.size ≤ 190000) : isHead (headRS g snap) := by
  have hz : (headRS g snap).size = 1 + (JnM.num g).length + snap.size := by
    have := len_bytes' (headRS g snap)
    rw [headRS_bytes] at this
    rw [← this]
    unfold JnM.headR
    simp only [List.length_cons, List.length_append, len_bytes']
    omega
  unfold isHead
  rw [rest_head, JnM.takeNum_num h2]
  refine ⟨by omega, ?_, rfl, h1, ?_⟩
  · unfold restOf
    rw [headRS_bytes]
    rfl
  · simp only
    omega
theorem head_gen {g : Nat} {snap : ByteArray} (h1 : 1 ≤ g) (h2 : g ≤ 1125899906842624) (h3 : snap.size ≤ 190000) : headGen (headRS g snap) = g := by
  unfold headGen
  rw [if_pos (head_is h1 h2 h3), rest_head, JnM.takeNum_num h2]
theorem head_snap {g : Nat} {snap : ByteArray} (h1 : 1 ≤ g) (h2 : g ≤ 1125899906842624) (h3 : snap.size ≤ 190000) : headSnap (headRS g snap) = snap := by
  unfold headSnap
  rw [if_pos (head_is h1 h2 h3), rest_head, JnM.takeNum_num h2]
  refine Fr.bytes_inj ?_
  have hd : (bytesOf (headRS g snap)).drop (1 + (JnM.num g).length) = bytesOf snap := by
    have := rest_head g snap
    unfold restOf at this
    rw [← List.drop_drop, this]
    simp
  have hl := len_bytes' (headRS g snap)
  rw [Fr.bytes_extract]
  show List.take ((headRS g snap).size - (1 + (JnM.num g).length)) ((bytesOf (headRS g snap)).drop (1 + (JnM.num g).length)) = _
  rw [List.take_of_length_le (by rw [List.length_drop]; omega), hd]
theorem shortB_all (L : List ByteArray) (h : ∀ r ∈ L, r.size ≤ 4000) : shortB L = L := by
  induction L with
  | nil => rfl
  | cons r l ih => rw [shortB, if_pos (h r (by simp)), ih fun x hx => h x (by simp [hx])]
/-- a file that a journal wrote -/
def fileS (g : Nat) (snap : ByteArray) (recs : List ByteArray) : ByteArray := headS g snap ++ wrapsS recs
theorem file_wraps (g : Nat) (snap : ByteArray) (recs : List ByteArray) : fileS g snap recs = wrapsS (headRS g snap :: recs) := rfl
theorem found_file {g : Nat} {snap : ByteArray} {recs : List ByteArray} (h1 : 1 ≤ g) (h2 : g ≤ 1125899906842624) (h3 : snap.size ≤ 190000) (h4 : ∀ r ∈ recs, r.size ≤ 4000) :
    foundB (headRS g snap :: recs) = ⟨g, snap, recs, (fileS g snap recs).size⟩ := by
  rw [foundB, if_pos (head_is h1 h2 h3), head_gen h1 h2 h3, head_snap h1 h2 h3, shortB_all recs h4, file_wraps, wrapsS_size]
  simp only [sizeB]
theorem scan_file {g : Nat} {snap : ByteArray} {recs : List ByteArray} (h2 : g ≤ 1125899906842624) (h3 : snap.size ≤ 190000) (h4 : ∀ r ∈ recs, r.size ≤ 4000) : scanB (fileS g snap recs) = headRS g snap :: recs := by
  rw [file_wraps, scanB_wraps]
  intro r hr
  rcases List.mem_cons.1 hr with rfl | hr
  · have := headRS_size h2 snap
    omega
  · have := h4 r hr
    omega
end Go.Proofs.YtjlpgjfgeikdeaaDoor
end

section
/- The plain law: what stands under a journal. -/
set_option linter.unusedVariables false
set_option linter.unusedSimpArgs false
set_option linter.unnecessarySimpa false
set_option maxRecDepth 100000
namespace Go.Proofs.YtjlpgjfgeikdeaaDoor
open Go.RowKit Go.ChangeShapes Go.WideShapes Go.ChangeAt
open Fr (strOfNats strOfNats_size strOfNats_bytes bytesOf Table restOf wrapS)
/-- a journal with this snapshot and these records behind it -/
structure Good (M : MD) (J : JS) (snap : ByteArray) (recs : List ByteArray) : Prop where
  ok : M.Ok
  file : J.file < 2
  gen1 : 1 ≤ J.gen
  gen2 : J.gen ≤ 1125899906842624
  n : J.n = recs.length
  hsnap : snap.size ≤ 190000
  hrecs : ∀ r ∈ recs, r.size ≤ 4000
  here : (M.f J.file).b = fileS J.gen snap recs
  other : (M.f (1 - J.file)).b = ⟨#[]⟩
theorem isB_file {n : Nat} (h : n < 4) : isB (n : Int) = true := by simp [isB]; omega
theorem app_eq {M : MD} {n : Nat} {s : ByteArray} (hn : n < 4) (h : (appR M (n : Int) s).2 = 0) : (appR M (n : Int) s).1 = M.set n ⟨(M.f n).b ++ s, (M.f n).safe⟩ := by
  unfold appR at h ⊢
  rw [if_pos (isB_file hn)] at h ⊢
  split
  · simp
  · rename_i hx; rw [if_neg hx] at h; simp at h
theorem sync_eq {M : MD} {n : Nat} (hn : n < 4) : syncR M (n : Int) = (M.set n ⟨(M.f n).b, (M.f n).b.size⟩, 0) := by
  unfold syncR
  rw [if_pos (isB_file hn)]
  simp
theorem good_made {room : Nat} (h : 17 ≤ room) (h2 : room ≤ 1048576) : Good (madeM room) ⟨0, 1, 0⟩ noText [] := by
  have hc := made_code (room := room) (by omega)
  have hok := madeM_ok (room := (room : Int)) (by omega) (by omega)
  have e : madeM room = (syncR (appR (freshM room) ((0 : Nat) : Int) (headS 1 noText)).1 ((0 : Nat) : Int)).1 := by
    unfold madeM laysR at *
    rw [if_pos ⟨by decide, by decide⟩] at hc ⊢
    split
    · rfl
    · rename_i hx; rw [if_neg hx] at hc; exact absurd hc hx
  have ha : (appR (freshM room) ((0 : Nat) : Int) (headS 1 noText)).2 = 0 := by
    unfold laysR at hc
    rw [if_pos ⟨by decide, by decide⟩] at hc
    split at hc
    · assumption
    · exact hc
  rw [app_eq (by decide) ha, sync_eq (by decide)] at e
  refine ⟨hok, by decide, by decide, by decide, rfl, by decide, by simp, ?_, ?_⟩
  · rw [e]
    show ((⟨#[]⟩ : ByteArray) ++ headS 1 noText) = headS 1 noText ++ ⟨#[]⟩
    exact ByteArray.empty_append.trans ByteArray.append_empty.symm
  · rw [e]; rfl
section
variable {M : MD} {J : JS} {snap : ByteArray} {recs : List ByteArray}
theorem good_add (h : Good M J snap recs) (rec : ByteArray) (hc : (addR M J rec).2.2 = 0) : Good (addR M J rec).1 (addR M J rec).2.1 snap (recs ++ [rec]) ∧ (addR M J rec).2.1 = ⟨J.file, J.gen, J.n + 1⟩ ∧ ((addR M J rec).1.f J.file).safe = (M.f J.file).safe := by
  have hf4 : J.file < 4 := by have := h.file; omega
  unfold addR at hc ⊢
  by_cases h1 : 4000 < rec.size
  · rw [if_pos h1] at hc; simp at hc
  rw [if_neg h1] at hc ⊢
  by_cases h2 : (appR M J.file (wrapS rec)).2 = 0
  · rw [if_pos h2] at hc ⊢
    have e := app_eq hf4 h2
    refine ⟨⟨app_ok h.ok _ _, h.file, h.gen1, h.gen2, by simp [h.n], h.hsnap, ?_, ?_, ?_⟩, rfl, ?_⟩
    · intro r hr
      rcases List.mem_append.1 hr with hr | hr
      · exact h.hrecs r hr
      · simp at hr; subst hr; omega
    · rw [e, set_f, if_pos rfl, h.here]
      show fileS J.gen snap recs ++ wrapS rec = _
      unfold fileS
      rw [wrapsS_append, wrapsS_one, ByteArray.append_assoc]
    · rw [e, set_f, if_neg (by have := h.file; show ¬ 1 - J.file = J.file; omega)]
      exact h.other
    · rw [e, set_f, if_pos rfl]
  · rw [if_neg h2] at hc; exact absurd hc h2
theorem good_sync (h : Good M J snap recs) : Good (jsyncR M J).1 J snap recs ∧ ((jsyncR M J).1.f J.file).safe = (fileS J.gen snap recs).size := by
  have hf4 : J.file < 4 := by have := h.file; omega
  unfold jsyncR
  rw [sync_eq hf4]
  refine ⟨⟨by have := sync_ok h.ok (J.file : Int); rwa [sync_eq hf4] at this, h.file, h.gen1, h.gen2, h.n, h.hsnap, h.hrecs, ?_, ?_⟩, ?_⟩
  · show ((M.set _ _).f _).b = _
    rw [set_f, if_pos rfl]; exact h.here
  · show ((M.set _ _).f _).b = _
    rw [set_f, if_neg (by have := h.file; omega)]; exact h.other
  · show ((M.set _ _).f _).safe = _
    rw [set_f, if_pos rfl, h.here]
theorem scan_empty : scanB ⟨#[]⟩ = [] := scanB_wraps [] (by simp)
theorem found_here (h : Good M J snap recs) : foundM M J.file = ⟨J.gen, snap, recs, (fileS J.gen snap recs).size⟩ := by
  unfold foundM
  rw [h.here, scan_file h.gen2 h.hsnap h.hrecs, found_file h.gen1 h.gen2 h.hsnap h.hrecs]
theorem found_other (h : Good M J snap recs) : foundM M (1 - J.file) = FB.none := by
  unfold foundM
  rw [h.other, scan_empty]
  rfl
theorem good_taken (h : Good M J snap recs) : taken M = J.file ∧ takenF M = ⟨J.gen, snap, recs, (fileS J.gen snap recs).size⟩ := by
  have h1 := found_here h
  have h2 := found_other h
  have hg := h.gen1
  have hf := h.file
  have ht : taken M = J.file := by
    unfold taken
    have : J.file = 0 ∨ J.file = 1 := by omega
    rcases this with e | e
    · rw [e] at h1 h2 ⊢
      rw [h1, h2]
      rfl
    · rw [e] at h1 h2 ⊢
      rw [h1, show foundM M 0 = FB.none from h2]
      exact if_pos (by show 0 < J.gen; omega)
  exact ⟨ht, by unfold takenF; rw [ht, h1]⟩
end
end Go.Proofs.YtjlpgjfgeikdeaaDoor
end

section
/- The law's own functions: begun. -/
set_option linter.unusedVariables false
set_option linter.unusedSimpArgs false
set_option linter.unnecessarySimpa false
set_option maxRecDepth 100000
namespace Go.Proofs.YtjlpgjfgeikdeaaDoor
open Go.RowKit Go.ChangeShapes Go.WideShapes Go.ChangeAt
open Fr (strOfNats strOfNats_size strOfNats_bytes bytesOf Table restOf wrapS)
def abc : ByteArray := ⟨#[97, 98, 99]⟩
theorem made_used {room : Nat} (h : 17 ≤ room) : (madeM room).used ≤ 17 ∧ (madeM room).room = room := by
  have hc := made_code (room := room) (by omega)
  have hs : (headS 1 noText).size ≤ 17 := by
    have := headRS_size (gen := 1) (by decide) noText
    unfold headS
    rw [wrapS_size]
    have e : noText.size = 0 := rfl
    omega
  have e : madeM room = (syncR (appR (freshM room) ((0 : Nat) : Int) (headS 1 noText)).1 ((0 : Nat) : Int)).1 := by
    unfold madeM laysR at *
    rw [if_pos ⟨by decide, by decide⟩] at hc ⊢
    split
    · rfl
    · rename_i hx; rw [if_neg hx] at hc; exact absurd hc hx
  have ha : (appR (freshM room) ((0 : Nat) : Int) (headS 1 noText)).2 = 0 := by
    unfold laysR at hc
    rw [if_pos ⟨by decide, by decide⟩] at hc
    split at hc
    · assumption
    · exact hc
  refine ⟨?_, by rw [e, sync_room, app_room]; rfl⟩
  rw [app_eq (by decide) ha, sync_eq (by decide)] at e
  rw [e]
  have u1 := used_set (freshM room) 0 ⟨((freshM room).f 0).b ++ headS 1 noText, ((freshM room).f 0).safe⟩ (by decide)
  have z : ((freshM room).f 0).b.size = 0 := rfl
  have uz : (freshM room).used = 0 := rfl
  have u2 := used_set ((freshM room).set 0 ⟨((freshM room).f 0).b ++ headS 1 noText, ((freshM room).f 0).safe⟩) 0 ⟨(((freshM room).set 0 ⟨((freshM room).f 0).b ++ headS 1 noText, ((freshM room).f 0).safe⟩).f 0).b, (((freshM room).set 0 ⟨((freshM room).f 0).b ++ headS 1 noText, ((freshM room).f 0).safe⟩).f 0).b.size⟩ (by decide)
  have zz : (((freshM room).f 0).b ++ headS 1 noText).size = (headS 1 noText).size := by rw [ByteArray.size_append, z]; omega
  simp only at u1 u2 ⊢
  omega
theorem begun_code : (addR (madeM ((100 : Nat) : Int)) ⟨0, 1, 0⟩ abc).2.2 = 0 := by
  obtain ⟨h1, h2⟩ := made_used (room := 100) (by decide)
  have hz : (wrapS abc).size = 11 := by rw [wrapS_size]; rfl
  unfold addR
  rw [if_neg (by decide)]
  have : (appR (madeM ((100 : Nat) : Int)) ((0 : Nat) : Int) (wrapS abc)).2 = 0 := by
    unfold appR
    rw [if_pos (by decide), if_pos (by rw [h2, hz]; omega)]
  rw [if_pos this]
section
variable {w0 w : World} {F : List HP}
set_option maxHeartbeats 1600000 in
theorem begun_any (hS : Sat w0 w F) (hO : Old w0 ∈ F) (hT : Table w0) : Calls Tryd.prog 10 #[] w fun e w' => e = .returned (.bool true) ∧ Sat w0 w' F := by
  have hg0 := good_made (room := 100) (by decide) (by decide)
  have H1 := Lib.hid (made_any 100 (by decide) (by decide) hS hO hT)
  have hc := begun_code
  obtain ⟨hg1, hj, _⟩ := good_add hg0 abc hc
  obtain ⟨hg2, _⟩ := good_sync hg1
  obtain ⟨ht, htF⟩ := good_taken hg2
  have HO0 := Lib.hid hg0.ok
  obtain ⟨M0, hM0⟩ : ∃ x, madeM ((100 : Nat) : Int) = x := ⟨_, rfl⟩
  rw [hM0] at H1 hc hg1 hj hg2 ht htF HO0
  have HA := Lib.hid (fun (w1 : World) (d j : Nat) (v : Nat → Value) (F1 : List HP) (h : Sat w0 w1 (JB j d ⟨0, 1, 0⟩ :: DiskV d v M0 :: F1)) (hO1 : Old w0 ∈ F1) => add_any h HO0.out abc (by decide) (by decide) hO1 hT)
  obtain ⟨⟨M1, J1, c1⟩, h1⟩ : ∃ x, addR M0 ⟨0, 1, 0⟩ abc = x := ⟨_, rfl⟩
  rw [h1] at hc hg1 hj hg2 ht htF HA
  simp only at hc hg1 hj hg2 ht htF
  subst hc hj
  have HO1 := Lib.hid hg1.ok
  obtain ⟨M2, h2⟩ : ∃ x, (jsyncR M1 ⟨0, 1, 1⟩).1 = x := ⟨_, rfl⟩
  have hjs : jsyncR M1 ⟨0, 1, 1⟩ = (M2, ⟨0, 1, 1⟩, 0) := by
    rw [← h2]
    unfold jsyncR
    rw [sync_eq (by decide)]
  rw [h2] at hg2 ht htF
  have HO2 := Lib.hid hg2.ok
  have HJS := Lib.hid hjs
  have HT2 := Lib.hid ht
  have HTF := Lib.hid htF
  unfold POut at HA
  unfold abc at HA
  simp only at HA
  clear hg0 hg1 hg2 hM0 h1 h2 hjs ht htF hS
  go_enter Tryd.func10, Tryd.ntmps10
  go_wp2_with fail
  refine H1.out.mono ?_
  rintro e w1 ⟨d, j, r, y, v, rfl, h1⟩
  have h2 := h1.new #[.pointer (some ⟨d, 0, none⟩), .pointer (some ⟨j, 0, none⟩), .pointer (some ⟨r, 0, none⟩), .pointer (some ⟨y, 0, none⟩)] 56
  unfold Two at h2
  have x1 := h2.blk.cell 1
  have HH := Lib.hid h2.r3.r3
  obtain ⟨p, hp⟩ : ∃ p, w1.heap.size = p := ⟨_, rfl⟩
  rw [hp] at HH x1
  clear h1 h2
  go_wp2_with fail
  refine (HA.out _ d j v _ HH.out (by simp [hO])).mono ?_
  rintro e w2 ⟨rfl, v2, h3⟩
  have x1' : w2.cell? ⟨p, 1, none⟩ = some (.pointer (some ⟨j, 0, none⟩)) := h3.r3.blk.cell 1
  clear HH x1 hp HA H1
  go_wp2_with fail
  refine (jsync_any h3).mono ?_
  unfold POut
  rw [show (⟨0, 1, 0 + 1⟩ : JS) = ⟨0, 1, 1⟩ from rfl, HJS.out]
  rintro e w3 ⟨rfl, v3, h4⟩
  have x0 : w3.cell? ⟨p, 0, none⟩ = some (.pointer (some ⟨d, 0, none⟩)) := h4.r3.blk.cell 0
  simp only at h4
  clear h3 x1'
  go_wp2_with fail
  refine (open_any h4.r2 HO2.out (by simp [hO]) hT).mono ?_
  unfold OpOut
  rw [HTF.out]
  rintro e w4 (⟨hz, _⟩ | ⟨_, j2, A, c, v4, rfl, h5⟩)
  · exact absurd hz (by decide)
  clear h4 x0
  simp only [List.nil_append] at h5
  have h6 := h5.new #[.string abc] 9
  have h7 : Sat w0 _ (Row 9 1 (some ⟨w4.heap.size, 0, none⟩) 1 1 (strs [abc]) :: _) := Sat.rowOf (E := 9) (sz := 1) (n := 1) (c := 1) (xs := strs [abc]) h6 rfl (by omega) (by unfold maxLen; omega) rfl rfl
  have HSM := Lib.hid (same_sat (L := [abc]) (K := [abc]) h7.r2 (by decide) (by decide))
  have hab : noText.toList = [] := by show (⟨#[]⟩ : ByteArray).toList = []; simp
  have habc : abc = ⟨#[97, 98, 99]⟩ := rfl
  clear h5 h6 h7
  go_wp2_with fail
  refine HSM.out.mono ?_
  rintro e w5 ⟨rfl, h8⟩
  go_wp2_with fail
  go_ret
  exact ⟨by simp, h8.tail.tail.tail.tail.tail.tail.tail.tail⟩
end
end Go.Proofs.YtjlpgjfgeikdeaaDoor
end
