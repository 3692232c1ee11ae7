/- The document's registry: what it holds; New; Newest. -/
import Derived.Test.YtpmoanjeoaeabaaDoorRR
set_option linter.unusedVariables false
set_option linter.unusedSimpArgs false
set_option linter.unnecessarySimpa false
set_option maxRecDepth 100000
namespace Go.Proofs.YtpmoanjeoaeabaaDoor
open Go.RowKit Go.ChangeShapes Go.WideShapes Go.ChangeAt
/-- what the document's registry has in memory: its definitions, alike to those of R -/
def DocP (xb : Nat) (R : List Ver) : HP := ex fun x : Option Addr × Nat × List Df => wth (x.2.2.length = R.length ∧ Likes x.2.2 R) (sep [Blk xb 85 [.slice x.1 R.length x.2.1], Row 24 2 x.1 R.length x.2.1 (defsC x.2.2), sep (x.2.2.map OwnP)])
section
variable {w w0 : World} {F : List HP} {xb : Nat} {R : List Ver}
theorem Sat.docOpen (h : Sat w0 w (DocP xb R :: F)) : ∃ (A : Option Addr) (c : Nat) (Ds : List Df), Ds.length = R.length ∧ Likes Ds R ∧ Sat w0 w (Blk xb 85 [.slice A R.length c] :: Row 24 2 A R.length c (defsC Ds) :: sep (Ds.map OwnP) :: F) := by
  obtain ⟨⟨A, c, Ds⟩, h2⟩ := h.open_ex
  obtain ⟨⟨hl, hk⟩, h3⟩ := h2.open_wth
  exact ⟨A, c, Ds, hl, hk, h3.open_⟩
theorem Sat.docClose {A : Option Addr} {c : Nat} {Ds : List Df} (hl : Ds.length = R.length) (hk : Likes Ds R) (h : Sat w0 w (Blk xb 85 [.slice A R.length c] :: Row 24 2 A R.length c (defsC Ds) :: sep (Ds.map OwnP) :: F)) : Sat w0 w (DocP xb R :: F) :=
  Sat.close_ex (α := Option Addr × Nat × List Df) ⟨A, c, Ds⟩ (Sat.close_wth ⟨hl, hk⟩ (Sat.close (M := [_, _, _]) h))
theorem docNew_any (hS : Sat w0 w F) : Calls Tryd.prog 30 #[] w fun e w' => ∃ xb : Nat, e = .returned (.pointer (some ⟨xb, 0, none⟩)) ∧ Sat w0 w' (DocP xb [] :: F) := by
  obtain ⟨b, hb⟩ : ∃ b, w.heap.size = b := ⟨_, rfl⟩
  have h1 := ((Sat.close (M := []) hS).nilRow 24 2).new #[.slice none 0 0] 85
  rw [hb] at h1
  have H1 := Lib.hid h1
  clear h1 hS
  go_enter Tryd.func30, Tryd.ntmps30
  go_wp2_with fail
  try simp only [hb]
  go_ret
  exact ⟨b, rfl, Sat.docClose (A := none) (c := 0) (Ds := []) rfl (likes_nil []) H1.out⟩
end
theorem grown_at {R : List Ver} (h : Grown R) : ∀ (k : Nat) (r : Ver), R[k]? = some r → r.v = (verN (R.take k) r.d.name : Int) + 1 := by
  induction h with
  | nil => intro k r hr; simp at hr
  | @snoc R D hR ih =>
    intro k r hr
    by_cases hk : k < R.length
    · rw [List.getElem?_append_left hk] at hr
      rw [List.take_append_of_le_length (by omega)]
      exact ih k r hr
    · by_cases e : k = R.length
      · subst e
        rw [List.getElem?_append_right (Nat.le_refl _), Nat.sub_self] at hr
        obtain rfl : (⟨D, (verN R D.name : Int) + 1⟩ : Ver) = r := by simpa using hr
        rw [List.take_append_of_le_length (Nat.le_refl _), List.take_length]
      · rw [List.getElem?_eq_none (by simp; omega)] at hr
        cases hr
theorem verN_take {R : List Ver} {k : Nat} {r : Ver} (h : R[k]? = some r) (s : ByteArray) : verN (R.take (k + 1)) s = verN (R.take k) s + if r.d.name = s then 1 else 0 := by
  have e : R.take (k + 1) = R.take k ++ [r] := by
    obtain ⟨hk, rfl⟩ := List.getElem?_eq_some_iff.1 h
    exact List.take_succ_eq_append_getElem hk
  rw [e, verN_snoc]
/-- the newest one of a name, as the document's search goes along -/
def NewAt (Ds : List Df) (R : List Ver) (nm : ByteArray) (k : Nat) (a b : Value) : Prop :=
  (verN (R.take k) nm = 0 ∧ a = .string ⟨#[]⟩ ∧ b = .slice none 0 0) ∨ (∃ (j : Nat) (D : Df) (r : Ver), Ds[j]? = some D ∧ R[j]? = some r ∧ r.d.name = nm ∧ r.v = verN (R.take k) nm ∧ a = .string D.name ∧ b = .slice D.A D.steps.length D.c)
theorem results_tc {fn : Func} {p u : Tmp} {ty : TypeId} (h : fn.results = #[.tmp u, .cell p ty]) (tmps : Array Value) (P : Program) (w : World) :
    (results fn tmps).run P w = ((asAddr (tmps.getD p undef)).run P w).andThen fun a w₁ => ((loadVar ty a).run P w₁).andThen fun x w₂ => .ok (.tuple #[tmps.getD u undef, x]) w₂ := by
  simp only [results, h]
  simp [Sem.run_bind, Result.andThen]
theorem res59 {w0 w : World} {F : List HP} {fn : Func} {g : Nat} {tmps : Array Value} {a b : Value} (hr : fn.results = #[.tmp 4, .cell 5 24]) (h : Sat w0 w (Blk g 24 [a, b] :: F)) (hp : tmps.getD 5 undef = .pointer (some ⟨g, 0, none⟩)) :
    (results fn tmps).run Tryd.prog w = .ok (.tuple #[tmps.getD 4 undef, .agg #[a, b]]) w := by
  rw [results_tc hr, hp]
  simp only [asAddr, Sem.run_pure, Result.andThen_ok]
  rw [run_loadVar_row w g 24 24 #[a, b] (0, 0) _ h.blk u24 d24 i24]
  rfl
def NewRel (w w0 : World) (L : List HP) (Ds : List Df) (R : List Ver) (nm : ByteArray) (db : Nat) (n i : Value) (wr : World) : Prop :=
  ∃ (k : Nat) (a b : Value), k ≤ R.length ∧ i = .int .i64 k ∧ n = .int .i64 (verN (R.take k) nm : Int) ∧ NewAt Ds R nm k a b ∧ Sat w0 wr (Blk db 24 [a, b] :: L)
set_option maxHeartbeats 1600000 in
theorem newest_any {w w0 : World} {F : List HP} {xb c : Nat} {A : Option Addr} {Ds : List Df} {R : List Ver} (nm : ByteArray) (hg : Grown R) (hlen : R.length ≤ 16) (hl : Ds.length = R.length) (hk : Likes Ds R)
    (hS : Sat w0 w (Blk xb 85 [.slice A R.length c] :: Row 24 2 A R.length c (defsC Ds) :: F)) :
    Calls Tryd.prog 59 #[.pointer (some ⟨xb, 0, none⟩), .string nm] w fun e w' => ∃ a b : Value, e = .returned (.tuple #[.int .i64 (verN R nm : Int), .agg #[a, b]]) ∧ NewAt Ds R nm R.length a b ∧ Sat w0 w' (Blk xb 85 [.slice A R.length c] :: Row 24 2 A R.length c (defsC Ds) :: F) := by
  obtain ⟨b, hb⟩ : ∃ b, w.heap.size = b := ⟨_, rfl⟩
  have h1 := hS.new #[.string ⟨#[]⟩, .slice none 0 0] 24
  have s1 : (w.alloc (.cells #[.string ⟨#[]⟩, .slice none 0 0] 24)).heap.size = w.heap.size + 1 := by simp
  have h2 := h1.new #[.string ⟨#[]⟩, .slice none 0 0] 24
  rw [s1, hb] at h2
  have H2 := Lib.hid h2
  obtain ⟨n, hn⟩ : ∃ n, R.length = n := ⟨_, rfl⟩
  have HN := Lib.hid hn
  have HT : Hid (verN (R.take n) nm = verN R nm) := by rw [← hn, List.take_length]; exact rfl
  rw [hn] at H2 hl hlen ⊢
  obtain ⟨LL, hLL⟩ : ∃ x, x = Blk b 24 [.string ⟨#[]⟩, .slice none 0 0] :: Blk xb 85 [.slice A n c] :: Row 24 2 A n c (defsC Ds) :: F := ⟨_, rfl⟩
  rw [← hLL] at H2
  have HLL := Lib.hid hLL
  clear hS h1 h2 s1 hn hLL
  go_enter Tryd.func59, Tryd.ntmps59
  go_wp2_with fail
  try simp only [hb]
  go_loopw [6, 8] (NewRel w w0 LL Ds R nm (b + 1)) (fun _ i _ => n - (intOf i).toNat)
  case atStart => exact ⟨0, _, _, Nat.zero_le _, rfl, rfl, .inl ⟨rfl, rfl, rfl⟩, H2.out⟩
  case round =>
    obtain ⟨k, va, vb, hkn, rfl, rfl, hat, hS⟩ := hrel
    rw [HN.out] at hkn
    have hS5 := hS
    rw [HLL.out] at hS5
    have x0 := hS5.r3.blk.cell 0
    clear H2
    by_cases hlt : k < n
    · obtain ⟨r, hr⟩ : ∃ r, R[k]? = some r := ⟨_, List.getElem?_eq_getElem (by rw [HN.out]; exact hlt)⟩
      obtain ⟨D, hD⟩ : ∃ D, Ds[k]? = some D := ⟨_, List.getElem?_eq_getElem (by omega)⟩
      have hnm := (hk k D r hD hr).name
      have g0 := defsC_get Ds k 0 D hD (by decide)
      have g1 := defsC_get Ds k 1 D hD (by decide)
      rw [Nat.add_zero] at g0
      obtain ⟨g, hA, _, _⟩ := hS5.r4.rowCell (by intro e; rw [e] at g0; simp [defC] at g0)
      subst hA
      have c0 := (hS5.r4.rowAt (j := k * 2) (v := .string D.name) g0).1
      have c1 := (hS5.r4.rowAt (j := k * 2 + 1) (v := .slice D.A D.steps.length D.c) g1).1
      have HVT := Lib.hid (fun s => verN_take hr s)
      have HGA := Lib.hid (grown_at hg k r hr)
      have q0 := hS.blk.cell 0
      have q1 := hS.blk.cell 1
      have qf0 := hS.blk.free 0
      have qf1 := hS.blk.free 1
      have hX := (hS.set 0 (.string D.name)).set 1 (.slice D.A D.steps.length D.c)
      have HX : Hid (Sat w0 _ (Blk (b + 1) 24 [.string D.name, .slice D.A D.steps.length D.c] :: LL)) := hX
      have HS := Lib.hid hS
      have HDk := Lib.hid hD
      have HRk := Lib.hid hr
      have HNMk := Lib.hid hnm
      have HAT := Lib.hid hat
      obtain ⟨nv, hnv⟩ : ∃ v, verN (R.take k) nm = v := ⟨_, rfl⟩
      have hnv16 : nv ≤ k := by rw [← hnv]; exact Nat.le_trans (verN_le _ _) (by simp; omega)
      rw [hnv]
      have HNV := Lib.hid hnv
      clear hS hX hS5 hD hr hnm hat g0 g1 hnv
      by_cases he : D.name = nm
      · have t0 : (D.name.toList == nm.toList) = true := str_yes he
        have HE := Lib.hid he
        clear he HS
        go_wp2_with fail
        have h1 := HVT.out nm
        have h2 := HGA.out
        rw [← HNMk.out, HE.out, HNV.out] at h2
        rw [HNV.out, if_pos (HNMk.out.symm.trans HE.out)] at h1
        refine ⟨⟨k + 1, _, _, by rw [HN.out]; omega, by go_num, by rw [h1]; go_num, .inr ⟨k, D, r, HDk.out, HRk.out, HNMk.out.symm.trans HE.out, by rw [h1, h2]; rfl, rfl, rfl⟩, HX.out⟩, by simp [intOf]; omega⟩
      · have t0 : (D.name.toList == nm.toList) = false := str_no he
        have HE := Lib.hid he
        clear he HX q0 q1 qf0 qf1
        go_wp2_with fail
        have h1 := HVT.out nm
        rw [HNV.out, if_neg (fun e => HE.out (HNMk.out.trans e))] at h1
        simp only [Nat.add_zero] at h1
        refine ⟨⟨k + 1, va, vb, by rw [HN.out]; omega, by go_num, by rw [h1], ?_, HS.out⟩, by simp [intOf]; omega⟩
        have h3 := HAT.out
        unfold NewAt at h3 ⊢
        rw [HNV.out] at h3
        rw [h1]
        exact h3
    · obtain rfl : k = n := by omega
      have q0 := hS5.blk.cell 0
      have q1 := hS5.blk.cell 1
      have z0 := hS5.r2.blk.cell 0
      have z1 := hS5.r2.blk.cell 1
      have zf0 := hS5.r2.blk.free 0
      have zf1 := hS5.r2.blk.free 1
      have HX := Lib.hid ((hS5.r2.set 0 va).set 1 vb)
      have HAT := Lib.hid hat
      have HSZ : Hid (∃ s, va = .string s) := by
        rcases hat with ⟨_, h, _⟩ | ⟨_, _, _, _, _, _, _, h, _⟩ <;> exact ⟨_, h⟩
      have HSB : Hid (∃ A n c, vb = .slice A n c) := by
        rcases hat with ⟨_, _, h⟩ | ⟨_, _, _, _, _, _, _, _, h⟩ <;> exact ⟨_, _, _, h⟩
      obtain ⟨s, rfl⟩ := HSZ.out
      obtain ⟨A2, n2, c2, rfl⟩ := HSB.out
      clear hS hS5 hat HSZ HSB
      go_wp2_with fail
      go_region
      have HX2 := Lib.hid HX.out.drew
      clear HX q0 q1 z0 z1 zf0 zf1
      go_wp2_with fail
      refine bodyPost_ret (res59 (by rfl) HX2.out (by rfl)) rfl ?_
      exact ⟨_, _, by rw [← HT.out]; rfl, HAT.out, HX2.out.tail.tail⟩
end Go.Proofs.YtpmoanjeoaeabaaDoor
