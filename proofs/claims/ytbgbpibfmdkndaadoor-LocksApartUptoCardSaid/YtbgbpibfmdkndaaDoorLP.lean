/- Tables at the start: begun, twin. -/
import Derived.Test.YtbgbpibfmdkndaaDoorLO
set_option linter.unusedVariables false
set_option linter.unusedSimpArgs false
set_option linter.unnecessarySimpa false
set_option maxRecDepth 100000
namespace Go.Proofs.YtbgbpibfmdkndaaDoor
open Go.RowKit Go.ChangeShapes Go.WideShapes Go.ChangeAt
def z1 : ByteArray := ⟨#[122, 122, 45, 49]⟩
def z2 : ByteArray := ⟨#[122, 122, 45, 50]⟩
def z3 : ByteArray := ⟨#[122, 122, 45, 51]⟩
def begA : List Ent := [(z1, 900001), (z2, 900001)]
def begD : List Ent := [(z1, 900001), (z2, 900001), (z3, 900002)]
theorem take_a : takeE [] 900001 [z2, z1] = (⟨#[]⟩, true, begA) := by kernel_rfl
theorem take_b : takeE begA 900002 [z3, z1] = (z1, false, begA) := by kernel_rfl
theorem take_c : takeE begA 900002 [z3] = (⟨#[]⟩, true, begD) := by kernel_rfl
theorem held_a : heldE begD 900001 = [z1, z2] := by kernel_rfl
theorem val_c : valE begD z3 = 900002 := by kernel_rfl
theorem begA_ok : TabOk begA := by
  have h := take_ok (inst := 900001) (keys := [z2, z1]) TabOk.nil
  rw [take_a] at h
  exact h
theorem begD_ok : TabOk begD := by
  have h := take_ok (inst := 900002) (keys := [z3]) begA_ok
  rw [take_c] at h
  exact h
theorem keysOk_small {l : List ByteArray} (h : l.length ≤ 4) (hs : ∀ k ∈ l, k.size = 4) : KeysOk l := ⟨by omega, fun k hk => by rw [hs k hk]; decide⟩
section
variable {w w0 : World} {F : List HP}
theorem take_lit {tb g : Nat} {D D' : List Ent} {inst : Int} {s : ByteArray} {y : Bool} (l : List ByteArray) (hl : l.length ≤ 4) (hs : ∀ k ∈ l, k.size = 4) (hD : TabOk D) (he : takeE D inst l = (s, y, D')) (hS : Sat w0 w (Blk g 9 (strV l) :: TabP tb D :: F)) :
    Calls Tryd.prog 10 #[.pointer (some ⟨tb, 0, none⟩), .int .i64 inst, .slice (some ⟨g, 0, none⟩) l.length l.length] w fun e w' => e = .returned (.tuple #[.string s, .bool y]) ∧ Sat w0 w' (TabP tb D' :: F) := by
  refine (take_any (c := l.length) hD inst (keysOk_small hl hs) (blkKF (F := F) l) hS.r2).mono ?_
  rintro e w' ⟨rfl, h⟩
  rw [he] at h ⊢
  exact ⟨rfl, h.r2.tail⟩
theorem rtake_lit {xb g : Nat} {D D' : List Ent} {inst : Int} {s : ByteArray} {y : Bool} (l : List ByteArray) (hl : l.length ≤ 4) (hs : ∀ k ∈ l, k.size = 4) (hD : TabOk D) (hlen : D.length ≤ 4) (he : takeE D inst l = (s, y, D')) (hS : Sat w0 w (Blk g 9 (strV l) :: DocT xb D :: F)) :
    Calls Tryd.prog 11 #[.pointer (some ⟨xb, 0, none⟩), .int .i64 inst, .slice (some ⟨g, 0, none⟩) l.length l.length] w fun e w' => e = .returned (.tuple #[.string s, .bool y]) ∧ Sat w0 w' (DocT xb D' :: F) := by
  refine (rtake_any (c := l.length) hD (by omega) inst (keysOk_small hl hs) (blkKF (F := F) l) hS.r2).mono ?_
  rintro e w' ⟨rfl, h⟩
  rw [he] at h ⊢
  exact ⟨rfl, h.r2.tail⟩
theorem four {l : List ByteArray} (h : l = [z1] ∨ l = [z3] ∨ l = [z2, z1] ∨ l = [z3, z1]) : ∀ k ∈ l, k.size = 4 := by
  rcases h with rfl | rfl | rfl | rfl <;> (intro k hk; simp at hk) <;> (first | (subst hk; rfl) | (rcases hk with rfl | rfl <;> rfl))
set_option maxHeartbeats 3200000 in
theorem begun_any (hT0 : Lib.Utf8Tabs 0 1 w0) (hO : Old w0 ∈ F) (hS : Sat w0 w F) :
    Calls Tryd.prog 7 #[] w fun e w' => ∃ tb : Nat, e = .returned (.pointer (some ⟨tb, 0, none⟩)) ∧ Sat w0 w' (TabP tb begD :: F) := by
  have HN := Lib.hid (tabNew_any hS)
  have H1 : Hid (∀ tb g W, Sat w0 W (Blk g 9 [.string ⟨#[122, 122, 45, 50]⟩, .string ⟨#[122, 122, 45, 49]⟩] :: TabP tb [] :: F) → Calls Tryd.prog 10 #[.pointer (some ⟨tb, 0, none⟩), .int .i64 900001, .slice (some ⟨g, 0, none⟩) 2 2] W fun e w' => e = .returned (.tuple #[.string ⟨#[]⟩, .bool true]) ∧ Sat w0 w' (TabP tb begA :: F)) :=
    fun tb g W h => take_lit [z2, z1] (by decide) (four (by simp)) TabOk.nil take_a h
  have H2 : Hid (∀ tb g W, Sat w0 W (Blk g 9 [.string ⟨#[122, 122, 45, 51]⟩, .string ⟨#[122, 122, 45, 49]⟩] :: TabP tb begA :: F) → Calls Tryd.prog 10 #[.pointer (some ⟨tb, 0, none⟩), .int .i64 900002, .slice (some ⟨g, 0, none⟩) 2 2] W fun e w' => e = .returned (.tuple #[.string ⟨#[122, 122, 45, 49]⟩, .bool false]) ∧ Sat w0 w' (TabP tb begA :: F)) :=
    fun tb g W h => take_lit [z3, z1] (by decide) (four (by simp)) begA_ok take_b h
  have H3 : Hid (∀ tb g W, Sat w0 W (Blk g 9 [.string ⟨#[122, 122, 45, 51]⟩] :: TabP tb begA :: F) → Calls Tryd.prog 10 #[.pointer (some ⟨tb, 0, none⟩), .int .i64 900002, .slice (some ⟨g, 0, none⟩) 1 1] W fun e w' => e = .returned (.tuple #[.string ⟨#[]⟩, .bool true]) ∧ Sat w0 w' (TabP tb begD :: F)) :=
    fun tb g W h => take_lit [z3] (by decide) (four (by simp)) begA_ok take_c h
  have H4 : Hid (∀ tb W, Sat w0 W (TabP tb begD :: F) → Calls Tryd.prog 18 #[.pointer (some ⟨tb, 0, none⟩), .int .i64 900001] W fun e w' => ∃ (A2 : Option Addr) (c2 : Nat), e = .returned (.slice A2 2 c2) ∧ Sat w0 w' (Row 9 1 A2 2 c2 (strV [z1, z2]) :: TabP tb begD :: F)) := fun tb W h => by
    have h2 := held_any begD_ok (by decide) 900001 hO hT0 h
    rw [held_a] at h2
    exact h2
  have H5 : Hid (∀ tb A2 c2 g W, Sat w0 W (Blk g 9 [.string ⟨#[122, 122, 45, 49]⟩, .string ⟨#[122, 122, 45, 50]⟩] :: Row 9 1 A2 2 c2 (strV [z1, z2]) :: TabP tb begD :: F) → Calls Tryd.prog 12 #[.slice A2 2 c2, .slice (some ⟨g, 0, none⟩) 2 2] W fun e w' => e = .returned (.bool true) ∧ Sat w0 w' (TabP tb begD :: F)) := fun tb A2 c2 g W h => by
    refine (same_sat (L := [z1, z2]) (M := [z1, z2]) (c := c2) (e := 2) h h.r2.rowKs ((blkKF [z1, z2]).ks (L := []) h) (by decide) (by decide)).mono ?_
    rintro e w' ⟨rfl, h2⟩
    exact ⟨by rw [decide_eq_true rfl], h2.tail.tail⟩
  have H6 : Hid (∀ tb W, Sat w0 W (TabP tb begD :: F) → Calls Tryd.prog 16 #[.pointer (some ⟨tb, 0, none⟩), .string ⟨#[122, 122, 45, 51]⟩] W fun e w' => e = .returned (.int .i64 900002) ∧ w' = W) := fun tb W h => by
    have h2 := holder_any begD_ok z3 h
    rw [val_c] at h2
    exact h2
  clear hS
  go_enter Tryd.func7, Tryd.ntmps7
  go_wp2_with fail
  refine HN.out.mono ?_
  rintro e w1 ⟨tb, rfl, h1⟩
  have h1b := Lib.hid (h1.new #[.string ⟨#[122, 122, 45, 50]⟩, .string ⟨#[122, 122, 45, 49]⟩] 9)
  clear h1 HN
  go_wp2_with fail
  refine (H1.out _ _ _ h1b.out).mono ?_
  rintro e w2 ⟨rfl, h2⟩
  have h2b := Lib.hid (h2.new #[.string ⟨#[122, 122, 45, 51]⟩, .string ⟨#[122, 122, 45, 49]⟩] 9)
  clear h2 h1b H1
  go_wp2_with fail
  refine (H2.out _ _ _ h2b.out).mono ?_
  rintro e w3 ⟨rfl, h3⟩
  have h3b := Lib.hid (h3.new #[.string ⟨#[122, 122, 45, 51]⟩] 9)
  clear h3 h2b H2
  go_wp2_with fail
  refine (H3.out _ _ _ h3b.out).mono ?_
  rintro e w4 ⟨rfl, h4⟩
  have h4b := Lib.hid h4
  clear h4 h3b H3
  go_wp2_with fail
  refine (H4.out _ _ h4b.out).mono ?_
  rintro e w5 ⟨A2, c2, rfl, h5⟩
  have h5b := Lib.hid (h5.new #[.string ⟨#[122, 122, 45, 49]⟩, .string ⟨#[122, 122, 45, 50]⟩] 9)
  clear h5 h4b H4
  go_wp2_with fail
  refine (H5.out _ _ _ _ _ h5b.out).mono ?_
  rintro e w6 ⟨rfl, h6⟩
  have h6b := Lib.hid h6
  clear h6 h5b H5
  go_wp2_with fail
  refine (H6.out _ _ h6b.out).mono ?_
  rintro e w7 ⟨rfl, rfl⟩
  go_wp2_with fail
  go_ret
  exact ⟨tb, rfl, h6b.out⟩
set_option maxHeartbeats 3200000 in
theorem twin_any (hS : Sat w0 w F) : Calls Tryd.prog 8 #[] w fun e w' => ∃ xb : Nat, e = .returned (.pointer (some ⟨xb, 0, none⟩)) ∧ Sat w0 w' (DocT xb begD :: F) := by
  have HN := Lib.hid (rnew_any hS)
  have H1 : Hid (∀ xb g W, Sat w0 W (Blk g 9 [.string ⟨#[122, 122, 45, 50]⟩, .string ⟨#[122, 122, 45, 49]⟩] :: DocT xb [] :: F) → Calls Tryd.prog 11 #[.pointer (some ⟨xb, 0, none⟩), .int .i64 900001, .slice (some ⟨g, 0, none⟩) 2 2] W fun e w' => e = .returned (.tuple #[.string ⟨#[]⟩, .bool true]) ∧ Sat w0 w' (DocT xb begA :: F)) :=
    fun xb g W h => rtake_lit [z2, z1] (by decide) (four (by simp)) TabOk.nil (by decide) take_a h
  have H3 : Hid (∀ xb g W, Sat w0 W (Blk g 9 [.string ⟨#[122, 122, 45, 51]⟩] :: DocT xb begA :: F) → Calls Tryd.prog 11 #[.pointer (some ⟨xb, 0, none⟩), .int .i64 900002, .slice (some ⟨g, 0, none⟩) 1 1] W fun e w' => e = .returned (.tuple #[.string ⟨#[]⟩, .bool true]) ∧ Sat w0 w' (DocT xb begD :: F)) :=
    fun xb g W h => rtake_lit [z3] (by decide) (four (by simp)) begA_ok (by decide) take_c h
  clear hS
  go_enter Tryd.func8, Tryd.ntmps8
  go_wp2_with fail
  refine HN.out.mono ?_
  rintro e w1 ⟨xb, rfl, h1⟩
  have h1b := Lib.hid (h1.new #[.string ⟨#[122, 122, 45, 50]⟩, .string ⟨#[122, 122, 45, 49]⟩] 9)
  clear h1 HN
  go_wp2_with fail
  refine (H1.out _ _ _ h1b.out).mono ?_
  rintro e w2 ⟨rfl, h2⟩
  have h2b := Lib.hid (h2.new #[.string ⟨#[122, 122, 45, 51]⟩] 9)
  clear h2 h1b H1
  go_wp2_with fail
  refine (H3.out _ _ _ h2b.out).mono ?_
  rintro e w3 ⟨rfl, h3⟩
  have h3b := Lib.hid h3
  clear h3 h2b H3
  go_wp2_with fail
  go_ret
  exact ⟨xb, rfl, h3b.out⟩
end
end Go.Proofs.YtbgbpibfmdkndaaDoor
