/- The pool's calls, each in one word; live and does of the laws of package pool. -/
import Derived.Test.YtmkbehdfchjeoaaPD
namespace Go.Proofs.Ytmkbehdfchjeoaa
open Go.RowKit Go.ChangeShapes Go.WideShapes Go.ChangeAt
def sendC (room : Int) (L : List ByteArray) (s : ByteArray) : Int := if 2000 < s.size then 2 else if room ≤ L.length then 90 else 0
def sendL (room : Int) (L : List ByteArray) (s : ByteArray) : List ByteArray := if 2000 < s.size then L else if room ≤ L.length then L else L ++ [s]
def takeC (L : List ByteArray) (k : Int) : Int := if 0 ≤ k ∧ k < L.length then 0 else 91
def takeS (L : List ByteArray) (k : Int) : ByteArray := if 0 ≤ k ∧ k < L.length then L.getD k.toNat ⟨#[]⟩ else ⟨#[]⟩
def takeL (L : List ByteArray) (k : Int) : List ByteArray := if 0 ≤ k ∧ k < L.length then L.eraseIdx k.toNat else L
def dblC (room : Int) (L : List ByteArray) (k : Int) : Int := if 0 ≤ k ∧ k < L.length then (if room ≤ L.length then 90 else 0) else 91
def dblL (room : Int) (L : List ByteArray) (k : Int) : List ByteArray := if 0 ≤ k ∧ k < L.length then (if room ≤ L.length then L else L ++ [L.getD k.toNat ⟨#[]⟩]) else L
section
variable (g : Nat) (room : Int) (L : List ByteArray) (w0 w : World) (F : List HP)
theorem send_any (s : ByteArray) (hS : Sat w0 w (PoolC g 70 room L :: F)) (h3 : room ≤ 200) :
    Calls Try.prog 13 #[.pointer (some ⟨g, 0, none⟩), .string s] w fun e w' => e = .returned (.int .i64 (sendC room L s)) ∧ Sat w0 w' (PoolC g 70 room (sendL room L s) :: F) := by
  unfold sendC sendL
  by_cases h : 2000 < s.size
  · rw [if_pos h, if_pos h]
    refine (send_long g s w h).mono ?_
    rintro e w' ⟨rfl, rfl⟩
    exact ⟨rfl, hS⟩
  · rw [if_neg h, if_neg h]
    by_cases h2 : room ≤ L.length
    · rw [if_pos h2, if_pos h2]
      refine (send_full g room L s w0 w F hS h h2).mono ?_
      rintro e w' ⟨rfl, m, rfl⟩
      exact ⟨rfl, hS.drewN m⟩
    · rw [if_neg h2, if_neg h2]
      exact send_ok g room L s w0 w F hS h (by omega) h3
theorem qsend_any (s : ByteArray) (hS : Sat w0 w (PoolC g 87 room L :: F)) (h3 : room ≤ 200) :
    Calls Try.prog 44 #[.pointer (some ⟨g, 0, none⟩), .string s] w fun e w' => e = .returned (.int .i64 (sendC room L s)) ∧ Sat w0 w' (PoolC g 87 room (sendL room L s) :: F) := by
  unfold sendC sendL
  by_cases h : 2000 < s.size
  · rw [if_pos h, if_pos h]
    refine (qsend_long g s w h).mono ?_
    rintro e w' ⟨rfl, rfl⟩
    exact ⟨rfl, hS⟩
  · rw [if_neg h, if_neg h]
    by_cases h2 : room ≤ L.length
    · rw [if_pos h2, if_pos h2]
      refine (qsend_full g room L s w0 w F hS h h2).mono ?_
      rintro e w' ⟨rfl, m, rfl⟩
      exact ⟨rfl, hS.drewN m⟩
    · rw [if_neg h2, if_neg h2]
      exact qsend_ok g room L s w0 w F hS h (by omega) h3
theorem take_any' (k : Int) (hS : Sat w0 w (PoolC g 70 room L :: F)) (hm : L.length ≤ 200) :
    Calls Try.prog 14 #[.pointer (some ⟨g, 0, none⟩), .int .i64 k] w fun e w' => e = .returned (.tuple #[.string (takeS L k), .int .i64 (takeC L k)]) ∧ Sat w0 w' (PoolC g 70 room (takeL L k) :: F) := by
  unfold takeC takeS takeL
  by_cases h : 0 ≤ k ∧ k < L.length
  · rw [if_pos h, if_pos h, if_pos h]
    obtain ⟨n, rfl⟩ := Int.eq_ofNat_of_zero_le h.1
    have hn : n < L.length := by omega
    rw [Int.toNat_natCast, ← List.getElem_eq_getD (h := hn)]
    exact take_ok g room L n w0 w F hS hn hm
  · rw [if_neg h, if_neg h, if_neg h]
    refine (take_none g room L k w0 w F hS h).mono ?_
    rintro e w' ⟨rfl, rfl⟩
    exact ⟨rfl, hS⟩
theorem qtake_any (k : Int) (hS : Sat w0 w (PoolC g 87 room L :: F)) (hm : L.length ≤ 200) :
    Calls Try.prog 45 #[.pointer (some ⟨g, 0, none⟩), .int .i64 k] w fun e w' => e = .returned (.tuple #[.string (takeS L k), .int .i64 (takeC L k)]) ∧ Sat w0 w' (PoolC g 87 room (takeL L k) :: F) := by
  unfold takeC takeS takeL
  by_cases h : 0 ≤ k ∧ k < L.length
  · rw [if_pos h, if_pos h, if_pos h]
    obtain ⟨n, rfl⟩ := Int.eq_ofNat_of_zero_le h.1
    have hn : n < L.length := by omega
    rw [Int.toNat_natCast, ← List.getElem_eq_getD (h := hn)]
    exact qtake_ok g room L n w0 w F hS hn hm
  · rw [if_neg h, if_neg h, if_neg h]
    refine (qtake_none g room L k w0 w F hS h).mono ?_
    rintro e w' ⟨rfl, rfl⟩
    exact ⟨rfl, hS⟩
theorem double_any (k : Int) (hS : Sat w0 w (PoolC g 70 room L :: F)) (hm : L.length ≤ room) (h3 : room ≤ 200) :
    Calls Try.prog 31 #[.pointer (some ⟨g, 0, none⟩), .int .i64 k] w fun e w' => e = .returned (.int .i64 (dblC room L k)) ∧ Sat w0 w' (PoolC g 70 room (dblL room L k) :: F) := by
  unfold dblC dblL
  by_cases h : 0 ≤ k ∧ k < L.length
  · rw [if_pos h, if_pos h]
    obtain ⟨n, rfl⟩ := Int.eq_ofNat_of_zero_le h.1
    have hn : n < L.length := by omega
    rw [Int.toNat_natCast, ← List.getElem_eq_getD (h := hn)]
    by_cases h2 : room ≤ L.length
    · rw [if_pos h2, if_pos h2]
      refine (double_full g room L n w0 w F hS hn (by omega) h2).mono ?_
      rintro e w' ⟨rfl, m, rfl⟩
      exact ⟨rfl, hS.drewN m⟩
    · rw [if_neg h2, if_neg h2]
      exact double_ok g room L n w0 w F hS hn (by omega) h3
  · rw [if_neg h, if_neg h]
    refine (double_none g room L k w0 w F hS h).mono ?_
    rintro e w' ⟨rfl, rfl⟩
    exact ⟨rfl, hS⟩
theorem qdouble_any (k : Int) (hS : Sat w0 w (PoolC g 87 room L :: F)) (hm : L.length ≤ room) (h3 : room ≤ 200) :
    Calls Try.prog 46 #[.pointer (some ⟨g, 0, none⟩), .int .i64 k] w fun e w' => e = .returned (.int .i64 (dblC room L k)) ∧ Sat w0 w' (PoolC g 87 room (dblL room L k) :: F) := by
  unfold dblC dblL
  by_cases h : 0 ≤ k ∧ k < L.length
  · rw [if_pos h, if_pos h]
    obtain ⟨n, rfl⟩ := Int.eq_ofNat_of_zero_le h.1
    have hn : n < L.length := by omega
    rw [Int.toNat_natCast, ← List.getElem_eq_getD (h := hn)]
    by_cases h2 : room ≤ L.length
    · rw [if_pos h2, if_pos h2]
      refine (qdouble_full g room L n w0 w F hS hn (by omega) h2).mono ?_
      rintro e w' ⟨rfl, m, rfl⟩
      exact ⟨rfl, hS.drewN m⟩
    · rw [if_neg h2, if_neg h2]
      exact qdouble_ok g room L n w0 w F hS hn (by omega) h3
  · rw [if_neg h, if_neg h]
    refine (qdouble_none g room L k w0 w F hS h).mono ?_
    rintro e w' ⟨rfl, rfl⟩
    exact ⟨rfl, hS⟩
end
set_option maxRecDepth 100000 in
theorem plive_any (w : World) : Calls Try.prog 12 #[] w fun e w' => e = .returned (.bool true) ∧ Below w.heap.size w w' := by
  have hS := Sat.start w
  go_enter Try.func12, Try.ntmps12
  go_wp2_with fail
  refine (pnew_ok 1 w _ _ hS (by decide) (by decide)).mono ?_
  rintro e w1 ⟨rfl, hS1⟩
  go_wp2_with fail
  refine (send_ok w.heap.size 1 [] ⟨#[97]⟩ w _ _ hS1 (by decide) (by decide) (by decide)).mono ?_
  rintro e w2 ⟨rfl, hS2⟩
  go_wp2_with fail
  refine (send_full w.heap.size 1 [⟨#[97]⟩] ⟨#[98]⟩ w _ _ hS2 (by decide) (by decide)).mono ?_
  rintro e w3 ⟨rfl, m, rfl⟩
  go_wp2_with fail
  refine (plen_any w.heap.size 1 [⟨#[97]⟩] w _ _ (hS2.drewN m)).mono ?_
  rintro e w4 ⟨rfl, rfl⟩
  go_wp2_with fail
  refine (take_ok w.heap.size 1 [⟨#[97]⟩] 0 w _ _ (hS2.drewN m) (by decide) (by decide)).mono ?_
  rintro e w5 ⟨rfl, hS3⟩
  go_wp2_with fail
  refine (plen_any w.heap.size 1 [] w _ _ hS3).mono ?_
  rintro e w6 ⟨rfl, rfl⟩
  go_wp2
  go_ret
  exact ⟨rfl, hS3.old (by simp)⟩
end Go.Proofs.Ytmkbehdfchjeoaa
