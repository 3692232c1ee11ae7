/- Fold: the document's. -/
import Derived.Test.YtipbjcchhgbabaaDoorOC
set_option linter.unusedVariables false
set_option linter.unusedSimpArgs false
namespace Go.Proofs.YtipbjcchhgbabaaDoor
open Go.RowKit Go.ChangeShapes Go.WideShapes Go.ChangeAt
section
variable {P : Program} {wr : World}
/-- a text made of a new row's bytes -/
theorem wpList_text1 {ops : Array Oper} {rest : List Oper} {o : Oper} {a : Act} {Q : Exit → Act → World → Prop} (hgd : o.guard = none) (x : Operand) (t u e : TypeId) (ho : o.op = .convert t u x) {C : Array Value} {et n c : Nat}
    (hx : a.eval x = .slice (some ⟨wr.heap.size, 0, none⟩) n c) (l : List Nat) (hn : n = l.length) (hC : C.toList = l.map fun x => Value.int .u8 (x : Nat)) (hl : ∀ x ∈ l, x < 256)
    (hs : P.underlying t = some (.slice e)) (he : P.underlying e = some (.int .u8)) (hd : P.underlying u = some .string) (h : wpList P ops Q rest (a.put o.dst (.string (strOf l))) (wr.alloc (.cells C et))) : wpList P ops Q (o :: rest) a (wr.alloc (.cells C et)) := by
  refine wpList_plain hgd fun K hK => ?_
  have hlen : (l.map UInt8.ofNat).length = n := by rw [List.length_map, hn]
  have hc : ∀ j (hj : j < (l.map UInt8.ofNat).length), (wr.alloc (.cells C et)).cell? ((⟨wr.heap.size, 0, none⟩ : Addr).add j) = some (.int .u8 ((l.map UInt8.ofNat)[j].toNat : Int)) := by
    intro j hj
    have hj' : j < l.length := by simpa using hj
    rw [show (⟨wr.heap.size, 0, none⟩ : Addr).add j = ⟨wr.heap.size, j, none⟩ by unfold Addr.add; split <;> simp_all, cell_of_row _ _ j C et (0, 0) (heap_alloc_new wr _), ← Array.getElem?_toList, hC, List.getElem?_map, List.getElem?_eq_getElem hj', Option.map_some, List.getElem_map]
    have := hl _ (List.getElem_mem hj')
    congr 2
    rw [UInt8.toNat_ofNat', Nat.mod_eq_of_lt this]
  have hr := run_convert_bytes_back (P := P) (wr.alloc (.cells C et)) t u e ⟨wr.heap.size, 0, none⟩ c (l.map UInt8.ofNat) hs he hd hc
  rw [hlen] at hr
  unfold Oper.wp execOp
  simp only [ho, hx, Sem.run_bind, hr, Result.andThen, Sem.run_pure, Oper.upon]
  exact hK _ _ h
end
def RFRel (w : World) (s : ByteArray) (out at_ : Value) (wr : World) : Prop := ∃ (p : Nat) (d : ByteArray), p ≤ s.size ∧ FAt s d p ∧ out = .string d ∧ at_ = .int .i64 p ∧ Below w.heap.size w wr
theorem enc1 {r : Nat} (h : r < 128) : NM.enc r = [r] := by unfold NM.enc; rw [if_pos h]
theorem enc2 {r : Nat} (h : ¬ r < 128) (h2 : r < 2048) : NM.enc r = [192 + r / 64, 128 + r % 64] := by unfold NM.enc; rw [if_neg h, if_pos h2]
set_option maxRecDepth 100000 in
set_option maxHeartbeats 3200000 in
theorem rfold_any (s : ByteArray) (w : World) (hs : s.size ≤ 140737488351232) :
    Calls Tryd.prog 17 #[.string s] w fun e w' => e = .returned (.string (foldS s)) ∧ Below w.heap.size w w' := by
  go_enter Tryd.func17, Tryd.ntmps17
  go_wp2_with fail
  go_loopw [3, 4] (RFRel w s) (fun _ a _ => s.size - (intOf a).toNat)
  case atStart => exact ⟨0, ⟨#[]⟩, Nat.zero_le _, FAt.start s, rfl, rfl, Below.refl _ _⟩
  case round =>
    obtain ⟨p, d, hp, hA, rfl, rfl, hB⟩ := hrel
    have hdp : d.size = p := hA.1
    by_cases hlt : p < s.size
    · have hst := tk_next s p hlt
      obtain ⟨hn1, hn2⟩ := next_n s p hlt
      have hr := next_lt s p hlt
      obtain ⟨⟨r, n, ok⟩, hX⟩ : ∃ X, NM.next s p = X := ⟨_, rfl⟩
      rw [hX] at hst hn1 hn2 hr
      simp only at hst hn1 hn2 hr
      have HX := Lib.hid hX
      have HST := Lib.hid hst
      have HA := Lib.hid hA
      clear hst hX hA
      have swn : IntKind.i64.wrap ((p : Int) + (n : Int)) = ((p + n : Nat) : Int) := by rw [IntWalk.i64_in _ (by omega)]; omega
      have kn : s.size - (p + n) < s.size - p := by omega
      have hpn : p ≤ p + n := by omega
      have hps : p ≤ s.size := hp
      have hsm : ∀ q, smallN q = NM.smallP q := fun _ => rfl
      by_cases hk : NM.smallP r = r
      · have HC := Lib.hid (HA.out.keep hn2 HST.out hk)
        have hs2 : smallN r = r := hk
        have t1 : ((r : Int) == (r : Int)) = true := by simp
        have hcc : ¬ (d.size + (s.extract p (p + n)).size > 9223372036854775807) := by rw [ByteArray.size_extract]; omega
        clear hk hsm
        go_wp2_with (first
          | (go_at_call 26; refine (next_at s p r n _ _ hlt hs HX.out).mono ?_; rintro e w1 ⟨rfl, rfl⟩)
          | (go_at_call 30; refine (small_any r _ hr).mono ?_; rintro e w3 ⟨rfl, rfl⟩; rw [hs2]))
        go_roundw
        case rel => exact ⟨p + n, _, hn2, HC.out, by first | rfl | go_num, by first | rfl | go_num, hB⟩
        case measure => simp [intOf]; omega
      · have HC := Lib.hid (HA.out.turn hn2 hn1 HST.out hk)
        have hlt2 := NM.small_lt r hk
        obtain ⟨m, hm⟩ : ∃ m, NM.smallP r = m := ⟨_, rfl⟩
        rw [hm] at HC hk hlt2
        have hs2 : smallN r = m := hm
        have t1 : ((m : Int) == (r : Int)) = false := by rw [beq_eq_false_iff_ne]; omega
        clear hm hk hsm
        by_cases h8 : m < 128
        · rw [enc1 h8] at HC
          have t2 : decide ((m : Int) < 128) = true := decide_eq_true (by omega)
          have swb : IntKind.u8.wrap (m : Int) = (m : Int) := IntWalk.u8_in _ (by omega)
          have hcc : ¬ (d.size + (strOf [m]).size > 9223372036854775807) := by rw [strOf_size]; simp; omega
          go_wp2_with (first
            | (go_at_call 26; refine (next_at s p r n _ _ hlt hs HX.out).mono ?_; rintro e w1 ⟨rfl, rfl⟩)
            | (go_at_call 30; refine (small_any r _ hr).mono ?_; rintro e w3 ⟨rfl, rfl⟩; rw [hs2])
            | (refine wpList_text1 rfl (.tmp 52) 36 9 5 rfl (by rfl) [m] rfl (by simp [swb]) (by simp; omega) Tryd.underlying36 Tryd.underlying5 Tryd.underlying9 ?_))
          go_roundw
          case rel => exact ⟨p + n, _, hn2, HC.out, by first | rfl | go_num, by first | rfl | go_num, hB.alloc (by have := hB.size; omega) _⟩
          case measure => simp [intOf]; omega
        · rw [enc2 h8 hlt2] at HC
          have t2 : decide ((m : Int) < 128) = false := decide_eq_false (by omega)
          have sw1 : IntKind.i64.wrap (192 + (m : Int) / 64) = ((192 + m / 64 : Nat) : Int) := by rw [IntWalk.i64_in _ (by omega)]; omega
          have sw2 : IntKind.i64.wrap (128 + (m : Int) % 64) = ((128 + m % 64 : Nat) : Int) := by rw [IntWalk.i64_in _ (by omega)]; omega
          have swb : IntKind.u8.wrap ((192 + m / 64 : Nat) : Int) = ((192 + m / 64 : Nat) : Int) := IntWalk.u8_in _ (by omega)
          have swc : IntKind.u8.wrap ((128 + m % 64 : Nat) : Int) = ((128 + m % 64 : Nat) : Int) := IntWalk.u8_in _ (by omega)
          have hcc : ¬ (d.size + (strOf [192 + m / 64, 128 + m % 64]).size > 9223372036854775807) := by rw [strOf_size]; simp; omega
          go_wp2_with (first
            | (go_at_call 26; refine (next_at s p r n _ _ hlt hs HX.out).mono ?_; rintro e w1 ⟨rfl, rfl⟩)
            | (go_at_call 30; refine (small_any r _ hr).mono ?_; rintro e w3 ⟨rfl, rfl⟩; rw [hs2])
            | (refine wpList_text1 rfl (.tmp 31) 36 9 5 rfl (by rfl) [192 + m / 64, 128 + m % 64] rfl (by first | rfl | (simp [sw1, sw2, swb, swc])) (by simp; omega) Tryd.underlying36 Tryd.underlying5 Tryd.underlying9 ?_))
          go_roundw
          case rel => exact ⟨p + n, _, hn2, HC.out, by first | rfl | go_num, by first | rfl | go_num, hB.alloc (by have := hB.size; omega) _⟩
          case measure => simp [intOf]; omega
    · have HE := Lib.hid (hA.done (by omega))
      clear hA
      go_wp2_with fail
      go_ret
      exact ⟨by rw [HE.out]; rfl, hB⟩
end Go.Proofs.YtipbjcchhgbabaaDoor
