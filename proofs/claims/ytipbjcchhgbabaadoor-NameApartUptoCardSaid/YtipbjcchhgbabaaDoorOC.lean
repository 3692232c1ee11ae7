/- Fold: the program's. -/
import Derived.Test.YtipbjcchhgbabaaDoorOB
set_option linter.unusedVariables false
set_option linter.unusedSimpArgs false
namespace Go.Proofs.YtipbjcchhgbabaaDoor
open Go.RowKit Go.ChangeShapes Go.WideShapes Go.ChangeAt
open Go.Lib (OwnBuf strCells runeCells)
theorem info5 : (Tryd.prog.info? 5).map (fun i => (i.zero, i.size, i.bytes)) = some (some (.int .u8 0), 1, 1) := by kernel_rfl
section
variable {w wr : World} {s d e : ByteArray} {p : Nat} {b : Value}
theorem addRune (h : FBuf w s d p b wr) (r : Nat) (hr : r < 2147483648) (hx : runeCells (r : Int) = strCells e) (hlen : d.size + 4 ≤ 140737488355328) :
    Calls Tryd.prog 28 #[b, .int .i32 r] wr fun en w' => ∃ b', en = .returned b' ∧ FBuf w s (d ++ e) p b' w' := by
  refine (Tryd.utf8_AppendRune_row (w.heap.size + 1) b d.size (strCells d) r (by omega) (by omega) wr h.1 hlen h.2.2).mono ?_
  rintro en w' ⟨b', rfl, ho, hg⟩
  exact ⟨b', rfl, h.grown (m := (runeCells (r : Int)).length) (by rw [hx, Lib.strCells_length]) hx ho hg⟩
theorem wpList_addText {ops : Array Oper} {rest : List Oper} {o : Oper} {a : Act} {Q : Exit → Act → World → Prop} (hgd : o.guard = none) (sl x : Operand)
    (ho : o.op = .call { callee := .builtin .append, args := #[sl, x], argTypes := #[36, 9] }) (hs : a.eval sl = b) (hx : a.eval x = .string e) (h : FBuf w s d p b wr) (hlen : d.size + e.size ≤ 140737488355328)
    (k : ∀ b' w', FBuf w s (d ++ e) p b' w' → wpList Tryd.prog ops Q rest (a.put o.dst b') w') : wpList Tryd.prog ops Q (o :: rest) a wr := by
  obtain ⟨i, hi, hz, hsz, hby⟩ := info_parts info5
  refine Lib.wpList_append_text hgd sl x 36 9 ho (w.heap.size + 1) 5 i Tryd.underlying36 Tryd.underlying9 hi hz hsz hby b d.size (strCells d) hs _ h e hx hlen ?_
  intro b' w' hb'
  refine k b' w' ?_
  unfold FBuf
  rw [ByteArray.size_append, strCells_append]
  exact hb'
end
theorem decodeGo_at (s : ByteArray) (p : Nat) (h : p < s.size) : Lib.decodeGo (s.extract p s.size) = Utf8.decode s p := by
  have hc : (s.extract p s.size).size ≠ 0 := by rw [ByteArray.size_extract]; omega
  unfold Lib.decodeGo
  rw [if_neg hc, decode_bs _ 0 (by omega), decode_bs s p h, bs_extract, List.drop_zero, List.take_of_length_le (by rw [List.length_drop, bs_len]; omega)]
def FoldRel (w : World) (s : ByteArray) (b : Value) (wr : World) : Prop := ∃ (p : Nat) (d : ByteArray), p ≤ s.size ∧ FAt s d p ∧ FBuf w s d p b wr
theorem fold_cases (r : Nat) : (65 ≤ r ∧ r ≤ 90) ∨ r = 196 ∨ r = 214 ∨ r = 220 ∨ (913 ≤ r ∧ r ≤ 937 ∧ r ≠ 930) ∨ r = 65533 ∨ r < 65 ∨ (90 < r ∧ r < 913 ∧ r ≠ 196 ∧ r ≠ 214 ∧ r ≠ 220) ∨ r = 930 ∨ (937 < r ∧ r ≠ 65533) := by omega
set_option maxRecDepth 100000 in
set_option maxHeartbeats 6400000 in
theorem fold_any (s : ByteArray) (w : World) (hT : Lib.Utf8Tabs 0 1 w) (hs : s.size ≤ 140737488351232) :
    Calls Tryd.prog 16 #[.string s] w fun e w' => e = .returned (.string (foldS s)) ∧ Below w.heap.size w w' := by
  have hS := FBuf.start w s
  have HT := Lib.hid hT
  clear hT
  go_enter Tryd.func16, Tryd.ntmps16
  go_wp2_with fail
  go_loopw [3] (FoldRel w s) (fun _ wr => s.size - iterPos wr w.heap.size)
  case atStart => exact ⟨0, ⟨#[]⟩, Nat.zero_le _, FAt.start s, hS⟩
  case round =>
    obtain ⟨p, d, hp, hA, hF⟩ := hrel
    clear hS
    have hdp : d.size = p := hA.1
    by_cases hlt : p < s.size
    · have hst := tk_step s p hlt
      obtain ⟨hn1, hn2⟩ := decode_n s p hlt
      have hr := decode_lt s p hlt
      have hsu := decode_sur s p hlt
      have hgo := decodeGo_at s p hlt
      have hpos := Lib.hid hF.pos
      obtain ⟨r, hrr⟩ : ∃ r, (Utf8.decode s p).1 = r := ⟨_, rfl⟩
      obtain ⟨n, hnn⟩ : ∃ n, (Utf8.decode s p).2 = n := ⟨_, rfl⟩
      have HR := Lib.hid hrr
      have HN := Lib.hid hnn
      have HD : Hid ((Lib.decodeGo (s.extract p s.size)).1 = r ∧ (Lib.decodeGo (s.extract p s.size)).2 = n) := by show _ ∧ _; rw [hgo]; exact ⟨hrr, hnn⟩
      rw [hrr, hnn] at hst
      rw [hrr] at hr hsu
      rw [hnn] at hn1 hn2
      have HST := Lib.hid hst
      have HSU := Lib.hid hsu
      clear hst hrr hnn hgo hsu
      have HA := Lib.hid hA
      clear hA
      have hd4 : d.size + 4 ≤ 140737488355328 := by omega
      rcases fold_cases r with ⟨h1, h2⟩ | h1 | h1 | h1 | ⟨h1, h2, h3⟩ | h1 | h1 | ⟨h1, h2, h3, h4, h5⟩ | h1 | ⟨h1, h2⟩
      · have z65 : 65 ≤ r := by omega
        have y90 : r ≤ 90 := by omega
        have t196 : ((r : Int) == 196) = false := by rw [beq_eq_false_iff_ne]; omega
        have t214 : ((r : Int) == 214) = false := by rw [beq_eq_false_iff_ne]; omega
        have t220 : ((r : Int) == 220) = false := by rw [beq_eq_false_iff_ne]; omega
        have z913 : ¬ 913 ≤ r := by omega
        have y937 : r ≤ 937 := by omega
        have t930 : ((r : Int) != 930) = true := by rw [bne_iff_ne]; omega
        have tbad : ((r : Int) == 65533) = false := by rw [beq_eq_false_iff_ne]; omega
        have e32 : NM.smallP r = r + 32 := by unfold NM.smallP; rw [if_pos (by omega)]
        have hne : NM.smallP r ≠ r := by omega
        have HC := Lib.hid (turn_cells hn2 HST.out hne)
        have HB := Lib.hid (HA.out.turn hn2 hn1 HST.out hne)
        rw [e32] at HC HB
        clear hne e32 h1 h2
        have swr : IntKind.i32.wrap ((r : Int) + 32) = ((r + 32 : Nat) : Int) := by rw [IntWalk.i32_in _ (by omega)]; omega
        go_wp2_with (first
          | (refine wpList_nextB rfl (.tmp 9) rfl (by rfl) hF hlt ?_; intro w2 hF2; rw [HR.out]; rw [HN.out] at hF2)
          | (go_at_call 28; refine (addRune hF2 (r + 32) (by omega) HC.out.1 hd4).mono ?_; rintro e w3 ⟨b', rfl, hF3⟩))
        refine ⟨⟨p + n, _, by omega, HB.out, hF3⟩, ?_⟩
        rw [hF3.pos, hpos.out]; omega
      · have z65 : 65 ≤ r := by omega
        have y90 : ¬ r ≤ 90 := by omega
        have t196 : ((r : Int) == 196) = true := by rw [beq_iff_eq]; omega
        have t214 : ((r : Int) == 214) = false := by rw [beq_eq_false_iff_ne]; omega
        have t220 : ((r : Int) == 220) = false := by rw [beq_eq_false_iff_ne]; omega
        have z913 : ¬ 913 ≤ r := by omega
        have y937 : r ≤ 937 := by omega
        have t930 : ((r : Int) != 930) = true := by rw [bne_iff_ne]; omega
        have tbad : ((r : Int) == 65533) = false := by rw [beq_eq_false_iff_ne]; omega
        have e32 : NM.smallP r = r + 32 := by unfold NM.smallP; rw [if_pos (by omega)]
        have hne : NM.smallP r ≠ r := by omega
        have HC := Lib.hid (turn_cells hn2 HST.out hne)
        have HB := Lib.hid (HA.out.turn hn2 hn1 HST.out hne)
        rw [e32] at HC HB
        clear hne e32 h1
        have swr : IntKind.i32.wrap ((r : Int) + 32) = ((r + 32 : Nat) : Int) := by rw [IntWalk.i32_in _ (by omega)]; omega
        go_wp2_with (first
          | (refine wpList_nextB rfl (.tmp 9) rfl (by rfl) hF hlt ?_; intro w2 hF2; rw [HR.out]; rw [HN.out] at hF2)
          | (go_at_call 28; refine (addRune hF2 (r + 32) (by omega) HC.out.1 hd4).mono ?_; rintro e w3 ⟨b', rfl, hF3⟩))
        refine ⟨⟨p + n, _, by omega, HB.out, hF3⟩, ?_⟩
        rw [hF3.pos, hpos.out]; omega
      · have z65 : 65 ≤ r := by omega
        have y90 : ¬ r ≤ 90 := by omega
        have t196 : ((r : Int) == 196) = false := by rw [beq_eq_false_iff_ne]; omega
        have t214 : ((r : Int) == 214) = true := by rw [beq_iff_eq]; omega
        have t220 : ((r : Int) == 220) = false := by rw [beq_eq_false_iff_ne]; omega
        have z913 : ¬ 913 ≤ r := by omega
        have y937 : r ≤ 937 := by omega
        have t930 : ((r : Int) != 930) = true := by rw [bne_iff_ne]; omega
        have tbad : ((r : Int) == 65533) = false := by rw [beq_eq_false_iff_ne]; omega
        have e32 : NM.smallP r = r + 32 := by unfold NM.smallP; rw [if_pos (by omega)]
        have hne : NM.smallP r ≠ r := by omega
        have HC := Lib.hid (turn_cells hn2 HST.out hne)
        have HB := Lib.hid (HA.out.turn hn2 hn1 HST.out hne)
        rw [e32] at HC HB
        clear hne e32 h1
        have swr : IntKind.i32.wrap ((r : Int) + 32) = ((r + 32 : Nat) : Int) := by rw [IntWalk.i32_in _ (by omega)]; omega
        go_wp2_with (first
          | (refine wpList_nextB rfl (.tmp 9) rfl (by rfl) hF hlt ?_; intro w2 hF2; rw [HR.out]; rw [HN.out] at hF2)
          | (go_at_call 28; refine (addRune hF2 (r + 32) (by omega) HC.out.1 hd4).mono ?_; rintro e w3 ⟨b', rfl, hF3⟩))
        refine ⟨⟨p + n, _, by omega, HB.out, hF3⟩, ?_⟩
        rw [hF3.pos, hpos.out]; omega
      · have z65 : 65 ≤ r := by omega
        have y90 : ¬ r ≤ 90 := by omega
        have t196 : ((r : Int) == 196) = false := by rw [beq_eq_false_iff_ne]; omega
        have t214 : ((r : Int) == 214) = false := by rw [beq_eq_false_iff_ne]; omega
        have t220 : ((r : Int) == 220) = true := by rw [beq_iff_eq]; omega
        have z913 : ¬ 913 ≤ r := by omega
        have y937 : r ≤ 937 := by omega
        have t930 : ((r : Int) != 930) = true := by rw [bne_iff_ne]; omega
        have tbad : ((r : Int) == 65533) = false := by rw [beq_eq_false_iff_ne]; omega
        have e32 : NM.smallP r = r + 32 := by unfold NM.smallP; rw [if_pos (by omega)]
        have hne : NM.smallP r ≠ r := by omega
        have HC := Lib.hid (turn_cells hn2 HST.out hne)
        have HB := Lib.hid (HA.out.turn hn2 hn1 HST.out hne)
        rw [e32] at HC HB
        clear hne e32 h1
        have swr : IntKind.i32.wrap ((r : Int) + 32) = ((r + 32 : Nat) : Int) := by rw [IntWalk.i32_in _ (by omega)]; omega
        go_wp2_with (first
          | (refine wpList_nextB rfl (.tmp 9) rfl (by rfl) hF hlt ?_; intro w2 hF2; rw [HR.out]; rw [HN.out] at hF2)
          | (go_at_call 28; refine (addRune hF2 (r + 32) (by omega) HC.out.1 hd4).mono ?_; rintro e w3 ⟨b', rfl, hF3⟩))
        refine ⟨⟨p + n, _, by omega, HB.out, hF3⟩, ?_⟩
        rw [hF3.pos, hpos.out]; omega
      · have z65 : 65 ≤ r := by omega
        have y90 : ¬ r ≤ 90 := by omega
        have t196 : ((r : Int) == 196) = false := by rw [beq_eq_false_iff_ne]; omega
        have t214 : ((r : Int) == 214) = false := by rw [beq_eq_false_iff_ne]; omega
        have t220 : ((r : Int) == 220) = false := by rw [beq_eq_false_iff_ne]; omega
        have z913 : 913 ≤ r := by omega
        have y937 : r ≤ 937 := by omega
        have t930 : ((r : Int) != 930) = true := by rw [bne_iff_ne]; omega
        have tbad : ((r : Int) == 65533) = false := by rw [beq_eq_false_iff_ne]; omega
        have e32 : NM.smallP r = r + 32 := by unfold NM.smallP; rw [if_pos (by omega)]
        have hne : NM.smallP r ≠ r := by omega
        have HC := Lib.hid (turn_cells hn2 HST.out hne)
        have HB := Lib.hid (HA.out.turn hn2 hn1 HST.out hne)
        rw [e32] at HC HB
        clear hne e32 h1 h2 h3
        have swr : IntKind.i32.wrap ((r : Int) + 32) = ((r + 32 : Nat) : Int) := by rw [IntWalk.i32_in _ (by omega)]; omega
        go_wp2_with (first
          | (refine wpList_nextB rfl (.tmp 9) rfl (by rfl) hF hlt ?_; intro w2 hF2; rw [HR.out]; rw [HN.out] at hF2)
          | (go_at_call 28; refine (addRune hF2 (r + 32) (by omega) HC.out.1 hd4).mono ?_; rintro e w3 ⟨b', rfl, hF3⟩))
        refine ⟨⟨p + n, _, by omega, HB.out, hF3⟩, ?_⟩
        rw [hF3.pos, hpos.out]; omega
      · have z65 : 65 ≤ r := by omega
        have y90 : ¬ r ≤ 90 := by omega
        have t196 : ((r : Int) == 196) = false := by rw [beq_eq_false_iff_ne]; omega
        have t214 : ((r : Int) == 214) = false := by rw [beq_eq_false_iff_ne]; omega
        have t220 : ((r : Int) == 220) = false := by rw [beq_eq_false_iff_ne]; omega
        have z913 : 913 ≤ r := by omega
        have y937 : ¬ r ≤ 937 := by omega
        have t930 : ((r : Int) != 930) = true := by rw [bne_iff_ne]; omega
        have tbad : ((r : Int) == 65533) = true := by rw [beq_iff_eq]; omega
        have HB := Lib.hid (HA.out.keep hn2 HST.out (by unfold NM.smallP; rw [if_neg (by omega)]))
        clear h1
        have swn : IntKind.i64.wrap ((p : Int) + (n : Int)) = ((p + n : Nat) : Int) := by rw [IntWalk.i64_in _ (by omega)]; omega
        have hps : p ≤ s.size := hp
        have hln : d.size + (s.extract p (p + n)).size ≤ 140737488355328 := by rw [ByteArray.size_extract]; omega
        have hpn : p ≤ p + n := by omega
        go_wp2_with (first
          | (refine wpList_nextB rfl (.tmp 9) rfl (by rfl) hF hlt ?_; intro w2 hF2; rw [HR.out]; rw [HN.out] at hF2)
          | (go_at_call 29; refine (Tryd.utf8_DecodeRuneInString (s.extract p s.size) _ (tabs_keep HT.out hF2.out)).mono ?_; rintro e w3 ⟨rfl, hb3⟩; rw [HD.out.1, HD.out.2]; have hF3 := hF2.below hb3; clear hb3)
          | (at_builtin; refine wpList_addText rfl (.tmp 54) (.tmp 60) rfl (by rfl) (by rfl) hF3 hln ?_; intro b' w4 hF4))
        refine ⟨⟨p + n, _, by omega, HB.out, hF4⟩, ?_⟩
        rw [hF4.pos, hpos.out]; omega
      · have z65 : ¬ 65 ≤ r := by omega
        have y90 : r ≤ 90 := by omega
        have t196 : ((r : Int) == 196) = false := by rw [beq_eq_false_iff_ne]; omega
        have t214 : ((r : Int) == 214) = false := by rw [beq_eq_false_iff_ne]; omega
        have t220 : ((r : Int) == 220) = false := by rw [beq_eq_false_iff_ne]; omega
        have z913 : ¬ 913 ≤ r := by omega
        have y937 : r ≤ 937 := by omega
        have t930 : ((r : Int) != 930) = true := by rw [bne_iff_ne]; omega
        have tbad : ((r : Int) == 65533) = false := by rw [beq_eq_false_iff_ne]; omega
        have hkeep : NM.smallP r = r := by unfold NM.smallP; rw [if_neg (by omega)]
        have HB := Lib.hid (HA.out.keep hn2 HST.out hkeep)
        have HC := Lib.hid (keep_cells hn2 HST.out (by omega) hr HSU.out)
        clear hkeep h1
        go_wp2_with (first
          | (refine wpList_nextB rfl (.tmp 9) rfl (by rfl) hF hlt ?_; intro w2 hF2; rw [HR.out]; rw [HN.out] at hF2)
          | (go_at_call 28; refine (addRune hF2 r (by omega) HC.out.1 hd4).mono ?_; rintro e w3 ⟨b', rfl, hF3⟩))
        refine ⟨⟨p + n, _, by omega, HB.out, hF3⟩, ?_⟩
        rw [hF3.pos, hpos.out]; omega
      · have z65 : 65 ≤ r := by omega
        have y90 : ¬ r ≤ 90 := by omega
        have t196 : ((r : Int) == 196) = false := by rw [beq_eq_false_iff_ne]; omega
        have t214 : ((r : Int) == 214) = false := by rw [beq_eq_false_iff_ne]; omega
        have t220 : ((r : Int) == 220) = false := by rw [beq_eq_false_iff_ne]; omega
        have z913 : ¬ 913 ≤ r := by omega
        have y937 : r ≤ 937 := by omega
        have t930 : ((r : Int) != 930) = true := by rw [bne_iff_ne]; omega
        have tbad : ((r : Int) == 65533) = false := by rw [beq_eq_false_iff_ne]; omega
        have hkeep : NM.smallP r = r := by unfold NM.smallP; rw [if_neg (by omega)]
        have HB := Lib.hid (HA.out.keep hn2 HST.out hkeep)
        have HC := Lib.hid (keep_cells hn2 HST.out (by omega) hr HSU.out)
        clear hkeep h1 h2 h3 h4 h5
        go_wp2_with (first
          | (refine wpList_nextB rfl (.tmp 9) rfl (by rfl) hF hlt ?_; intro w2 hF2; rw [HR.out]; rw [HN.out] at hF2)
          | (go_at_call 28; refine (addRune hF2 r (by omega) HC.out.1 hd4).mono ?_; rintro e w3 ⟨b', rfl, hF3⟩))
        refine ⟨⟨p + n, _, by omega, HB.out, hF3⟩, ?_⟩
        rw [hF3.pos, hpos.out]; omega
      · have z65 : 65 ≤ r := by omega
        have y90 : ¬ r ≤ 90 := by omega
        have t196 : ((r : Int) == 196) = false := by rw [beq_eq_false_iff_ne]; omega
        have t214 : ((r : Int) == 214) = false := by rw [beq_eq_false_iff_ne]; omega
        have t220 : ((r : Int) == 220) = false := by rw [beq_eq_false_iff_ne]; omega
        have z913 : 913 ≤ r := by omega
        have y937 : r ≤ 937 := by omega
        have t930 : ((r : Int) != 930) = false := by simp; omega
        have tbad : ((r : Int) == 65533) = false := by rw [beq_eq_false_iff_ne]; omega
        have hkeep : NM.smallP r = r := by unfold NM.smallP; rw [if_neg (by omega)]
        have HB := Lib.hid (HA.out.keep hn2 HST.out hkeep)
        have HC := Lib.hid (keep_cells hn2 HST.out (by omega) hr HSU.out)
        clear hkeep h1
        go_wp2_with (first
          | (refine wpList_nextB rfl (.tmp 9) rfl (by rfl) hF hlt ?_; intro w2 hF2; rw [HR.out]; rw [HN.out] at hF2)
          | (go_at_call 28; refine (addRune hF2 r (by omega) HC.out.1 hd4).mono ?_; rintro e w3 ⟨b', rfl, hF3⟩))
        refine ⟨⟨p + n, _, by omega, HB.out, hF3⟩, ?_⟩
        rw [hF3.pos, hpos.out]; omega
      · have z65 : 65 ≤ r := by omega
        have y90 : ¬ r ≤ 90 := by omega
        have t196 : ((r : Int) == 196) = false := by rw [beq_eq_false_iff_ne]; omega
        have t214 : ((r : Int) == 214) = false := by rw [beq_eq_false_iff_ne]; omega
        have t220 : ((r : Int) == 220) = false := by rw [beq_eq_false_iff_ne]; omega
        have z913 : 913 ≤ r := by omega
        have y937 : ¬ r ≤ 937 := by omega
        have t930 : ((r : Int) != 930) = true := by rw [bne_iff_ne]; omega
        have tbad : ((r : Int) == 65533) = false := by rw [beq_eq_false_iff_ne]; omega
        have hkeep : NM.smallP r = r := by unfold NM.smallP; rw [if_neg (by omega)]
        have HB := Lib.hid (HA.out.keep hn2 HST.out hkeep)
        have HC := Lib.hid (keep_cells hn2 HST.out (by omega) hr HSU.out)
        clear hkeep h1 h2
        go_wp2_with (first
          | (refine wpList_nextB rfl (.tmp 9) rfl (by rfl) hF hlt ?_; intro w2 hF2; rw [HR.out]; rw [HN.out] at hF2)
          | (go_at_call 28; refine (addRune hF2 r (by omega) HC.out.1 hd4).mono ?_; rintro e w3 ⟨b', rfl, hF3⟩))
        refine ⟨⟨p + n, _, by omega, HB.out, hF3⟩, ?_⟩
        rw [hF3.pos, hpos.out]; omega
    · have HE := Lib.hid (hA.done (by omega))
      clear hA
      go_wp2_with (first
        | (refine wpList_nextB_end rfl (.tmp 9) rfl (by rfl) hF hlt ?_)
        | (refine wpList_textB rfl (.tmp 62) 36 9 5 rfl (by rfl) hF Tryd.underlying36 Tryd.underlying5 Tryd.underlying9 ?_))
      go_ret
      exact ⟨by rw [HE.out]; rfl, hF.out⟩
end Go.Proofs.YtipbjcchhgbabaaDoor
