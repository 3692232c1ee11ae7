/- A row of bytes that a file owns: its words; what 'append' of a text does to it. -/
import Derived.Test.YtjlpgjfgeikdeaaCom
import Derived.Lib.AppendStr
set_option linter.unusedVariables false
set_option linter.unusedSimpArgs false
set_option linter.unnecessarySimpa false
namespace Go.Proofs.Ytjlpgjfgeikdeaa
open Go.RowKit Go.ChangeShapes Go.WideShapes Go.ChangeAt
open Go.Lib (strCells strCells_length strCells_oneCell run_firstCells_string run_append_room_string run_append_grow_string)
/-- what a call that writes into the blocks of a set alone leaves -/
structure ChgS (S : Nat → Prop) (w w' : World) : Prop where
  os : w'.os = w.os
  tape : w'.tape = w.tape
  output : w'.output = w.output
  size : w.heap.size ≤ w'.heap.size
  block : ∀ k, k < w.heap.size → ¬ S k → w'.heap[k]? = w.heap[k]?
theorem ChgS.refl (S : Nat → Prop) (w : World) : ChgS S w w := ⟨rfl, rfl, rfl, Nat.le_refl _, fun _ _ _ => rfl⟩
theorem ChgS.trans {S : Nat → Prop} {a b c : World} (h : ChgS S a b) (k : ChgS S b c) : ChgS S a c :=
  ⟨k.os.trans h.os, k.tape.trans h.tape, k.output.trans h.output, Nat.le_trans h.size k.size, fun i hi hg => (k.block i (Nat.lt_of_lt_of_le hi h.size) hg).trans (h.block i hi hg)⟩
theorem ChgS.mono {S T : Nat → Prop} {a b : World} (h : ChgS S a b) (hs : ∀ k, S k → T k ∨ a.heap.size ≤ k) : ChgS T a b :=
  ⟨h.os, h.tape, h.output, h.size, fun k hk hn => h.block k hk fun hS => by rcases hs k hS with h | h; exact hn h; omega⟩
theorem ChgS.of_below {S : Nat → Prop} {w w' : World} (h : Below w.heap.size w w') : ChgS S w w' := ⟨h.os, h.tape, h.output, h.size, fun k hk _ => h.block k hk⟩
theorem ChgS.set {S : Nat → Prop} {a w : World} (h : ChgS S a w) {p : Addr} (hp : S p.block ∨ a.heap.size ≤ p.block) (v : Value) : ChgS S a (w.setCell p v) :=
  ⟨h.os, h.tape, h.output, by simpa using h.size, fun k hk hg => (Below.heap_setCell w p v k (by rintro rfl; rcases hp with hp | hp; exact hg hp; omega)).trans (h.block k hk hg)⟩
theorem ChgS.drewN {S : Nat → Prop} {a w : World} (h : ChgS S a w) (m : Nat) : ChgS S a (w.drewN m) := ⟨h.os, h.tape, h.output, h.size, h.block⟩
theorem ChgS.grown {S : Nat → Prop} {a w w' : World} {r : Option Nat} (h : ChgS S a w) (g : w.grownBy w' r) (hr : ∀ k, r = some k → S k ∨ a.heap.size ≤ k) : ChgS S a w' :=
  ⟨g.os.trans h.os, g.tape.trans h.tape, g.output.trans h.output, Nat.le_trans h.size g.size, fun k hk hn =>
    (g.block k (Nat.lt_of_lt_of_le hk h.size) fun e => by rcases hr k e.symm with h | h; exact hn h; omega).trans (h.block k hk hn)⟩
theorem ChgS.at_ {S : Nat → Prop} {w w' : World} (h : ChgS S w w') {k t : Nat} {vs : List Value} (ha : At w k t vs) (hg : ¬ S k) : At w' k t vs := (h.block k ha.lt hg).trans ha
theorem ChgS.below {S : Nat → Prop} {n : Nat} {w w' : World} (h : ChgS S w w') (hS : ∀ k, S k → n ≤ k) (hn : n ≤ w.heap.size) : Below n w w' :=
  ⟨h.os, h.tape, h.output, h.size, fun k hk => h.block k (by omega) fun hs => by have := hS k hs; omega⟩
/-- a row of bytes: what a file owns -/
def BRow (w : World) (v : Value) (b : ByteArray) : Prop :=
  (v = .slice none 0 0 ∧ b.size = 0) ∨ ∃ g cap cur, v = .slice (some ⟨g, 0, none⟩) b.size cap ∧ w.heap[g]? = some (.cells cur 5 (0, 0)) ∧ b.size ≤ cap ∧ cap ≤ maxLen ∧ cap ≤ cur.size ∧ cur.toList.take b.size = strCells b
theorem BRow.nil (w : World) : BRow w (.slice none 0 0) ⟨#[]⟩ := .inl ⟨rfl, rfl⟩
theorem BRow.slice {w : World} {v : Value} {b : ByteArray} (h : BRow w v b) : ∃ A c, v = .slice A b.size c := by
  rcases h with ⟨rfl, h⟩ | ⟨g, cap, cur, rfl, _⟩
  · exact ⟨_, _, by rw [h]⟩
  · exact ⟨_, _, rfl⟩
theorem BRow.lt {w : World} {v : Value} {b : ByteArray} (h : BRow w v b) : ∀ k, v.ownBlock = some k → k < w.heap.size := by
  intro k hk
  rcases h with ⟨rfl, _⟩ | ⟨g, cap, cur, rfl, hg, _⟩
  · simp [Value.ownBlock] at hk
  · simp [Value.ownBlock] at hk
    subst hk
    exact (Array.getElem?_eq_some_iff.1 hg).1
theorem BRow.kept {w w' : World} {v : Value} {b : ByteArray} (h : BRow w v b) (hk : ∀ k, v.ownBlock = some k → w'.heap[k]? = w.heap[k]?) : BRow w' v b := by
  rcases h with h | ⟨g, cap, cur, rfl, hg, h⟩
  · exact .inl h
  · exact .inr ⟨g, cap, cur, rfl, (hk g rfl).trans hg, h⟩
theorem BRow.grown {w w' : World} {v : Value} {b : ByteArray} {r : Option Nat} (h : BRow w v b) (g : w.grownBy w' r) (hr : ∀ k, v.ownBlock = some k → r ≠ some k) : BRow w' v b :=
  h.kept fun k hk => g.block k (h.lt k hk) fun e => hr k hk e.symm
theorem BRow.chg {S : Nat → Prop} {w w' : World} {v : Value} {b : ByteArray} (h : BRow w v b) (c : ChgS S w w') (hr : ∀ k, v.ownBlock = some k → ¬ S k) : BRow w' v b :=
  h.kept fun k hk => c.block k (h.lt k hk) (hr k hk)
theorem strCells_append (a b : ByteArray) : strCells (a ++ b) = strCells a ++ strCells b := by
  simp [strCells, ByteArray.data_append]
theorem info5 : (Try.prog.info? 5).map (fun i => (i.zero, i.size, i.bytes)) = some (some (.int .u8 0), 1, 1) := by kernel_rfl
theorem run_app (w : World) (ty : TypeId) (v : Value) (b : ByteArray) (h : BRow w v b) (s : ByteArray) (hs : b.size + s.size ≤ 1048576) :
    ∃ v' w', (Builtin.append_ #[59, 9] ty #[v, .string s]).run Try.prog w = .ok v' w' ∧ BRow w' v' (b ++ s) ∧ w.grownBy w' v.ownBlock ∧ (∀ k, v'.ownBlock = some k → v.ownBlock = some k ∨ w.heap.size ≤ k) := by
  obtain ⟨i, hi, hz, hsz, hby⟩ : ∃ i, Try.prog.info? 5 = some i ∧ i.zero = some (.int .u8 0) ∧ i.size = 1 ∧ i.bytes = 1 := info_parts info5
  have ht : Try.prog.underlying 59 = some (.slice 5) := Try.underlying59
  have hu : Try.prog.underlying 9 = some .string := Try.underlying9
  have hsb : (b ++ s).size = b.size + s.size := by simp
  have grown : ∀ (old : Nat) (row : Option Nat), old < b.size + s.size →
      BRow (w.drew.alloc (.cells ((strCells b).toArray ++ (strCells s).toArray ++ Builtin.zeroCells (Value.int .u8 0).cells (grownCap w (b.size + s.size) old 5 - (b.size + s.size))) 5)) (.slice (some ⟨w.heap.size, 0, none⟩) (b.size + s.size) (grownCap w (b.size + s.size) old 5)) (b ++ s) ∧
      w.grownBy (w.drew.alloc (.cells ((strCells b).toArray ++ (strCells s).toArray ++ Builtin.zeroCells (Value.int .u8 0).cells (grownCap w (b.size + s.size) old 5 - (b.size + s.size))) 5)) row := by
    intro old row ho
    have hge := grownCap_ge w (b.size + s.size) old 5
    have hcm : grownCap w (b.size + s.size) old 5 ≤ maxLen := grownCap_le_maxLen w (b.size + s.size) old 5 (by unfold maxLen; omega)
    refine ⟨.inr ⟨w.heap.size, _, _, by rw [hsb], Go.heap_alloc_new w.drew _, by omega, hcm, ?_, ?_⟩, ⟨rfl, rfl, rfl, by simp, fun k hk _ => Go.heap_alloc_old w.drew _ hk⟩⟩
    · have hz1 : (Value.int IntKind.u8 0).cells.size = 1 := rfl
      simp only [Array.size_append, List.size_toArray, size_zeroCells, hz1, strCells_length]
      omega
    · simp only [Array.toList_append]
      rw [← strCells_append, ← strCells_length]
      exact List.take_left
  rcases h with ⟨rfl, hb⟩ | ⟨g, cap, cur, rfl, hg, hnc, hcm, hcs, htake⟩
  · have hx : strCells b = [] := List.eq_nil_of_length_eq_zero (by rw [strCells_length]; exact hb)
    by_cases hm : s.size = 0
    · refine ⟨.slice none 0 0, w, ?_, .inl ⟨rfl, by omega⟩, ⟨rfl, rfl, rfl, Nat.le_refl _, fun _ _ _ => rfl⟩, fun k hk => .inl hk⟩
      have hf := run_firstCells_string (P := Try.prog) w 1 s
      rw [hm] at hf
      simp [Builtin.append_, run_underlying ht, run_underlying hu, sizeOf, typeInfo, hi, hsz, Builtin.lenOf, hm, hf]
    · have hr := run_append_nil_string (P := Try.prog) w 59 9 ty 5 i (.int .u8 0) ht hu hi hz s (by omega) (by omega) (by rw [hby]; omega)
      have hgr := grown 0 (Value.ownBlock (.slice none 0 0)) (by omega)
      rw [hb, hx] at hgr
      have e0 : (#[] : Array Value) ++ (strCells s).toArray = (strCells s).toArray := by simp
      simp only [Nat.zero_add] at hgr
      rw [show ([] : List Value).toArray = #[] from rfl, e0] at hgr
      have e1 : (s.data.map fun b => Value.int .u8 b.toNat) = (strCells s).toArray := by
        apply Array.ext'
        simp [strCells]
      rw [e1] at hr
      exact ⟨_, _, hr, hgr.1, hgr.2, fun k hk => .inr (by simp [Value.ownBlock] at hk; omega)⟩
  · by_cases hroom : b.size + s.size ≤ cap
    · have hr := run_append_room_string (P := Try.prog) w 59 9 ty 5 i ht hu hi hsz g b.size cap cur hg s hroom (by omega)
      refine ⟨_, _, hr, .inr ⟨g, cap, _, by rw [hsb], setRow_heap w g cur _ 5 _ hg, by omega, hcm, ?_, ?_⟩, ⟨rfl, rfl, rfl, by simp, fun k _ hk => setRow_other w g k _ (fun e => hk (by simp [Value.ownBlock, e]))⟩, fun k hk => .inl hk⟩
      · simp only [List.size_toArray, List.length_append, List.length_take, List.length_drop, Array.length_toList, strCells_length]
        omega
      · rw [htake, ← strCells_append, ← strCells_length]
        exact List.take_left
    · have holds : ∀ j u, (strCells b)[j]? = some u → w.cell? ((⟨g, 0, none⟩ : Addr).add j) = some u := by
        intro j u hj
        have hadd : (⟨g, 0, none⟩ : Addr).add j = ⟨g, j, none⟩ := by unfold Addr.add; split <;> simp_all
        rw [hadd, cell_of_row w g j cur 5 (0, 0) hg]
        rw [← htake, List.getElem?_take] at hj
        split at hj
        · simpa using hj
        · cases hj
      have hr := run_append_grow_string (P := Try.prog) w 59 9 ty 5 i (.int .u8 0) ht hu hi hz ⟨g, 0, none⟩ b.size cap (strCells b) (by rw [hsz, strCells_length, Nat.mul_one]) holds s (by omega) (by omega) (by rw [hby]; exact growslice_fits (by omega) (by omega))
      have hgr := grown cap (Value.ownBlock (.slice (some ⟨g, 0, none⟩) b.size cap)) (by omega)
      exact ⟨_, _, hr, hgr.1, hgr.2, fun k hk => .inr (by simp [Value.ownBlock] at hk; omega)⟩
theorem app_bytes {w : World} {ops : Array Oper} {rest : List Oper} {o : Oper} {a : Act} {Q : Exit → Act → World → Prop} (hgd : o.guard = none) (sl x : Operand)
    (ho : o.op = .call { callee := .builtin .append, args := #[sl, x], argTypes := #[59, 9] })
    (v : Value) (b : ByteArray) (hv : a.eval sl = v) (hb : BRow w v b) (s : ByteArray) (hx : a.eval x = .string s) (hs : b.size + s.size ≤ 1048576)
    (h : ∀ v' w', BRow w' v' (b ++ s) → w.grownBy w' v.ownBlock → (∀ k, v'.ownBlock = some k → v.ownBlock = some k ∨ w.heap.size ≤ k) → wpList Try.prog ops Q rest (a.put o.dst v') w') : wpList Try.prog ops Q (o :: rest) a w := by
  refine wpList_plain hgd fun K hK => ?_
  obtain ⟨v', w', hr, h2, h3, h4⟩ := run_app w o.type v b hb s hs
  unfold Oper.wp execOp
  simp only [ho, resolve, invoke, builtin, Sem.run_bind, Sem.run_pure, Result.andThen_ok, List.map_toArray, List.map_cons, List.map_nil, hv, hx, hr]
  exact hK _ _ (h v' w' h2 h3 h4)
end Go.Proofs.Ytjlpgjfgeikdeaa
