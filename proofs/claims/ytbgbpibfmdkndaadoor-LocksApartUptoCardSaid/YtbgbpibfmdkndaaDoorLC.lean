/- Rising lists of names. -/
import Derived.Test.YtbgbpibfmdkndaaDoorLB
import Derived.Shelf.SlSortCmp.NoneTotal
import Derived.Shelf.Slices.CompactS
set_option linter.unusedVariables false
set_option linter.unusedSimpArgs false
set_option linter.unnecessarySimpa false
set_option maxRecDepth 100000
namespace Go.Proofs.YtbgbpibfmdkndaaDoor
open Go.RowKit Go.ChangeShapes Go.WideShapes Go.ChangeAt
theorem cmp_self (x : ByteArray) : cmpN x x = 0 := NM.cmpT_self _ _ rfl
theorem cmp_back (x y : ByteArray) : cmpN y x = -cmpN x y := NM.cmpT_back _ _
theorem cmp_trans {x y z : ByteArray} (h : cmpN x y < 0) (k : cmpN y z < 0) : cmpN x z < 0 := by
  unfold cmpN at *
  rcases NM.cmpT_range (tk x 0) (tk y 0) with e | e | e <;> rcases NM.cmpT_range (tk y 0) (tk z 0) with f | f | f <;> try omega
  rw [NM.cmpT_less _ _ _ e f]
  omega
theorem nat_inj : ∀ l m : List UInt8, l.map (·.toNat) = m.map (·.toNat) → l = m
  | [], [], _ => rfl
  | [], _ :: _, h => by simp at h
  | _ :: _, [], h => by simp at h
  | a :: l, b :: m, h => by
    simp only [List.map_cons, List.cons.injEq] at h
    rw [UInt8.toNat_inj.1 h.1, nat_inj l m h.2]
theorem cmp_eq {x y : ByteArray} (hx : isN x = true) (hy : isN y = true) (h : cmpN x y = 0) : x = y := by
  have h1 := NM.cmpT_zero _ _ h
  have h2 : bs x = bs y := NM.name_eq (bs x) (bs y) (by have := isN_T hx; unfold tk at this; simpa using this) (by have := isN_T hy; unfold tk at this; simpa using this) (by unfold tk at h1; simpa using h1)
  unfold bs at h2
  have h3 : x.data.toList = y.data.toList := nat_inj _ _ h2
  cases x; cases y
  simp at h3
  rw [h3]
theorem cmp_ntrans {x y z : ByteArray} (h : ¬ cmpN x y < 0) (k : ¬ cmpN y z < 0) : ¬ cmpN x z < 0 := by
  intro g
  have h1 := cmp_back x y
  have k1 := cmp_back y z
  unfold cmpN at *
  rcases NM.cmpT_range (tk x 0) (tk y 0) with e | e | e
  · omega
  · rw [NM.cmpT_congr _ _ _ (NM.cmpT_zero _ _ e)] at g
    omega
  · rcases NM.cmpT_range (tk y 0) (tk z 0) with f | f | f
    · omega
    · have h2 := NM.cmpT_congr _ _ (tk x 0) (NM.cmpT_zero _ _ f)
      have h3 := NM.cmpT_back (tk x 0) (tk z 0)
      omega
    · have h2 := NM.cmpT_less (tk z 0) (tk y 0) (tk x 0) (by omega) (by omega)
      have h3 := NM.cmpT_back (tk x 0) (tk z 0)
      omega
/-- two rising lists of the same members are one -/
theorem strict_unique {α : Type} {r : α → α → Prop} (has : ∀ a b, r a b → ¬ r b a) : ∀ A B : List α, A.Pairwise r → B.Pairwise r → (∀ x, x ∈ A ↔ x ∈ B) → A = B := by
  intro A
  induction A with
  | nil =>
    intro B _ _ h
    cases B with
    | nil => rfl
    | cons b B => exact absurd ((h b).2 List.mem_cons_self) List.not_mem_nil
  | cons a A ih =>
    intro B hA hB h
    cases B with
    | nil => exact absurd ((h a).1 List.mem_cons_self) List.not_mem_nil
    | cons b B =>
      rw [List.pairwise_cons] at hA hB
      have hab : a = b := by
        rcases List.mem_cons.1 ((h a).1 List.mem_cons_self) with e | e
        · exact e
        · rcases List.mem_cons.1 ((h b).2 List.mem_cons_self) with f | f
          · exact f.symm
          · exact absurd (hA.1 b f) (has _ _ (hB.1 a e))
      subst hab
      have hA' : a ∉ A := fun e => has _ _ (hA.1 a e) (hA.1 a e)
      have hB' : a ∉ B := fun e => has _ _ (hB.1 a e) (hB.1 a e)
      rw [ih B hA.2 hB.2 fun x => ⟨fun e => by
        rcases List.mem_cons.1 ((h x).1 (List.mem_cons_of_mem _ e)) with f | f
        · subst f; exact absurd e hA'
        · exact f, fun e => by
        rcases List.mem_cons.1 ((h x).2 (List.mem_cons_of_mem _ e)) with f | f
        · subst f; exact absurd e hB'
        · exact f⟩]
theorem compact_strict {α : Type} [Inhabited α] [DecidableEq α] {r : α → α → Prop} (has : ∀ a b, r a b → ¬ r b a) (d : Array α) (hs : ∀ i j, i < j → j < d.size → d[i]! ≠ d[j]! → r d[i]! d[j]!) :
    ∀ m, m ≤ d.size → (Lib.compactUpTo d m).Pairwise r ∧ ∀ x, x ∈ Lib.compactUpTo d m ↔ ∃ j, j < m ∧ d[j]! = x := by
  intro m
  induction m with
  | zero =>
    intro _
    have e : Lib.compactUpTo d 0 = [] := rfl
    rw [e]
    exact ⟨List.Pairwise.nil, fun x => ⟨(fun h => by cases h), fun ⟨j, hj, _⟩ => absurd hj (Nat.not_lt_zero _)⟩⟩
  | succ m ih =>
    intro hm
    obtain ⟨h1, h2⟩ := ih (by omega)
    rw [Lib.compactUpTo_succ]
    by_cases hk : Lib.keeps d m = true
    · rw [if_pos hk]
      constructor
      · rw [List.pairwise_append]
        refine ⟨h1, List.pairwise_singleton _ _, fun a ha b hb => ?_⟩
        obtain rfl : b = d[m]! := by simpa using hb
        obtain ⟨j, hj, rfl⟩ := (h2 a).1 ha
        by_cases hm0 : m = 0
        · omega
        have hne : d[m]! ≠ d[m - 1]! := by
          intro e
          rw [Lib.keeps_neg (by omega) e] at hk
          cases hk
        refine hs j m hj (by omega) fun e => ?_
        by_cases hjm : j = m - 1
        · subst hjm; exact hne e.symm
        · by_cases e2 : d[j]! = d[m - 1]!
          · exact hne (e.symm.trans e2)
          · have r1 := hs j (m - 1) (by omega) (by omega) e2
            have r2 := hs (m - 1) m (by omega) (by omega) (fun e3 => hne e3.symm)
            rw [← e] at r2
            exact has _ _ r1 r2
      · intro x
        rw [List.mem_append, h2, List.mem_singleton]
        constructor
        · rintro (⟨j, hj, e⟩ | e)
          · exact ⟨j, by omega, e⟩
          · exact ⟨m, by omega, e.symm⟩
        · rintro ⟨j, hj, e⟩
          by_cases hjm : j = m
          · subst hjm; exact .inr e.symm
          · exact .inl ⟨j, by omega, e⟩
    · rw [if_neg hk, List.append_nil]
      refine ⟨h1, fun x => ?_⟩
      rw [h2]
      constructor
      · rintro ⟨j, hj, e⟩; exact ⟨j, by omega, e⟩
      · rintro ⟨j, hj, e⟩
        by_cases hjm : j = m
        · subst hjm
          by_cases hm0 : j = 0
          · subst hm0
            exact absurd (Lib.keeps_lt_one d 0 (by omega)) hk
          · refine ⟨j - 1, by omega, ?_⟩
            rw [← e]
            apply Classical.byContradiction
            intro hne
            exact hk (Lib.keeps_pos fun e2 => hne e2.symm)
        · exact ⟨j, by omega, e⟩
theorem less_split (nm : ByteArray) : ∀ (O : List ByteArray), (∀ x ∈ O.take (lessK O nm), cmpN x nm < 0) ∧ (∀ x, O[lessK O nm]? = some x → ¬ cmpN x nm < 0) := by
  intro O
  induction O with
  | nil => exact ⟨fun x h => by simp at h, fun x h => by simp at h⟩
  | cons a O ih =>
    unfold lessK
    rw [List.takeWhile_cons]
    by_cases h : cmpN a nm < 0
    · rw [if_pos (by simpa using h), List.length_cons]
      refine ⟨fun x hx => ?_, fun x hx => ih.2 x hx⟩
      rw [List.take_succ_cons] at hx
      rcases List.mem_cons.1 hx with rfl | hx
      · exact h
      · exact ih.1 x hx
    · rw [if_neg (by simpa using h)]
      exact ⟨fun x hx => by simp at hx, fun x hx => by
        have e : a = x := by simpa using hx
        subst e; exact h⟩
theorem ins_iff {O : List ByteArray} {nm x : ByteArray} : x ∈ insN O nm ↔ x ∈ O ∨ x = nm := by
  refine ⟨ins_mem, fun h => ?_⟩
  unfold insN
  by_cases hc : O[lessK O nm]? = some nm
  · rw [if_pos hc]
    rcases h with h | rfl
    · exact h
    · exact List.mem_of_getElem? hc
  · rw [if_neg hc, List.mem_append, List.mem_cons]
    rcases h with h | h
    · rw [← List.take_append_drop (lessK O nm) O] at h
      rcases List.mem_append.1 h with h | h
      · exact .inl h
      · exact .inr (.inr h)
    · exact .inr (.inl h)
theorem ins_strict {O : List ByteArray} {nm : ByteArray} (hO : O.Pairwise fun a b => cmpN a b < 0) (hN : ∀ x ∈ O, isN x = true) (hn : isN nm = true) : (insN O nm).Pairwise fun a b => cmpN a b < 0 := by
  unfold insN
  by_cases hc : O[lessK O nm]? = some nm
  · rw [if_pos hc]; exact hO
  · rw [if_neg hc]
    obtain ⟨h1, h2⟩ := less_split nm O
    have hsp := hO
    rw [← List.take_append_drop (lessK O nm) O, List.pairwise_append] at hsp
    have hd : ∀ x ∈ O.drop (lessK O nm), cmpN nm x < 0 := by
      intro x hx
      cases hdr : O.drop (lessK O nm) with
      | nil => rw [hdr] at hx; cases hx
      | cons y Y =>
        have hy : O[lessK O nm]? = some y := by
          have := congrArg (fun l => l[0]?) hdr
          simpa [List.getElem?_drop] using this
        have hyn : cmpN nm y < 0 := by
          have h3 := h2 y hy
          have h4 := cmp_back y nm
          by_cases h0 : cmpN y nm = 0
          · exact absurd (by rw [hy, cmp_eq (hN y (List.mem_of_getElem? hy)) hn h0]) hc
          · omega
        rw [hdr] at hx hsp
        rcases List.mem_cons.1 hx with rfl | hx
        · exact hyn
        · exact cmp_trans hyn ((List.pairwise_cons.1 hsp.2.1).1 x hx)
    rw [List.pairwise_append, List.pairwise_cons]
    refine ⟨hsp.1, ⟨hd, hsp.2.1⟩, fun a ha b hb => ?_⟩
    rcases List.mem_cons.1 hb with rfl | hb
    · exact h1 a ha
    · exact cmp_trans (h1 a ha) (hd b hb)
end Go.Proofs.YtbgbpibfmdkndaaDoor
