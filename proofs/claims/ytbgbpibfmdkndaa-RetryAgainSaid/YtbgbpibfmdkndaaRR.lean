/- Plain: the program's state and the document's say the same. -/
import Derived.Test.YtbgbpibfmdkndaaRQ
set_option linter.unusedVariables false
set_option linter.unusedSimpArgs false
set_option linter.unnecessarySimpa false
set_option maxRecDepth 100000
namespace Go.Proofs.Ytbgbpibfmdkndaa
def fM (y : Wt) : Option Int := if y.is then some y.tries else none
def fL (y : Wt) : Option Int := if y.is then some y.again else none
def fK (y : Wt) : Option Int := if y.is && !y.told then some y.late else none
/-- a list of pairs says what the waits say -/
def Rep (W : List Wt) (f : Wt → Option Int) (X : List (Int × Int)) : Prop := ∀ (id v : Int), (id, v) ∈ X ↔ ∃ n : Nat, id = (n : Int) ∧ n < 61 ∧ f (atW W n) = some v
theorem atW_set {W : List Wt} {i n : Nat} {y : Wt} (h : i < W.length) : atW (W.set i y) n = if n = i then y else atW W n := by
  unfold atW
  rw [List.getD_eq_getElem?_getD, List.getD_eq_getElem?_getD]
  by_cases hn : n = i
  · subst hn; rw [if_pos rfl, List.getElem?_set_self h]; rfl
  · rw [if_neg hn, List.getElem?_set_ne (Ne.symm hn)]
structure Cpl (W : List Wt) (L K : List Tm) (M : List Ent) : Prop where
  len : W.length = 61
  zero : (atW W 0).is = false
  nM : (M.map Prod.fst).Nodup
  nL : Keys L
  nK : Keys K
  sL : Srt L
  sK : Srt K
  inM : Rep W fM M
  inL : Rep W fL L
  inK : Rep W fK K
theorem Rep.put {W : List Wt} {f : Wt → Option Int} {X X' : List (Int × Int)} {i : Nat} {y : Wt} {a : Int} (h : Rep W f X) (hW : W.length = 61) (hi : i < 61) (hy : f y = some a)
    (hx : ∀ id v, (id, v) ∈ X' ↔ (id = (i : Int) ∧ v = a) ∨ (id ≠ (i : Int) ∧ (id, v) ∈ X)) : Rep (W.set i y) f X' := by
  intro id v
  rw [hx, h id v]
  constructor
  · rintro (⟨rfl, rfl⟩ | ⟨hn, n, rfl, hn6, hf⟩)
    · exact ⟨i, rfl, hi, by rw [atW_set (by omega), if_pos rfl, hy]⟩
    · exact ⟨n, rfl, hn6, by rw [atW_set (by omega), if_neg (fun e => hn (by rw [e])), hf]⟩
  · rintro ⟨n, rfl, hn6, hf⟩
    rw [atW_set (by omega)] at hf
    by_cases hni : n = i
    · subst hni
      rw [if_pos rfl, hy] at hf
      injection hf with hf
      exact .inl ⟨rfl, hf.symm⟩
    · rw [if_neg hni] at hf
      exact .inr ⟨fun e => hni (by omega), n, rfl, hn6, hf⟩
theorem Rep.del {W : List Wt} {f : Wt → Option Int} {X X' : List (Int × Int)} {i : Nat} {y : Wt} (h : Rep W f X) (hW : W.length = 61) (hi : i < 61) (hy : f y = none)
    (hx : ∀ id v, (id, v) ∈ X' ↔ id ≠ (i : Int) ∧ (id, v) ∈ X) : Rep (W.set i y) f X' := by
  intro id v
  rw [hx, h id v]
  constructor
  · rintro ⟨hn, n, rfl, hn6, hf⟩
    exact ⟨n, rfl, hn6, by rw [atW_set (by omega), if_neg (fun e => hn (by rw [e])), hf]⟩
  · rintro ⟨n, rfl, hn6, hf⟩
    rw [atW_set (by omega)] at hf
    by_cases hni : n = i
    · subst hni
      rw [if_pos rfl, hy] at hf
      cases hf
    · rw [if_neg hni] at hf
      exact ⟨fun e => hni (by omega), n, rfl, hn6, hf⟩
theorem Rep.keep {W : List Wt} {f : Wt → Option Int} {X : List (Int × Int)} {i : Nat} {y : Wt} (h : Rep W f X) (hW : W.length = 61) (hi : i < 61) (hy : f y = f (atW W i)) : Rep (W.set i y) f X := by
  intro id v
  rw [h id v]
  refine exists_congr fun n => and_congr_right fun _ => and_congr_right fun _ => ?_
  rw [atW_set (by omega)]
  by_cases hni : n = i
  · subst hni; rw [if_pos rfl, hy]
  · rw [if_neg hni]
theorem nodup_len : ∀ (n : Nat) (l : List Int), l.Nodup → (∀ x ∈ l, 0 ≤ x ∧ x < (n : Int)) → l.length ≤ n
  | 0, l, _, h => by
    cases l with
    | nil => exact Nat.le_refl _
    | cons x l => have := h x (by simp); omega
  | n + 1, l, hn, h => by
    have hs := nodup_len n (l.filter fun x => decide (x ≠ (n : Int))) (hn.sublist List.filter_sublist) (fun x hx => by
      obtain ⟨h1, h2⟩ := List.mem_filter.1 hx
      have h3 := h x h1
      have h4 : x ≠ (n : Int) := by simpa using h2
      omega)
    have hc : ∀ l : List Int, l.Nodup → l.length ≤ (l.filter fun x => decide (x ≠ (n : Int))).length + 1 := by
      intro l
      induction l with
      | nil => intro _; simp
      | cons x l ih =>
        intro hn
        obtain ⟨h1, h2⟩ := List.nodup_cons.1 hn
        by_cases hx : x = (n : Int)
        · rw [List.filter_cons_of_neg (by simpa using hx), List.filter_eq_self.2 (fun y hy => by
            have : y ≠ (n : Int) := fun e => h1 (by rw [hx, ← e]; exact hy)
            simpa using this)]
          simp
        · rw [List.filter_cons_of_pos (by simpa using hx), List.length_cons, List.length_cons]
          have := ih h2
          omega
    have := hc l hn
    omega
theorem Rep.short {W : List Wt} {f : Wt → Option Int} {X : List (Int × Int)} (h : Rep W f X) (hn : (X.map Prod.fst).Nodup) : X.length ≤ 61 := by
  have := nodup_len 61 (X.map Prod.fst) hn (fun x hx => by
    obtain ⟨⟨a, b⟩, hm, rfl⟩ := List.mem_map.1 hx
    obtain ⟨n, e, hn6, _⟩ := (h a b).1 hm
    show 0 ≤ a ∧ a < _
    omega)
  rwa [List.length_map] at this
section
variable {W : List Wt} {L K : List Tm} {M : List Ent}
theorem Cpl.shortL (h : Cpl W L K M) : L.length ≤ 61 := h.inL.short h.nL
theorem Cpl.shortK (h : Cpl W L K M) : K.length ≤ 61 := h.inK.short h.nK
theorem Cpl.has (h : Cpl W L K M) (id : Int) : hasE M id = waitsB W id := by
  have e : hasE M id = true ↔ waitsB W id = true := by
    rw [hasE_iff, List.mem_map]
    unfold waitsB
    rw [Bool.and_eq_true, decide_eq_true_eq]
    constructor
    · rintro ⟨⟨a, b⟩, hm, rfl⟩
      obtain ⟨n, e, hn, hf⟩ := (h.inM a b).1 hm
      subst e
      have his : (atW W n).is = true := by
        unfold fM at hf
        cases hb : (atW W n).is with
        | true => rfl
        | false => rw [hb] at hf; simp at hf
      have h0 : n ≠ 0 := fun e => by rw [e, h.zero] at his; cases his
      show (1 ≤ (n : Int) ∧ (n : Int) ≤ 60) ∧ (atW W (n : Int).toNat).is = true
      rw [Int.toNat_natCast]
      exact ⟨⟨by omega, by omega⟩, his⟩
    · rintro ⟨h1, h2⟩
      obtain ⟨n, rfl⟩ : ∃ n : Nat, id = (n : Int) := ⟨id.toNat, by omega⟩
      rw [Int.toNat_natCast] at h2
      exact ⟨(n, (atW W n).tries), (h.inM _ _).2 ⟨n, rfl, by omega, by unfold fM; rw [if_pos h2]⟩, rfl⟩
  cases ha : hasE M id <;> cases hb : waitsB W id <;> simp_all
theorem Cpl.val (h : Cpl W L K M) {n : Nat} (hn : n < 61) (hi : (atW W n).is = true) : valE M n = (atW W n).tries :=
  val_memI h.nM ((h.inM _ _).2 ⟨n, rfl, hn, by unfold fM; rw [if_pos hi]⟩)
theorem setW_len {i : Nat} {y : Wt} (h : W.length = 61) : (W.set i y).length = 61 := by rw [List.length_set]; exact h
theorem Cpl.begin (h : Cpl W L K M) {i : Nat} (h1 : 1 ≤ i) (h6 : i ≤ 60) {a l : Int} (ha : 0 ≤ a ∧ a ≤ 1073741824) (hl : 0 ≤ l ∧ l ≤ 1073741824) :
    Cpl (W.set i ⟨true, 0, a, l, false⟩) (setL L i a) (setL K i l) (putE M i 0) := by
  have q1 := h.shortL
  have q2 := h.shortK
  have va : 0 ≤ (i : Int) ∧ 0 ≤ a ∧ a ≤ 1073741824 := ⟨by omega, ha.1, ha.2⟩
  have vl : 0 ≤ (i : Int) ∧ 0 ≤ l ∧ l ≤ 1073741824 := ⟨by omega, hl.1, hl.2⟩
  refine ⟨setW_len h.len, ?_, put_nodup h.nM _ _, set_keys va (by omega) h.nL, set_keys vl (by omega) h.nK, set_sorted va (by omega) h.sL, set_sorted vl (by omega) h.sK, ?_, ?_, ?_⟩
  · rw [atW_set (by rw [h.len]; omega), if_neg (by omega)]; exact h.zero
  · exact h.inM.put h.len (by omega) rfl fun id v => put_mem h.nM
  · refine h.inL.put h.len (by omega) rfl fun id v => ?_
    rw [set_mem va (by omega) h.nL]
    simp only [Prod.mk.injEq]
    exact or_congr_right and_comm
  · refine h.inK.put h.len (by omega) rfl fun id v => ?_
    rw [set_mem vl (by omega) h.nK]
    simp only [Prod.mk.injEq]
    exact or_congr_right and_comm
theorem Cpl.moved (h : Cpl W L K M) {i : Nat} (h1 : 1 ≤ i) (h6 : i ≤ 60) (hi : (atW W i).is = true) {a : Int} (ha : 0 ≤ a ∧ a ≤ 1073741824) :
    Cpl (W.set i { atW W i with tries := 0, again := a }) (setL L i a) K (putE M i 0) := by
  have q1 := h.shortL
  have va : 0 ≤ (i : Int) ∧ 0 ≤ a ∧ a ≤ 1073741824 := ⟨by omega, ha.1, ha.2⟩
  refine ⟨setW_len h.len, ?_, put_nodup h.nM _ _, set_keys va (by omega) h.nL, h.nK, set_sorted va (by omega) h.sL, h.sK, ?_, ?_, ?_⟩
  · rw [atW_set (by rw [h.len]; omega), if_neg (by omega)]; exact h.zero
  · exact h.inM.put h.len (by omega) (by unfold fM; rw [if_pos hi]) fun id v => put_mem h.nM
  · refine h.inL.put h.len (by omega) (by unfold fL; rw [if_pos hi]) fun id v => ?_
    rw [set_mem va (by omega) h.nL]
    simp only [Prod.mk.injEq]
    exact or_congr_right and_comm
  · exact h.inK.keep h.len (by omega) rfl
theorem Cpl.stop (h : Cpl W L K M) {i : Nat} (h1 : 1 ≤ i) (h6 : i ≤ 60) : Cpl (W.set i zW) (stopL L i) (stopL K i) (M.filter fun m => decide (m.1 ≠ (i : Int))) := by
  refine ⟨setW_len h.len, ?_, h.nM.sublist (List.filter_sublist.map _), h.nL.sub (stop_sub _ _), h.nK.sub (stop_sub _ _), h.sL.sublist (stop_sub _ _), h.sK.sublist (stop_sub _ _), ?_, ?_, ?_⟩
  · rw [atW_set (by rw [h.len]; omega), if_neg (by omega)]; exact h.zero
  · refine h.inM.del h.len (by omega) rfl fun id v => ?_
    rw [List.mem_filter]
    simp [and_comm]
  · refine h.inL.del h.len (by omega) rfl fun id v => ?_
    rw [stop_mem h.nL]
    exact and_comm
  · refine h.inK.del h.len (by omega) rfl fun id v => ?_
    rw [stop_mem h.nK]
    exact and_comm
theorem Cpl.start : Cpl noneW [] [] [] := by
  have hz : ∀ n, atW noneW n = zW := fun n => by
    unfold atW noneW
    rw [List.getD_eq_getElem?_getD, List.getElem?_replicate]
    split <;> rfl
  have hr : ∀ f : Wt → Option Int, f zW = none → Rep noneW f [] := fun f hf id v => by
    constructor
    · intro h; cases h
    · rintro ⟨n, _, _, h⟩
      rw [hz, hf] at h
      cases h
  exact ⟨List.length_replicate, by rw [hz]; rfl, List.nodup_nil, List.nodup_nil, List.nodup_nil, .nil, .nil, hr _ rfl, hr _ rfl, hr _ rfl⟩
/-! Due -/
theorem due1_no {t : List Int} {now : Int} {y : Wt} (h : y.is = false) : due1 t now y = y := by
  unfold due1 agW isLt isAg
  simp [h]
theorem dueK_all {t : List Int} {now : Int} (hW : W.length = 61) : ∀ k, k ≤ 60 → ∀ n, 1 ≤ n → n ≤ k → atW (dueK t now W k) n = due1 t now (atW W n)
  | 0, _, n, h1, h2 => by omega
  | k + 1, hk, n, h1, h2 => by
    show atW ((dueK t now W k).set (k + 1) _) n = _
    rw [atW_set (by rw [dueK_len, hW]; omega)]
    by_cases hn : n = k + 1
    · subst hn; rw [if_pos rfl]
    · rw [if_neg hn]
      exact dueK_all hW k (by omega) n h1 (by omega)
theorem dueK_zero {t : List Int} {now : Int} (hW : W.length = 61) : ∀ k, k ≤ 60 → atW (dueK t now W k) 0 = atW W 0
  | 0, _ => rfl
  | k + 1, hk => by
    show atW ((dueK t now W k).set (k + 1) _) 0 = _
    rw [atW_set (by rw [dueK_len, hW]; omega), if_neg (by omega)]
    exact dueK_zero hW k (by omega)
theorem dueK_at60 {t : List Int} {now : Int} (hW : W.length = 61) (h0 : (atW W 0).is = false) {n : Nat} (hn : n < 61) : atW (dueK t now W 60) n = due1 t now (atW W n) := by
  cases n with
  | zero => rw [dueK_zero hW 60 (Nat.le_refl _), due1_no h0]
  | succ n => exact dueK_all hW 60 (Nat.le_refl _) (n + 1) (by omega) (by omega)
theorem agK_mem {now : Int} {x : Int} : ∀ {k : Nat}, x ∈ agK W now k ↔ ∃ n : Nat, x = (n : Int) ∧ 1 ≤ n ∧ n ≤ k ∧ isAg now (atW W n) = true
  | 0 => by
    constructor
    · intro h; cases h
    · rintro ⟨n, _, h1, h2, _⟩; omega
  | k + 1 => by
    unfold agK
    rw [List.mem_append, agK_mem (k := k)]
    constructor
    · rintro (⟨n, h1, h2, h3, h4⟩ | h)
      · exact ⟨n, h1, h2, by omega, h4⟩
      · split at h
        · rename_i hg
          simp at h
          exact ⟨k + 1, by omega, by omega, Nat.le_refl _, hg⟩
        · cases h
    · rintro ⟨n, h1, h2, h3, h4⟩
      by_cases hn : n = k + 1
      · subst hn
        right
        rw [if_pos h4]
        simp; omega
      · exact .inl ⟨n, h1, h2, by omega, h4⟩
theorem ltK_mem {now : Int} {x : Int} : ∀ {k : Nat}, x ∈ ltK W now k ↔ ∃ n : Nat, x = (n : Int) ∧ 1 ≤ n ∧ n ≤ k ∧ isLt now (atW W n) = true
  | 0 => by
    constructor
    · intro h; cases h
    · rintro ⟨n, _, h1, h2, _⟩; omega
  | k + 1 => by
    unfold ltK
    rw [List.mem_append, ltK_mem (k := k)]
    constructor
    · rintro (⟨n, h1, h2, h3, h4⟩ | h)
      · exact ⟨n, h1, h2, by omega, h4⟩
      · split at h
        · rename_i hg
          simp at h
          exact ⟨k + 1, by omega, by omega, Nat.le_refl _, hg⟩
        · cases h
    · rintro ⟨n, h1, h2, h3, h4⟩
      by_cases hn : n = k + 1
      · subst hn
        right
        rw [if_pos h4]
        simp; omega
      · exact .inl ⟨n, h1, h2, by omega, h4⟩
theorem agK_up {now : Int} : ∀ k, (agK W now k).Pairwise (· < ·)
  | 0 => .nil
  | k + 1 => by
    unfold agK
    refine List.pairwise_append.2 ⟨agK_up k, ?_, fun a ha b hb => ?_⟩
    · split
      · exact List.pairwise_singleton _ _
      · exact .nil
    · obtain ⟨n, h1, _, h3, _⟩ := agK_mem.1 ha
      split at hb
      · simp at hb; omega
      · cases hb
theorem ltK_up {now : Int} : ∀ k, (ltK W now k).Pairwise (· < ·)
  | 0 => .nil
  | k + 1 => by
    unfold ltK
    refine List.pairwise_append.2 ⟨ltK_up k, ?_, fun a ha b hb => ?_⟩
    · split
      · exact List.pairwise_singleton _ _
      · exact .nil
    · obtain ⟨n, h1, _, h3, _⟩ := ltK_mem.1 ha
      split at hb
      · simp at hb; omega
      · cases hb
theorem rise_unique : ∀ A B : List Int, A.Pairwise (· < ·) → B.Pairwise (· < ·) → (∀ x, x ∈ A ↔ x ∈ B) → A = B
  | [], [], _, _, _ => rfl
  | [], b :: B, _, _, h => by have := (h b).2 (by simp); cases this
  | a :: A, [], _, _, h => by have := (h a).1 (by simp); cases this
  | a :: A, b :: B, hA, hB, h => by
    obtain ⟨a1, a2⟩ := List.pairwise_cons.1 hA
    obtain ⟨b1, b2⟩ := List.pairwise_cons.1 hB
    have e : a = b := by
      rcases List.mem_cons.1 ((h a).1 (by simp)) with e | e
      · exact e
      · have h1 := b1 a e
        rcases List.mem_cons.1 ((h b).2 (by simp)) with e2 | e2
        · exact e2.symm
        · have := a1 b e2; omega
    subst e
    rw [rise_unique A B a2 b2 fun x => ?_]
    constructor
    · intro hx
      rcases List.mem_cons.1 ((h x).1 (List.mem_cons_of_mem _ hx)) with rfl | hx2
      · have := a1 x hx; omega
      · exact hx2
    · intro hx
      rcases List.mem_cons.1 ((h x).2 (List.mem_cons_of_mem _ hx)) with rfl | hx2
      · have := b1 x hx; omega
      · exact hx2
theorem sortI_perm (l : List Int) : (sortI l).Perm l := List.mergeSort_perm _ _
theorem sortI_up {l : List Int} (h : l.Nodup) : (sortI l).Pairwise (· < ·) := by
  have h1 : (sortI l).Pairwise fun a b => decide (a ≤ b) = true := List.pairwise_mergeSort (fun a b c h1 h2 => by simp at *; omega) (fun a b => by simp; omega) l
  have h2 : (sortI l).Pairwise (· ≠ ·) := (sortI_perm l).nodup_iff.2 h
  refine (h1.and h2).imp ?_
  rintro a b ⟨h3, h4⟩
  have := of_decide_eq_true h3
  omega
theorem dueIds_mem {X : List Tm} {now x : Int} (hs : Srt X) : x ∈ dueIds X now ↔ ∃ v, (x, v) ∈ X ∧ v ≤ now := by
  unfold dueIds
  rw [List.mem_map]
  constructor
  · rintro ⟨⟨a, b⟩, h, rfl⟩
    exact ⟨b, (due_take hs).1 h⟩
  · rintro ⟨v, h1, h2⟩
    exact ⟨(x, v), (due_take hs).2 ⟨h1, h2⟩, rfl⟩
theorem dueIds_nodup {X : List Tm} {now : Int} (hn : Keys X) : (dueIds X now).Nodup := hn.sublist ((List.take_sublist _ _).map _)
theorem isAg_iff {now : Int} {y : Wt} : isAg now y = true ↔ ∃ v, fL y = some v ∧ v ≤ now := by
  unfold isAg fL
  cases y.is <;> simp
theorem isLt_iff {now : Int} {y : Wt} : isLt now y = true ↔ ∃ v, fK y = some v ∧ v ≤ now := by
  unfold isLt fK
  cases y.is <;> cases y.told <;> simp
theorem Cpl.ag (h : Cpl W L K M) (now : Int) : agK W now 60 = sortI (dueIds L now) := by
  refine rise_unique _ _ (agK_up 60) (sortI_up (dueIds_nodup h.nL)) fun x => ?_
  rw [agK_mem, (sortI_perm _).mem_iff, dueIds_mem h.sL]
  constructor
  · rintro ⟨n, rfl, h1, h2, h3⟩
    obtain ⟨v, h4, h5⟩ := isAg_iff.1 h3
    exact ⟨v, (h.inL _ _).2 ⟨n, rfl, by omega, h4⟩, h5⟩
  · rintro ⟨v, h1, h2⟩
    obtain ⟨n, rfl, hn, hf⟩ := (h.inL _ _).1 h1
    refine ⟨n, rfl, ?_, by omega, isAg_iff.2 ⟨v, hf, h2⟩⟩
    rcases Nat.eq_zero_or_pos n with rfl | hp
    · unfold fL at hf; rw [h.zero] at hf; simp at hf
    · exact hp
theorem Cpl.lt (h : Cpl W L K M) (now : Int) : ltK W now 60 = sortI (dueIds K now) := by
  refine rise_unique _ _ (ltK_up 60) (sortI_up (dueIds_nodup h.nK)) fun x => ?_
  rw [ltK_mem, (sortI_perm _).mem_iff, dueIds_mem h.sK]
  constructor
  · rintro ⟨n, rfl, h1, h2, h3⟩
    obtain ⟨v, h4, h5⟩ := isLt_iff.1 h3
    exact ⟨v, (h.inK _ _).2 ⟨n, rfl, by omega, h4⟩, h5⟩
  · rintro ⟨v, h1, h2⟩
    obtain ⟨n, rfl, hn, hf⟩ := (h.inK _ _).1 h1
    refine ⟨n, rfl, ?_, by omega, isLt_iff.2 ⟨v, hf, h2⟩⟩
    rcases Nat.eq_zero_or_pos n with rfl | hp
    · unfold fK at hf; rw [h.zero] at hf; simp at hf
    · exact hp
theorem fM_due (t : List Int) (now : Int) (y : Wt) : fM (due1 t now y) = if isAg now y then some (y.tries + 1) else fM y := by
  obtain ⟨a, b, c, d, e⟩ := y
  unfold due1 agW
  by_cases h1 : isAg now ⟨a, b, c, d, e⟩ = true <;> by_cases h2 : isLt now ⟨a, b, c, d, e⟩ = true <;> simp [h1, h2, fM]
  all_goals (unfold isAg at h1; simp at h1; simp [h1.1])
theorem fL_due (t : List Int) (now : Int) (y : Wt) : fL (due1 t now y) = if isAg now y then some (laterV now (delayV t (y.tries + 1))) else fL y := by
  obtain ⟨a, b, c, d, e⟩ := y
  unfold due1 agW
  by_cases h1 : isAg now ⟨a, b, c, d, e⟩ = true <;> by_cases h2 : isLt now ⟨a, b, c, d, e⟩ = true <;> simp [h1, h2, fL]
  all_goals (unfold isAg at h1; simp at h1; simp [h1.1])
theorem fK_due (t : List Int) (now : Int) (y : Wt) : fK (due1 t now y) = if isLt now y then none else fK y := by
  obtain ⟨a, b, c, d, e⟩ := y
  unfold due1 agW
  by_cases h1 : isAg now ⟨a, b, c, d, e⟩ = true <;> by_cases h2 : isLt now ⟨a, b, c, d, e⟩ = true <;> simp [h1, h2, fK]
theorem Cpl.due (h : Cpl W L K M) {t : List Int} {now : Int} (ht : 0 ≤ now ∧ now ≤ 1073741824) (hm : mayB t = true) :
    Cpl (dueK t now W 60) (againS t now (sortI (dueIds L now)) (L.drop (dueN L now), M)).1 (K.drop (dueN K now)) (againS t now (sortI (dueIds L now)) (L.drop (dueN L now), M)).2 := by
  have q1 := h.shortL
  have hlen := sortI_len (dueIds L now)
  have hdl := due_len L now
  have hdn : dueN L now ≤ L.length := first_le L (isLate now)
  have hag : ∀ id, id ∈ sortI (dueIds L now) ↔ ∃ n : Nat, id = (n : Int) ∧ 1 ≤ n ∧ n ≤ 60 ∧ isAg now (atW W n) = true := fun id => by rw [← h.ag now]; exact agK_mem
  obtain ⟨a, b, c, d, e⟩ := again_mem ht hm (sortI (dueIds L now)) (L.drop (dueN L now), M) ((sortI_perm _).nodup_iff.2 (dueIds_nodup h.nL)) (fun x hx => by obtain ⟨n, e, _⟩ := (hag x).1 hx; omega)
    (by show (L.drop (dueN L now)).length + _ < _; rw [List.length_drop]; omega) (h.nL.sub (List.drop_sublist _ _)) (h.sL.sublist (List.drop_sublist _ _)) h.nM
  have his : ∀ {n : Nat}, isAg now (atW W n) = true → (atW W n).is = true := fun hg => by unfold isAg at hg; simp at hg; exact hg.1
  have hn0 : ∀ {n : Nat}, (atW W n).is = true → 1 ≤ n := fun hi => by
    rename_i n
    rcases Nat.eq_zero_or_pos n with rfl | hp
    · rw [h.zero] at hi; cases hi
    · exact hp
  refine ⟨by rw [dueK_len]; exact h.len, by rw [dueK_zero h.len 60 (Nat.le_refl _)]; exact h.zero, c, a, h.nK.sub (List.drop_sublist _ _), b, h.sK.sublist (List.drop_sublist _ _), fun id v => ?_, fun id v => ?_, fun id v => ?_⟩
  · rw [d, hag]
    constructor
    · rintro (⟨⟨n, rfl, h1, h2, h3⟩, hv⟩ | ⟨h1, h2⟩)
      · refine ⟨n, rfl, by omega, ?_⟩
        rw [dueK_at60 h.len h.zero (by omega), fM_due, if_pos h3, hv]
        show some _ = some (valE M n + 1)
        rw [h.val (by omega) (his h3)]
      · obtain ⟨n, rfl, hn, hf⟩ := (h.inM _ _).1 h2
        refine ⟨n, rfl, hn, ?_⟩
        have hi : (atW W n).is = true := by
          unfold fM at hf
          cases hb : (atW W n).is with
          | true => rfl
          | false => rw [hb] at hf; simp at hf
        rw [dueK_at60 h.len h.zero hn, fM_due, if_neg (fun g => h1 ⟨n, rfl, hn0 hi, by omega, g⟩), hf]
    · rintro ⟨n, rfl, hn, hf⟩
      rw [dueK_at60 h.len h.zero hn, fM_due] at hf
      by_cases hg : isAg now (atW W n) = true
      · rw [if_pos hg] at hf
        injection hf with hf
        refine .inl ⟨⟨n, rfl, hn0 (his hg), by omega, hg⟩, ?_⟩
        rw [← hf]
        show _ = valE M n + 1
        rw [h.val hn (his hg)]
      · rw [if_neg hg] at hf
        refine .inr ⟨?_, (h.inM _ _).2 ⟨n, rfl, hn, hf⟩⟩
        rintro ⟨m, e, _, _, hm2⟩
        obtain rfl : n = m := by omega
        exact hg hm2
  · rw [e, hag, due_drop h.sL h.nL]
    constructor
    · rintro (⟨⟨n, rfl, h1, h2, h3⟩, hv⟩ | ⟨h1, h2, h3⟩)
      · refine ⟨n, rfl, by omega, ?_⟩
        rw [dueK_at60 h.len h.zero (by omega), fL_due, if_pos h3, hv]
        show some _ = some (laterV now (delayV t (valE M n + 1)))
        rw [h.val (by omega) (his h3)]
      · obtain ⟨n, rfl, hn, hf⟩ := (h.inL _ _).1 h2
        refine ⟨n, rfl, hn, ?_⟩
        have hi : (atW W n).is = true := by
          unfold fL at hf
          cases hb : (atW W n).is with
          | true => rfl
          | false => rw [hb] at hf; simp at hf
        rw [dueK_at60 h.len h.zero hn, fL_due, if_neg (fun g => h1 ⟨n, rfl, hn0 hi, by omega, g⟩), hf]
    · rintro ⟨n, rfl, hn, hf⟩
      rw [dueK_at60 h.len h.zero hn, fL_due] at hf
      by_cases hg : isAg now (atW W n) = true
      · rw [if_pos hg] at hf
        injection hf with hf
        refine .inl ⟨⟨n, rfl, hn0 (his hg), by omega, hg⟩, ?_⟩
        rw [← hf]
        show _ = laterV now (delayV t (valE M n + 1))
        rw [h.val hn (his hg)]
      · rw [if_neg hg] at hf
        refine .inr ⟨?_, (h.inL _ _).2 ⟨n, rfl, hn, hf⟩, ?_⟩
        · rintro ⟨m, e, _, _, hm2⟩
          obtain rfl : n = m := by omega
          exact hg hm2
        · have hnot : ¬ v ≤ now := fun g => hg (isAg_iff.2 ⟨v, hf, g⟩)
          show now < v
          omega
  · rw [due_drop h.sK h.nK]
    constructor
    · rintro ⟨h1, h2⟩
      obtain ⟨n, rfl, hn, hf⟩ := (h.inK _ _).1 h1
      refine ⟨n, rfl, hn, ?_⟩
      have hnl : ¬ isLt now (atW W n) = true := fun g => by
        obtain ⟨v2, e2, hv2⟩ := isLt_iff.1 g
        rw [hf] at e2
        injection e2 with e2
        have h2' : now < v := h2
        omega
      rw [dueK_at60 h.len h.zero hn, fK_due, if_neg hnl, hf]
    · rintro ⟨n, rfl, hn, hf⟩
      rw [dueK_at60 h.len h.zero hn, fK_due] at hf
      by_cases hg : isLt now (atW W n) = true
      · rw [if_pos hg] at hf; cases hf
      · rw [if_neg hg] at hf
        refine ⟨(h.inK _ _).2 ⟨n, rfl, hn, hf⟩, ?_⟩
        have hnot : ¬ v ≤ now := fun g => hg (isLt_iff.2 ⟨v, hf, g⟩)
        show now < v
        omega
end
end Go.Proofs.Ytbgbpibfmdkndaa
