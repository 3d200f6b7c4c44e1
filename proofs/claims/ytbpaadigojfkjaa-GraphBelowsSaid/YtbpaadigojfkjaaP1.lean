/- The theory of the heap over a list of numbers: sift up, sift down, the least number. No program in sight. -/
namespace Go.Proofs.Ytbpaadigojfkjaa

def swp (xs : List Nat) (i j : Nat) : List Nat := (xs.set i (xs.getD j 0)).set j (xs.getD i 0)
theorem swp_length (xs : List Nat) (i j : Nat) : (swp xs i j).length = xs.length := by simp [swp]
def upF (lt : Nat → Nat → Bool) : Nat → List Nat → Nat → List Nat
  | 0, xs, _ => xs
  | k + 1, xs, j => if j = 0 then xs else if lt (xs.getD j 0) (xs.getD ((j - 1) / 2) 0) then upF lt k (swp xs ((j - 1) / 2) j) ((j - 1) / 2) else xs
def downF (lt : Nat → Nat → Bool) (n : Nat) : Nat → List Nat → Nat → List Nat
  | 0, xs, _ => xs
  | k + 1, xs, i => if n ≤ 2 * i + 1 then xs else
    if 2 * i + 2 < n ∧ lt (xs.getD (2 * i + 2) 0) (xs.getD (2 * i + 1) 0) = true then
      (if lt (xs.getD (2 * i + 2) 0) (xs.getD i 0) then downF lt n k (swp xs i (2 * i + 2)) (2 * i + 2) else xs)
    else (if lt (xs.getD (2 * i + 1) 0) (xs.getD i 0) then downF lt n k (swp xs i (2 * i + 1)) (2 * i + 1) else xs)

theorem swp_getD (xs : List Nat) (i j k : Nat) (hi : i < xs.length) (hj : j < xs.length) : (swp xs i j).getD k 0 = if k = j then xs.getD i 0 else if k = i then xs.getD j 0 else xs.getD k 0 := by
  unfold swp
  simp only [List.getD_eq_getElem?_getD, List.getElem?_set, List.length_set]
  by_cases h1 : k = j
  · subst h1; simp [hj]
  · by_cases h2 : k = i
    · subst h2; simp [h1, Ne.symm h1, hi]
    · simp [h1, h2, Ne.symm h1, Ne.symm h2]
theorem swp_perm (xs : List Nat) (i j : Nat) (hi : i < xs.length) (hj : j < xs.length) : (swp xs i j).Perm xs := by
  unfold swp
  have e1 : xs.getD j 0 = xs[j] := by simp [List.getD_eq_getElem?_getD, hj]
  have e2 : xs.getD i 0 = xs[i] := by simp [List.getD_eq_getElem?_getD, hi]
  rw [e1, e2]
  by_cases h : i = j
  · subst h; simp
  · rw [List.perm_iff_count]
    intro a
    rw [List.count_set (by simpa using hj), List.count_set hi]
    have e3 : (xs.set i xs[j])[j]'(by simpa using hj) = xs[j] := by rw [List.getElem_set_ne (by omega)]
    rw [e3]
    have c1 : xs[i] = a → 0 < xs.count a := fun e => List.count_pos_iff.2 (e ▸ List.getElem_mem hi)
    have c2 : xs[j] = a → 0 < xs.count a := fun e => List.count_pos_iff.2 (e ▸ List.getElem_mem hj)
    by_cases h1 : xs[i] = a <;> by_cases h2 : xs[j] = a <;> simp [h1, h2] <;> have := c1 <;> have := c2 <;> simp_all <;> omega
theorem swp_mem {xs : List Nat} {i j x : Nat} (hi : i < xs.length) (hj : j < xs.length) (h : x ∈ swp xs i j) : x ∈ xs := (swp_perm xs i j hi hj).mem_iff.1 h

theorem upF_length (lt : Nat → Nat → Bool) (k : Nat) : ∀ (xs : List Nat) (j : Nat), (upF lt k xs j).length = xs.length := by
  induction k with
  | zero => intro xs j; rfl
  | succ k ih =>
    intro xs j
    simp only [upF]
    split
    · rfl
    · split
      · rw [ih, swp_length]
      · rfl
theorem upF_perm (lt : Nat → Nat → Bool) (k : Nat) : ∀ (xs : List Nat) (j : Nat), j < xs.length → (upF lt k xs j).Perm xs := by
  induction k with
  | zero => intro xs j _; exact .refl _
  | succ k ih =>
    intro xs j hj
    simp only [upF]
    split
    · exact .refl _
    · split
      · exact (ih _ _ (by rw [swp_length]; omega)).trans (swp_perm _ _ _ (by omega) hj)
      · exact .refl _
theorem downF_length (lt : Nat → Nat → Bool) (n k : Nat) : ∀ (xs : List Nat) (i : Nat), (downF lt n k xs i).length = xs.length := by
  induction k with
  | zero => intro xs i; rfl
  | succ k ih =>
    intro xs i
    simp only [downF]
    split
    · rfl
    · split <;> split <;> first | rfl | rw [ih, swp_length]
theorem downF_perm (lt : Nat → Nat → Bool) (n k : Nat) : ∀ (xs : List Nat) (i : Nat), n ≤ xs.length → (downF lt n k xs i).Perm xs := by
  induction k with
  | zero => intro xs i _; exact .refl _
  | succ k ih =>
    intro xs i hn
    simp only [downF]
    split
    · exact .refl _
    · split <;> split
      · exact (ih _ _ (by rw [swp_length]; exact hn)).trans (swp_perm _ _ _ (by omega) (by omega))
      · exact .refl _
      · exact (ih _ _ (by rw [swp_length]; exact hn)).trans (swp_perm _ _ _ (by omega) (by omega))
      · exact .refl _
theorem downF_keep (lt : Nat → Nat → Bool) (n k : Nat) : ∀ (xs : List Nat) (i : Nat), n ≤ xs.length → ∀ m, n ≤ m → (downF lt n k xs i).getD m 0 = xs.getD m 0 := by
  induction k with
  | zero => intro xs i _ m _; rfl
  | succ k ih =>
    intro xs i hn m hm
    simp only [downF]
    split
    · rfl
    · split <;> split
      · rw [ih _ _ (by rw [swp_length]; exact hn) m hm, swp_getD _ _ _ _ (by omega) (by omega), if_neg (by omega), if_neg (by omega)]
      · rfl
      · rw [ih _ _ (by rw [swp_length]; exact hn) m hm, swp_getD _ _ _ _ (by omega) (by omega), if_neg (by omega), if_neg (by omega)]
      · rfl

structure SWO (lt : Nat → Nat → Bool) : Prop where
  asym : ∀ a b, lt a b = true → lt b a = false
  ntrans : ∀ a b c, lt a b = false → lt b c = false → lt a c = false
/-- The first n numbers are a heap. -/
def Heap (lt : Nat → Nat → Bool) (n : Nat) (xs : List Nat) : Prop := ∀ i, 0 < i → i < n → lt (xs.getD i 0) (xs.getD ((i - 1) / 2) 0) = false
theorem SWO.irr {lt : Nat → Nat → Bool} (h : SWO lt) (a : Nat) : lt a a = false := by
  cases e : lt a a
  · rfl
  · have := h.asym a a e; rw [e] at this; exact this

theorem up_heap {lt : Nat → Nat → Bool} (hw : SWO lt) (k : Nat) : ∀ (xs : List Nat) (j : Nat), j < xs.length → j < k →
    (∀ i, 0 < i → i < xs.length → i ≠ j → lt (xs.getD i 0) (xs.getD ((i - 1) / 2) 0) = false) →
    (0 < j → ∀ c, 0 < c → c < xs.length → (c - 1) / 2 = j → lt (xs.getD c 0) (xs.getD ((j - 1) / 2) 0) = false) → Heap lt xs.length (upF lt k xs j) := by
  induction k with
  | zero => intro xs j _ h; omega
  | succ k ih =>
    intro xs j hj hk h1 h2
    simp only [upF]
    split
    · rename_i h0; intro i hi hl; exact h1 i hi hl (by omega)
    · rename_i h0
      obtain ⟨p, hp⟩ : ∃ p, (j - 1) / 2 = p := ⟨_, rfl⟩
      rw [hp] at h2 ⊢
      have hpj : p < j := by omega
      split
      · rename_i hlt
        have hg : ∀ m, (swp xs p j).getD m 0 = if m = j then xs.getD p 0 else if m = p then xs.getD j 0 else xs.getD m 0 := fun m => swp_getD xs p j m (by omega) hj
        have := ih (swp xs p j) p (by rw [swp_length]; omega) (by omega) ?_ ?_
        · rwa [swp_length] at this
        · intro i hi hl hne
          rw [swp_length] at hl
          rw [hg, hg]
          by_cases e : i = j
          · subst e
            rw [if_pos rfl, hp, if_neg (by omega), if_pos rfl]
            exact hw.asym _ _ hlt
          · rw [if_neg e, if_neg hne]
            by_cases e2 : (i - 1) / 2 = j
            · rw [if_pos e2]
              exact h2 (by omega) i hi hl e2
            · rw [if_neg e2]
              by_cases e3 : (i - 1) / 2 = p
              · rw [if_pos e3]
                have a := h1 i hi hl e
                rw [e3] at a
                exact hw.ntrans _ _ _ a (hw.asym _ _ hlt)
              · rw [if_neg e3]
                exact h1 i hi hl e
        · intro hp0 c hc hl hcp
          rw [swp_length] at hl
          rw [hg, hg, if_neg (show (p - 1) / 2 ≠ j by omega), if_neg (show (p - 1) / 2 ≠ p by omega)]
          have a := h1 p hp0 (by omega) (by omega)
          by_cases e : c = j
          · rw [if_pos e]; exact a
          · rw [if_neg e, if_neg (by omega)]
            have b := h1 c hc hl e
            rw [hcp] at b
            exact hw.ntrans _ _ _ b a
      · rename_i hlt
        intro i hi hl
        by_cases e : i = j
        · subst e; rw [hp]; simpa using hlt
        · exact h1 i hi hl e

theorem down_heap {lt : Nat → Nat → Bool} (hw : SWO lt) (n : Nat) (k : Nat) : ∀ (xs : List Nat) (i : Nat), n ≤ xs.length → i < xs.length → n ≤ k + i →
    (∀ c, 0 < c → c < n → (c - 1) / 2 ≠ i → lt (xs.getD c 0) (xs.getD ((c - 1) / 2) 0) = false) →
    (0 < i → ∀ c, 0 < c → c < n → (c - 1) / 2 = i → lt (xs.getD c 0) (xs.getD ((i - 1) / 2) 0) = false) → Heap lt n (downF lt n k xs i) := by
  induction k with
  | zero =>
    intro xs i hn hi hk h1 h2 c hc hl
    exact h1 c hc hl (by omega)
  | succ k ih =>
    intro xs i hn hi hk h1 h2
    simp only [downF]
    split
    · rename_i h0; intro c hc hl; exact h1 c hc hl (by omega)
    · rename_i h0
      -- the chosen child
      have key : ∀ j, (j = 2 * i + 1 ∨ j = 2 * i + 2) → j < n → (∀ c, (c = 2 * i + 1 ∨ c = 2 * i + 2) → c < n → lt (xs.getD c 0) (xs.getD j 0) = false) →
          Heap lt n (if lt (xs.getD j 0) (xs.getD i 0) then downF lt n k (swp xs i j) j else xs) := by
        intro j hj hjn hmin
        have hpj : (j - 1) / 2 = i := by omega
        split
        · rename_i hlt
          have hg : ∀ m, (swp xs i j).getD m 0 = if m = j then xs.getD i 0 else if m = i then xs.getD j 0 else xs.getD m 0 := fun m => swp_getD xs i j m hi (by omega)
          refine ih (swp xs i j) j (by rw [swp_length]; exact hn) (by rw [swp_length]; omega) (by omega) ?_ ?_
          · intro c hc hl hne
            rw [hg, hg, if_neg hne]
            by_cases e : (c - 1) / 2 = i
            · rw [if_pos e]
              by_cases e2 : c = j
              · rw [if_pos e2]; exact hw.asym _ _ hlt
              · rw [if_neg e2, if_neg (by omega)]
                exact hmin c (by omega) hl
            · rw [if_neg e]
              by_cases e2 : c = j
              · omega
              · rw [if_neg e2]
                by_cases e3 : c = i
                · rw [if_pos e3, e3]
                  exact h2 (by omega) j (by omega) hjn hpj
                · rw [if_neg e3]
                  exact h1 c hc hl e
          · intro _ c hc hl hcp
            rw [hg, hg, hpj, if_neg (show i ≠ j by omega), if_pos rfl, if_neg (by omega), if_neg (by omega)]
            have := h1 c hc hl (by omega)
            rwa [hcp] at this
        · rename_i hlt
          intro c hc hl
          by_cases e : (c - 1) / 2 = i
          · rw [e]
            exact hw.ntrans _ _ _ (hmin c (by omega) hl) (by simpa using hlt)
          · exact h1 c hc hl e
      split
      · rename_i hc
        refine key (2 * i + 2) (.inr rfl) hc.1 ?_
        rintro c (rfl | rfl) _
        · exact hw.asym _ _ hc.2
        · exact hw.irr _
      · rename_i hc
        refine key (2 * i + 1) (.inl rfl) (by omega) ?_
        rintro c (rfl | rfl) hl
        · exact hw.irr _
        · have : ¬ lt (xs.getD (2 * i + 2) 0) (xs.getD (2 * i + 1) 0) = true := fun h => hc ⟨hl, h⟩
          simpa using this

theorem root_least {lt : Nat → Nat → Bool} (hw : SWO lt) {n : Nat} {xs : List Nat} (h : Heap lt n xs) : ∀ i, i < n → lt (xs.getD i 0) (xs.getD 0 0) = false := by
  intro i
  induction i using Nat.strongRecOn with
  | _ i ih =>
    intro hi
    rcases Nat.eq_zero_or_pos i with e | e
    · subst e; exact hw.irr _
    · exact hw.ntrans _ _ _ (h i e hi) (ih _ (by omega) (by omega))

/-- xs is a heap that holds what L holds. -/
structure HP (lt : Nat → Nat → Bool) (xs L : List Nat) : Prop where
  heap : Heap lt xs.length xs
  perm : xs.Perm L
theorem HP.nil (lt : Nat → Nat → Bool) : HP lt [] [] := ⟨fun i _ h => by simp at h, .refl _⟩
theorem getD_snoc (xs : List Nat) (x i : Nat) (h : i < xs.length) : (xs ++ [x]).getD i 0 = xs.getD i 0 := by simp [List.getD_eq_getElem?_getD, List.getElem?_append, h]
theorem HP.push {lt : Nat → Nat → Bool} (hw : SWO lt) {xs L : List Nat} (h : HP lt xs L) (x : Nat) : HP lt (upF lt (xs.length + 1) (xs ++ [x]) xs.length) (x :: L) := by
  refine ⟨?_, ?_⟩
  · rw [upF_length]
    refine up_heap hw _ _ _ (by simp) (by omega) ?_ ?_
    · intro i hi hl hne
      simp at hl
      rw [getD_snoc _ _ _ (by omega), getD_snoc _ _ _ (by omega)]
      exact h.heap i hi (by omega)
    · intro _ c _ hl hcp
      simp at hl
      omega
  · refine (upF_perm _ _ _ _ (by simp)).trans ?_
    exact (List.perm_append_singleton x xs).trans (h.perm.cons x)
theorem snoc_last {ys : List Nat} {n : Nat} (h : ys.length = n + 1) : ys = ys.take n ++ [ys.getD n 0] := by
  have hd : ys.drop n = [ys.getD n 0] := by
    rw [List.drop_eq_getElem_cons (by omega)]
    have : ys.drop (n + 1) = [] := List.drop_eq_nil_of_le (by omega)
    rw [this]
    simp [List.getD_eq_getElem?_getD, show n < ys.length by omega]
  have := List.take_append_drop n ys
  rw [hd] at this
  exact this.symm
/-- What Pop leaves, and what it answers: the least. -/
theorem HP.pop {lt : Nat → Nat → Bool} (hw : SWO lt) {xs L : List Nat} (h : HP lt xs L) {n : Nat} (hn : xs.length = n + 1) :
    ∃ L', HP lt ((downF lt n (n + 1) (swp xs 0 n) 0).take n) L' ∧ ((downF lt n (n + 1) (swp xs 0 n) 0).getD n 0 :: L').Perm L ∧
      ∀ y ∈ L, lt y ((downF lt n (n + 1) (swp xs 0 n) 0).getD n 0) = false := by
  obtain ⟨ys, hys⟩ : ∃ ys, downF lt n (n + 1) (swp xs 0 n) 0 = ys := ⟨_, rfl⟩
  have hl : ys.length = n + 1 := by rw [← hys, downF_length, swp_length, hn]
  have hx : ys.getD n 0 = xs.getD 0 0 := by
    rw [← hys, downF_keep _ _ _ _ _ (by rw [swp_length]; omega) n (Nat.le_refl _), swp_getD _ _ _ _ (by omega) (by omega), if_pos rfl]
  have hp : ys.Perm xs := by rw [← hys]; exact (downF_perm _ _ _ _ _ (by rw [swp_length]; omega)).trans (swp_perm _ _ _ (by omega) (by omega))
  rw [hys]
  refine ⟨ys.take n, ⟨?_, .refl _⟩, ?_, ?_⟩
  · have hh : Heap lt n ys := by
      rw [← hys]
      refine down_heap hw n (n + 1) _ 0 (by rw [swp_length]; omega) (by rw [swp_length]; omega) (by omega) ?_ (by omega)
      intro c hc hcl hne
      rw [swp_getD _ _ _ _ (by omega) (by omega), swp_getD _ _ _ _ (by omega) (by omega), if_neg (by omega), if_neg (by omega), if_neg (by omega), if_neg hne]
      exact h.heap c hc (by omega)
    intro i hi hil
    have hlt : i < n := by simp at hil; omega
    have e : ∀ m, m < n → (ys.take n).getD m 0 = ys.getD m 0 := fun m hm => by simp [List.getD_eq_getElem?_getD, hm]
    rw [e i hlt, e _ (by omega)]
    exact hh i hi hlt
  · have := snoc_last hl
    have q : (ys.getD n 0 :: ys.take n).Perm ys := by
      conv => rhs; rw [this]
      exact (List.perm_append_singleton _ _).symm
    exact q.trans (hp.trans h.perm)
  · intro y hy
    rw [hx]
    obtain ⟨i, hi, rfl⟩ := List.mem_iff_getElem.1 (h.perm.mem_iff.2 hy)
    have := root_least hw h.heap i hi
    simpa [List.getD_eq_getElem?_getD, hi] using this
end Go.Proofs.Ytbpaadigojfkjaa
