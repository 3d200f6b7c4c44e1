/- What slices.Sort and slices.Compact make of numbers is the rising list of them. No program in sight. -/
import Derived.Lib.SlicesCompact
namespace Go.Proofs.Ytbpaadigojfkjaa

theorem le_of_pairwise {zs : List Int} (hs : zs.Pairwise (· ≤ ·)) {i j : Nat} (hij : i ≤ j) (hj : j < zs.length) : zs[i]! ≤ zs[j]! := by
  rcases Nat.lt_or_ge i j with h | h
  · have := List.pairwise_iff_getElem.1 hs i j (by omega) hj h
    simpa [getElem!_pos zs i (by omega), getElem!_pos zs j hj] using this
  · have : i = j := by omega
    subst this
    exact Int.le_refl _
theorem keeps_iff (zs : List Int) (j : Nat) : Lib.keeps zs.toArray j = true ↔ j = 0 ∨ zs[j]! ≠ zs[j - 1]! := by
  unfold Lib.keeps
  simp
theorem compact_lt {zs : List Int} (hs : zs.Pairwise (· ≤ ·)) : (Lib.compact zs).Pairwise (· < ·) := by
  unfold Lib.compact Lib.compactUpTo
  rw [List.pairwise_map, List.pairwise_filter]
  refine List.Pairwise.imp_of_mem ?_ List.pairwise_lt_range
  intro i j hi hj hij _ hk
  have hjl : j < zs.length := List.mem_range.1 hj
  rw [keeps_iff] at hk
  have h1 := le_of_pairwise hs (show i ≤ j - 1 by omega) (by omega)
  have h2 := le_of_pairwise hs (show j - 1 ≤ j by omega) hjl
  rcases hk with hk | hk
  · omega
  · have : zs[i]! < zs[j]! := by omega
    simpa using this
theorem compact_mem {zs : List Int} {x : Int} : x ∈ Lib.compact zs ↔ x ∈ zs := by
  unfold Lib.compact Lib.compactUpTo
  simp only [List.mem_map, List.mem_filter, List.mem_range]
  constructor
  · rintro ⟨j, ⟨hj, _⟩, rfl⟩
    have : zs.toArray[j]! = zs[j] := by simp [hj]
    rw [this]
    exact List.getElem_mem hj
  · intro hx
    obtain ⟨j, hj, he⟩ := List.mem_iff_getElem.1 hx
    induction j using Nat.strongRecOn with
    | _ j ih =>
      by_cases hk : Lib.keeps zs.toArray j = true
      · exact ⟨j, ⟨hj, hk⟩, by simp [hj, he]⟩
      · rw [keeps_iff] at hk
        have h0 : j ≠ 0 := fun h => hk (.inl h)
        have h1 : zs[j]! = zs[j - 1]! := Classical.byContradiction fun h => hk (.inr h)
        refine ih (j - 1) (by omega) (by omega) ?_
        rw [← he, ← getElem!_pos zs j hj, h1, getElem!_pos zs (j - 1) (by omega)]
theorem lt_ext : ∀ {l1 l2 : List Int}, l1.Pairwise (· < ·) → l2.Pairwise (· < ·) → (∀ x, x ∈ l1 ↔ x ∈ l2) → l1 = l2
  | [], [], _, _, _ => rfl
  | [], b :: l2, _, _, h => by have := (h b).2 (by simp); simp at this
  | a :: l1, [], _, _, h => by have := (h a).1 (by simp); simp at this
  | a :: l1, b :: l2, h1, h2, h => by
    rw [List.pairwise_cons] at h1 h2
    have e : a = b := by
      have ha := (h a).1 (by simp)
      have hb := (h b).2 (by simp)
      rcases List.mem_cons.1 ha with e | ha
      · exact e
      · rcases List.mem_cons.1 hb with e | hb
        · exact e.symm
        · have := h1.1 _ hb
          have := h2.1 _ ha
          omega
    subst e
    rw [lt_ext h1.2 h2.2 (fun x => ?_)]
    have := h x
    constructor
    · intro hx
      rcases List.mem_cons.1 (this.1 (List.mem_cons_of_mem _ hx)) with e | h3
      · subst e; have := h1.1 _ hx; omega
      · exact h3
    · intro hx
      rcases List.mem_cons.1 (this.2 (List.mem_cons_of_mem _ hx)) with e | h3
      · subst e; have := h2.1 _ hx; omega
      · exact h3
theorem sorted_ms (zs : List Int) : (zs.mergeSort fun x y => decide (x ≤ y)).Pairwise (· ≤ ·) := by
  have := List.pairwise_mergeSort (le := fun x y : Int => decide (x ≤ y)) (fun a b c h1 h2 => by simp at *; omega) (fun a b => by simp; omega) zs
  exact this.imp (fun h => by simpa using h)
/-- The rising list. -/
theorem row_eq (zs : List Int) (n : Nat) (P : Nat → Bool) (h : ∀ x : Int, x ∈ zs ↔ ∃ j, j < n ∧ P j = true ∧ x = (j : Int)) :
    Lib.compact (zs.mergeSort fun x y => decide (x ≤ y)) = ((List.range n).filter P).map fun j : Nat => (j : Int) := by
  refine lt_ext (compact_lt (sorted_ms zs)) ?_ ?_
  · rw [List.pairwise_map]
    exact (List.Pairwise.filter _ List.pairwise_lt_range).imp (fun h => by omega)
  · intro x
    rw [compact_mem, List.mem_mergeSort, h]
    simp only [List.mem_map, List.mem_filter, List.mem_range]
    constructor
    · rintro ⟨j, h1, h2, rfl⟩; exact ⟨j, ⟨h1, h2⟩, rfl⟩
    · rintro ⟨j, ⟨h1, h2⟩, rfl⟩; exact ⟨j, h1, h2, rfl⟩
end Go.Proofs.Ytbpaadigojfkjaa
