/- The reference's order is the same order (pure). -/
import Derived.Test.YtbpaadigojfkjaaP6
namespace Go.Proofs.Ytbpaadigojfkjaa

theorem idx_self {ns : List ByteArray} {i : Nat} (hi : i < ns.length) : 0 ≤ idx ns (nm ns i) ∧ idx ns (nm ns i) ≤ (i : Int) := by
  unfold idx
  have hp : pS (nm ns i) ns i = true := by unfold pS seq; exact beq_self_eq_true _
  rcases ix_spec (pS (nm ns i) ns) ns.length 0 with ⟨_, h2⟩ | ⟨j, h1, _, _, _, h5⟩
  · have := h2 i (Nat.zero_le _) (by omega)
    rw [hp] at this; cases this
  · rw [h1]
    refine ⟨by omega, ?_⟩
    rcases Nat.lt_or_ge i j with h | h
    · have := h5 i (Nat.zero_le _) h
      rw [hp] at this; cases this
    · omega
theorem nm_take {ns : List ByteArray} {i j : Nat} (hj : j < i) : nm (ns.take i) j = nm ns j := by
  unfold nm
  simp [List.getD_eq_getElem?_getD, hj]
theorem twice_idx {ns : List ByteArray} {i : Nat} (hi : i < ns.length) : decide (idx ns (nm ns i) < (i : Int)) = twiceP ns i := by
  have hl : (ns.take i).length = i := by simp; omega
  obtain ⟨h0, h1⟩ := idx_self hi
  unfold twiceP
  rw [hl, Bool.eq_iff_iff, decide_eq_true_eq, decide_eq_true_eq]
  constructor
  · intro h
    rcases ix_spec (pS (nm ns i) (ns.take i)) i 0 with ⟨_, h3⟩ | ⟨j, h3, _⟩
    · obtain ⟨x, hx⟩ : ∃ x : Nat, idx ns (nm ns i) = (x : Int) := ⟨(idx ns (nm ns i)).toNat, by omega⟩
      have h4 := h3 x (Nat.zero_le _) (by omega)
      have h5 : pS (nm ns i) ns x = true := by
        unfold idx at hx
        rcases ix_spec (pS (nm ns i) ns) ns.length 0 with ⟨h6, _⟩ | ⟨j, h6, _, _, h7, _⟩
        · omega
        · have : j = x := by omega
          rw [← this]; exact h7
      unfold pS at h4 h5
      rw [nm_take (by omega), h5] at h4
      cases h4
    · rw [h3]; omega
  · intro h
    rcases ix_spec (pS (nm ns i) (ns.take i)) i 0 with ⟨h3, _⟩ | ⟨j, h3, _, h4, h5, _⟩
    · omega
    · unfold pS at h5
      rw [nm_take (by omega)] at h5
      unfold idx
      rcases ix_spec (pS (nm ns i) ns) ns.length 0 with ⟨_, h6⟩ | ⟨x, h6, _, _, _, h7⟩
      · have := h6 j (Nat.zero_le _) (by omega)
        unfold pS at this
        rw [h5] at this; cases this
      · rw [h6]
        rcases Nat.lt_or_ge j x with h8 | h8
        · have := h7 j (Nat.zero_le _) h8
          unfold pS at this
          rw [h5] at this; cases this
        · omega
theorem ix_min {p : Nat → Bool} {n m : Nat} (h : ∀ j, m ≤ j → p j = false) : ix p (min n m) 0 = ix p n 0 := by
  rcases ix_spec p n 0 with ⟨h1, h2⟩ | ⟨j, h1, _, h3, h4, h5⟩
  · rw [h1]
    rcases ix_spec p (min n m) 0 with ⟨h6, _⟩ | ⟨j, _, _, h8, h9, _⟩
    · exact h6
    · have := h2 j (Nat.zero_le _) (by omega)
      rw [this] at h9; cases h9
  · rw [h1]
    have hjm : j < m := by
      rcases Nat.lt_or_ge j m with h6 | h6
      · exact h6
      · rw [h j h6] at h4; cases h4
    rcases ix_spec p (min n m) 0 with ⟨_, h7⟩ | ⟨x, h7, _, h8, h9, h10⟩
    · have := h7 j (Nat.zero_le _) (by omega)
      rw [this] at h4; cases h4
    · rw [h7]
      have : x = j := by
        rcases Nat.lt_trichotomy x j with h11 | h11 | h11
        · have := h5 x (Nat.zero_le _) h11
          rw [this] at h9; cases h9
        · exact h11
        · have := h10 j (Nat.zero_le _) h11
          rw [this] at h4; cases h4
      rw [this]
theorem bad_min (ns : List ByteArray) (nss : List (List ByteArray)) : badF ns nss = ix (badP ns nss) ns.length 0 := by
  unfold badF
  exact ix_min (fun j hj => by unfold badP; rw [getD_row hj]; rfl)
end Go.Proofs.Ytbpaadigojfkjaa
