/- What is ready, and the scan for the least of it (pure). -/
import Derived.Test.YtbpaadigojfkjaaP8
import Derived.Test.YtbpaadigojfkjaaH7
namespace Go.Proofs.Ytbpaadigojfkjaa

theorem allD_true {ns row : List ByteArray} {dn : Nat → Bool} (k : Nat) : ∀ i, allD ns row dn k i = true ↔ ∀ j, i ≤ j → j < i + k → dn (idx ns (nm row j)).toNat = true := by
  induction k with
  | zero => intro i; simp only [allD, true_iff]; intro j h1 h2; omega
  | succ k ih =>
    intro i
    simp only [allD, Bool.and_eq_true, ih]
    constructor
    · rintro ⟨h1, h2⟩ j h3 h4
      by_cases e : j = i
      · rw [e]; exact h1
      · exact h2 j (by omega) (by omega)
    · intro h
      exact ⟨h i (Nat.le_refl _) (by omega), fun j h1 h2 => h j (by omega) (by omega)⟩
/-- Ready, as the reference has it. -/
def rdB (ns : List ByteArray) (nss : List (List ByteArray)) (out : List Nat) (k : Nat) : Bool := !out.contains k && allD ns (nss.getD k []) (fun i => out.contains i) (nss.getD k []).length 0
theorem rdB_rdy {ns : List ByteArray} {nss : List (List ByteArray)} {out : List Nat} {k : Nat} (hb : badF ns nss < 0) (hk : k < ns.length) : rdB ns nss out k = true ↔ k ∈ rdy ns.length (rowsF ns nss) out := by
  unfold rdB
  rw [Bool.and_eq_true, allD_true, mem_rdy, need_zero]
  constructor
  · rintro ⟨h1, h2⟩
    refine ⟨hk, by simpa using h1, fun i hi => ?_⟩
    unfold rowsF at hi
    rw [List.mem_filter, List.any_eq_true] at hi
    obtain ⟨_, s, hs, he⟩ := hi
    have he := of_decide_eq_true he
    obtain ⟨j, hj, e⟩ := List.mem_iff_getElem.1 hs
    have h3 := h2 j (Nat.zero_le _) (by omega)
    have e2 : nm (nss.getD k []) j = s := by
      unfold nm
      rw [List.getD_eq_getElem?_getD, List.getElem?_eq_getElem hj]
      simpa using e
    rw [e2, he] at h3
    simpa using h3
  · rintro ⟨_, h1, h2⟩
    refine ⟨by simpa using h1, fun j _ hj => ?_⟩
    obtain ⟨y, _, h4, h5, _⟩ := row_idx hb hk (show j < (nss.getD k []).length by omega)
    rw [h4]
    have := h2 y h5
    simpa using this

def Bst (lt : Nat → Nat → Bool) (R : Nat → Bool) (k : Nat) (b : Int) : Prop := (b = -1 ∧ ∀ y, y < k → R y = false) ∨ ∃ x : Nat, b = (x : Int) ∧ x < k ∧ R x = true ∧ ∀ y, y < k → R y = true → lt y x = false
section
variable {lt : Nat → Nat → Bool} {R : Nat → Bool} {k : Nat} {b : Int}
theorem Bst.start : Bst lt R 0 (-1) := .inl ⟨rfl, fun y hy => by omega⟩
theorem Bst.pass (h : Bst lt R k b) (hr : R k = false) : Bst lt R (k + 1) b := by
  rcases h with ⟨h1, h2⟩ | ⟨x, h1, h2, h3, h4⟩
  · refine .inl ⟨h1, fun y hy => ?_⟩
    by_cases e : y = k
    · rw [e]; exact hr
    · exact h2 y (by omega)
  · refine .inr ⟨x, h1, by omega, h3, fun y hy hR => ?_⟩
    by_cases e : y = k
    · rw [e, hr] at hR; cases hR
    · exact h4 y (by omega) hR
theorem Bst.first (hsw : SWO lt) (h : Bst lt R k (-1)) (hr : R k = true) : Bst lt R (k + 1) (k : Int) := by
  rcases h with ⟨_, h2⟩ | ⟨x, h1, _⟩
  · refine .inr ⟨k, rfl, by omega, hr, fun y hy hR => ?_⟩
    by_cases e : y = k
    · rw [e]
      cases hl : lt k k with
      | false => rfl
      | true =>
        have := hsw.asym k k hl
        rw [hl] at this; exact this
    · rw [h2 y (by omega)] at hR; cases hR
  · omega
theorem Bst.keep {x : Nat} (h : Bst lt R k (x : Int)) (hl : lt k x = false) : Bst lt R (k + 1) (x : Int) := by
  rcases h with ⟨h1, _⟩ | ⟨x', h1, h2, h3, h4⟩
  · omega
  · obtain rfl : x = x' := by omega
    refine .inr ⟨x, rfl, by omega, h3, fun y hy hR => ?_⟩
    by_cases e : y = k
    · rw [e]; exact hl
    · exact h4 y (by omega) hR
theorem Bst.turn (hsw : SWO lt) {x : Nat} (h : Bst lt R k (x : Int)) (hr : R k = true) (hl : lt k x = true) : Bst lt R (k + 1) (k : Int) := by
  rcases h with ⟨h1, _⟩ | ⟨x', h1, h2, h3, h4⟩
  · omega
  · obtain rfl : x = x' := by omega
    refine .inr ⟨k, rfl, by omega, hr, fun y hy hR => ?_⟩
    by_cases e : y = k
    · rw [e]
      cases hl2 : lt k k with
      | false => rfl
      | true =>
        have := hsw.asym k k hl2
        rw [hl2] at this; exact this
    · cases hyk : lt y k with
      | false => rfl
      | true =>
        exfalso
        have h5 := h4 y (by omega) hR
        have h6 := hsw.ntrans y x k h5 (hsw.asym k x hl)
        rw [hyk] at h6; cases h6
end
end Go.Proofs.Ytbpaadigojfkjaa
