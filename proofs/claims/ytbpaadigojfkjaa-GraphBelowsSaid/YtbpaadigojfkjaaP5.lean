/- Names are put in order byte by byte; distinct names are told apart. -/
import Derived.Test.YtbpaadigojfkjaaGj
namespace Go.Proofs.Ytbpaadigojfkjaa

theorem bl_asym : ∀ x y : List UInt8, Op.bytesLess x y = true → Op.bytesLess y x = false
  | _, [], h => by simp [Op.bytesLess] at h
  | [], _ :: _, _ => by simp [Op.bytesLess]
  | a :: x, b :: y, h => by
    simp only [Op.bytesLess, Bool.or_eq_true, Bool.and_eq_true, decide_eq_true_eq, beq_iff_eq] at h
    simp only [Op.bytesLess, Bool.or_eq_false_iff, Bool.and_eq_false_iff, decide_eq_false_iff_not, beq_eq_false_iff_ne]
    rcases h with h | ⟨h1, h2⟩
    · rw [UInt8.lt_iff_toNat_lt] at h
      refine ⟨by rw [UInt8.lt_iff_toNat_lt]; omega, .inl (fun e => by rw [e] at h; omega)⟩
    · subst h1
      exact ⟨by rw [UInt8.lt_iff_toNat_lt]; omega, .inr (bl_asym x y h2)⟩
theorem bl_ntrans : ∀ x y z : List UInt8, Op.bytesLess x y = false → Op.bytesLess y z = false → Op.bytesLess x z = false
  | _, _, [], _, _ => by simp [Op.bytesLess]
  | _, [], _ :: _, _, h => by simp [Op.bytesLess] at h
  | [], _ :: _, _ :: _, h, _ => by simp [Op.bytesLess] at h
  | a :: x, b :: y, c :: z, h1, h2 => by
    simp only [Op.bytesLess, Bool.or_eq_false_iff, Bool.and_eq_false_iff, decide_eq_false_iff_not, beq_eq_false_iff_ne] at h1 h2 ⊢
    obtain ⟨p1, q1⟩ := h1
    obtain ⟨p2, q2⟩ := h2
    rw [UInt8.lt_iff_toNat_lt] at p1 p2
    refine ⟨by rw [UInt8.lt_iff_toNat_lt]; omega, ?_⟩
    by_cases e : a = c
    · right
      have hab : a = b := UInt8.toNat_inj.1 (by rw [e] at p1 ⊢; omega)
      have hbc : b = c := by rw [← hab]; exact e
      rcases q1 with q1 | q1
      · exact absurd hab q1
      · rcases q2 with q2 | q2
        · exact absurd hbc q2
        · exact bl_ntrans x y z q1 q2
    · exact .inl e
theorem bl_total : ∀ x y : List UInt8, Op.bytesLess x y = false → Op.bytesLess y x = false → x = y
  | [], [], _, _ => rfl
  | [], _ :: _, h, _ => by simp [Op.bytesLess] at h
  | _ :: _, [], _, h => by simp [Op.bytesLess] at h
  | a :: x, b :: y, h1, h2 => by
    simp only [Op.bytesLess, Bool.or_eq_false_iff, Bool.and_eq_false_iff, decide_eq_false_iff_not, beq_eq_false_iff_ne] at h1 h2
    obtain ⟨p1, q1⟩ := h1
    obtain ⟨p2, q2⟩ := h2
    rw [UInt8.lt_iff_toNat_lt] at p1 p2
    have e : a = b := UInt8.toNat_inj.1 (by omega)
    subst e
    rcases q1 with q1 | q1
    · exact absurd rfl q1
    · rcases q2 with q2 | q2
      · exact absurd rfl q2
      · rw [bl_total x y q1 q2]
theorem lts_swo (ns : List ByteArray) : SWO (lts ns) := ⟨fun _ _ h => bl_asym _ _ h, fun _ _ _ h1 h2 => bl_ntrans _ _ _ h1 h2⟩
theorem ix_none {p : Nat → Bool} {n : Nat} (h : ix p n 0 = -1) : ∀ j, j < n → p j = false := by
  rcases ix_spec p n 0 with ⟨_, h2⟩ | ⟨j, h1, _⟩
  · intro j hj; exact h2 j (Nat.zero_le _) (by omega)
  · rw [h] at h1; omega
theorem ix_neg {p : Nat → Bool} {n : Nat} (h : ix p n 0 < 0) : ix p n 0 = -1 := by have := ix_range p n 0; omega
/-- Where none has the name of one ahead, names tell packages apart. -/
theorem names_apart {ns : List ByteArray} (h : twiceF ns = -1) : ∀ x y, x < ns.length → y < ns.length → (nm ns x).toList = (nm ns y).toList → x = y := by
  have key : ∀ x y, x < y → y < ns.length → (nm ns x).toList ≠ (nm ns y).toList := by
    intro x y hxy hy he
    have h1 := ix_none h y hy
    unfold twiceP at h1
    have h2 := ix_neg (Int.not_le.1 (of_decide_eq_false h1))
    have hl : (ns.take y).length = y := by simp; omega
    have h3 := ix_none h2 x (by omega)
    unfold pS seq at h3
    have h4 : nm (ns.take y) x = nm ns x := by simp [nm, List.getD_eq_getElem?_getD, hxy]
    rw [h4, he] at h3
    simp at h3
  intro x y hx hy he
  rcases Nat.lt_trichotomy x y with h1 | h1 | h1
  · exact absurd he (key x y h1 hy)
  · exact h1
  · exact absurd he.symm (key y x h1 hx)
theorem lts_tot (ns : List ByteArray) (h : twiceF ns = -1) : ∀ x y, x < ns.length → y < ns.length → lts ns x y = false → lts ns y x = false → x = y :=
  fun x y hx hy h1 h2 => names_apart h x y hx hy (bl_total _ _ h1 h2)
end Go.Proofs.Ytbpaadigojfkjaa
