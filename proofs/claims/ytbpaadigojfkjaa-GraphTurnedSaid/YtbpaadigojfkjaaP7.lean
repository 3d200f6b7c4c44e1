/- Order answers alike where each row of needs is turned round and named twice. -/
import Derived.Test.YtbpaadigojfkjaaP6
namespace Go.Proofs.Ytbpaadigojfkjaa

def twF (row : List ByteArray) : Nat → List ByteArray
  | 0 => []
  | m + 1 => twF row m ++ [nm row (row.length - 1 - m)] ++ [nm row (row.length - 1 - m)]
def tw (row : List ByteArray) : List ByteArray := twF row row.length
theorem twF_length (row : List ByteArray) (m : Nat) : (twF row m).length = 2 * m := by
  induction m with
  | zero => rfl
  | succ m ih => simp [twF, ih]; omega
theorem twF_mem (row : List ByteArray) (m : Nat) (x : ByteArray) : x ∈ twF row m ↔ ∃ i, i < m ∧ nm row (row.length - 1 - i) = x := by
  induction m with
  | zero => simp [twF]
  | succ m ih =>
    simp only [twF, List.mem_append, List.mem_singleton, ih]
    constructor
    · rintro ((⟨i, h1, h2⟩ | h) | h)
      · exact ⟨i, by omega, h2⟩
      · exact ⟨m, by omega, h.symm⟩
      · exact ⟨m, by omega, h.symm⟩
    · rintro ⟨i, h1, h2⟩
      by_cases e : i = m
      · subst e; exact .inr h2.symm
      · exact .inl (.inl ⟨i, by omega, h2⟩)
theorem tw_mem (row : List ByteArray) (x : ByteArray) : x ∈ tw row ↔ x ∈ row := by
  unfold tw
  rw [twF_mem]
  constructor
  · rintro ⟨i, h1, h2⟩
    rw [← h2]
    exact nm_mem (by omega)
  · intro h
    obtain ⟨i, hi, e⟩ := List.mem_iff_getElem.1 h
    refine ⟨row.length - 1 - i, by omega, ?_⟩
    rw [show row.length - 1 - (row.length - 1 - i) = i from by omega]
    unfold nm
    rw [List.getD_eq_getElem?_getD, List.getElem?_eq_getElem hi]
    simpa using e
theorem tw_any (row : List ByteArray) (f : ByteArray → Bool) : (tw row).any f = row.any f := by
  rw [Bool.eq_iff_iff, List.any_eq_true, List.any_eq_true]
  constructor
  · rintro ⟨x, h1, h2⟩; exact ⟨x, (tw_mem row x).1 h1, h2⟩
  · rintro ⟨x, h1, h2⟩; exact ⟨x, (tw_mem row x).2 h1, h2⟩
theorem tw_getD (nss : List (List ByteArray)) (i : Nat) : (nss.map tw).getD i [] = tw (nss.getD i []) := by
  rcases Nat.lt_or_ge i nss.length with h | h
  · simp [List.getD_eq_getElem?_getD, h]
  · rw [getD_row h, getD_row (by simpa using h)]; rfl
theorem ord_tw (ns : List ByteArray) (nss : List (List ByteArray)) : ordF ns (nss.map tw) = ordF ns nss := by
  have h1 : rowsF ns (nss.map tw) = rowsF ns nss := by
    funext k
    unfold rowsF
    rw [tw_getD]
    exact List.filter_congr (fun j _ => tw_any _ _)
  have h2 : badP ns (nss.map tw) = badP ns nss := by
    funext i
    unfold badP
    rw [tw_getD, tw_any]
  have h3 : badF ns (nss.map tw) = badF ns nss := by
    unfold badF
    rw [h2]; simp
  unfold ordF outF
  rw [h1, h3]
end Go.Proofs.Ytbpaadigojfkjaa
