/- Where an order is answered, it holds every package once, each behind what it imports. -/
import Derived.Test.YtbpaadigojfkjaaP5
namespace Go.Proofs.Ytbpaadigojfkjaa

structure Held (ns : List ByteArray) (nss : List (List ByteArray)) (out : List Nat) : Prop where
  len : out.length = ns.length
  lt : ∀ i, i < ns.length → out.getD i 0 < ns.length
  ne : ∀ i j, j < i → i < ns.length → out.getD j 0 ≠ out.getD i 0
  ahead : ∀ i j, i < ns.length → j < (nss.getD (out.getD i 0) []).length → ∃ k, k < i ∧ seq (nm ns (out.getD k 0)) (nm (nss.getD (out.getD i 0) []) j) = true

theorem getD_mem {l : List Nat} {i : Nat} (h : i < l.length) : l.getD i 0 ∈ l := by
  rw [List.getD_eq_getElem?_getD, List.getElem?_eq_getElem h]
  simp
theorem mem_getD {l : List Nat} {x : Nat} (h : x ∈ l) : ∃ i, i < l.length ∧ l.getD i 0 = x := by
  obtain ⟨i, hi, e⟩ := List.mem_iff_getElem.1 h
  exact ⟨i, hi, by rw [List.getD_eq_getElem?_getD, List.getElem?_eq_getElem hi]; simpa using e⟩
theorem GS.ahead {n : Nat} {lt : Nat → Nat → Bool} {rows : Nat → List Nat} {out : List Nat} (h : GS n lt rows out) {i : Nat} (hi : i < out.length) {y : Nat} (hy : y ∈ rows (out.getD i 0)) : ∃ k, k < i ∧ out.getD k 0 = y := by
  have h1 := h.take (i + 1)
  rw [List.take_succ_eq_append_getElem hi] at h1
  have h2 := (mem_rdy.1 h1.init.2.1).2.2
  have e : out.getD i 0 = out[i] := by rw [List.getD_eq_getElem?_getD, List.getElem?_eq_getElem hi]; rfl
  rw [e] at hy
  have h3 := need_zero.1 h2 y hy
  obtain ⟨k, hk, e2⟩ := mem_getD h3
  have hk' : k < i := by simp at hk; omega
  refine ⟨k, hk', ?_⟩
  rw [← e2]
  simp [List.getD_eq_getElem?_getD, hk']
theorem full_len {n : Nat} {out : List Nat} (hd : out.Nodup) (hl : ∀ x ∈ out, x < n) (ha : ∀ x, x < n → x ∈ out) : out.length = n := by
  have : out.Perm (List.range n) := (List.perm_ext_iff_of_nodup hd List.nodup_range).2 (fun a => ⟨fun h => List.mem_range.2 (hl a h), fun h => ha a (List.mem_range.1 h)⟩)
  rw [this.length_eq]; simp
theorem nodup_ne {l : List Nat} (hd : l.Nodup) {i j : Nat} (hj : j < i) (hi : i < l.length) : l.getD j 0 ≠ l.getD i 0 := by
  have := List.pairwise_iff_getElem.1 hd j i (by omega) hi hj
  simpa [List.getD_eq_getElem?_getD, List.getElem?_eq_getElem hi, List.getElem?_eq_getElem (show j < l.length by omega)] using this
theorem getD_row {nss : List (List ByteArray)} {i : Nat} (h : nss.length ≤ i) : nss.getD i [] = [] := by
  rw [List.getD_eq_getElem?_getD, List.getElem?_eq_none h]; rfl
theorem nm_mem {ns : List ByteArray} {j : Nat} (h : j < ns.length) : nm ns j ∈ ns := by
  unfold nm
  rw [List.getD_eq_getElem?_getD, List.getElem?_eq_getElem h]
  simp
/-- A name that a row holds, and that is a package's. -/
theorem row_idx {ns : List ByteArray} {nss : List (List ByteArray)} {x j : Nat} (hb : badF ns nss < 0) (hx : x < ns.length) (hj : j < (nss.getD x []).length) : ∃ y, y < ns.length ∧ idx ns (nm (nss.getD x []) j) = (y : Int) ∧ y ∈ rowsF ns nss x ∧ pS (nm (nss.getD x []) j) ns y = true := by
  have hxm : x < nss.length := by
    rcases Nat.lt_or_ge x nss.length with h | h
    · exact h
    · rw [getD_row h] at hj; simp at hj
  have h1 := ix_none (ix_neg hb) x (by omega)
  unfold badP at h1
  rw [List.any_eq_false] at h1
  have h2 := h1 _ (nm_mem hj)
  simp only [decide_eq_true_eq] at h2
  have h3 : idx ns (nm (nss.getD x []) j) = ix (pS (nm (nss.getD x []) j) ns) ns.length 0 := rfl
  rcases ix_spec (pS (nm (nss.getD x []) j) ns) ns.length 0 with ⟨h4, _⟩ | ⟨y, h4, _, h5, h6, _⟩
  · omega
  · refine ⟨y, by omega, by rw [h3, h4], ?_, h6⟩
    unfold rowsF
    rw [List.mem_filter]
    refine ⟨List.mem_range.2 (by omega), ?_⟩
    rw [List.any_eq_true]
    exact ⟨_, nm_mem hj, decide_eq_true (h3.trans h4)⟩
theorem ord_cases (ns : List ByteArray) (nss : List (List ByteArray)) : ((ordF ns nss).2.2 ≠ 0 ∧ (ordF ns nss).1 = []) ∨
    (ordF ns nss = (outF ns nss, 0, 0) ∧ ns.length ≤ 8 ∧ twiceF ns < 0 ∧ badF ns nss < 0 ∧ ix (lackP (outF ns nss)) ns.length 0 < 0) := by
  unfold ordF
  by_cases h1 : 8 < ns.length
  · left; simp [h1]
  · rw [if_neg h1]
    by_cases h2 : 0 ≤ twiceF ns
    · left; simp [h2]
    · rw [if_neg h2]
      by_cases h3 : 0 ≤ badF ns nss
      · left; simp [h3]
      · rw [if_neg h3]
        by_cases h4 : 0 ≤ ix (lackP (outF ns nss)) ns.length 0
        · left; simp [h4]
        · right
          rw [if_neg h4]
          exact ⟨rfl, by omega, by omega, by omega, by omega⟩
theorem out_gs (ns : List ByteArray) (nss : List (List ByteArray)) : GS ns.length (lts ns) (rowsF ns nss) (outF ns nss) := gr_gs (lts_swo ns)
theorem ord_held {ns : List ByteArray} {nss : List (List ByteArray)} (h : (ordF ns nss).2.2 = 0) : ordF ns nss = (outF ns nss, 0, 0) ∧ Held ns nss (outF ns nss) := by
  rcases ord_cases ns nss with ⟨h1, _⟩ | ⟨h1, _, h3, h4, h5⟩
  · exact absurd h h1
  · refine ⟨h1, ?_⟩
    have hg := out_gs ns nss
    have hl : (outF ns nss).length = ns.length := full_len hg.nodup hg.lt_n (fun x hx => by
      have := ix_none (ix_neg h5) x hx
      unfold lackP at this
      simpa using this)
    refine ⟨hl, fun i hi => hg.lt_n _ (getD_mem (by omega)), fun i j hj hi => nodup_ne hg.nodup hj (by omega), fun i j hi hj => ?_⟩
    obtain ⟨y, hy, _, hm, hp⟩ := row_idx h4 (hg.lt_n _ (getD_mem (by omega))) hj
    obtain ⟨k, hk, e⟩ := hg.ahead (by omega) hm
    refine ⟨k, hk, ?_⟩
    rw [e]
    unfold pS seq at hp
    unfold seq
    rw [beq_iff_eq] at hp ⊢
    exact hp.symm
end Go.Proofs.Ytbpaadigojfkjaa
