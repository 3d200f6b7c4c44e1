/- What a package needs, through others too: both ways of reckoning it are one (pure). -/
import Derived.Test.YtbpaadigojfkjaaP6
namespace Go.Proofs.Ytbpaadigojfkjaa

inductive Rch (rows : Nat → List Nat) (a : Nat) : Nat → Prop where
  | base : Rch rows a a
  | step (i j : Nat) : Rch rows a i → j ∈ rows i → Rch rows a j
open Classical in
noncomputable def rchB (rows : Nat → List Nat) (a x : Nat) : Bool := decide (Rch rows a x)
open Classical in
theorem rchB_true {rows : Nat → List Nat} {a x : Nat} : rchB rows a x = true ↔ Rch rows a x := by unfold rchB; exact decide_eq_true_iff
/-- What Below answers. -/
noncomputable def belF (ns : List ByteArray) (nss : List (List ByteArray)) (at' : Int) : List Nat :=
  if (ordF ns nss).2.2 ≠ 0 ∨ at' < 0 ∨ (ns.length : Int) ≤ at' then [] else (List.range ns.length).filter fun i => rchB (rowsF ns nss) at'.toNat i
/-- A set that holds a, that is shut under the rows, and that holds nothing that can't be reached. -/
structure Shut (n : Nat) (rows : Nat → List Nat) (a : Nat) (S : Nat → Bool) : Prop where
  at_ : S a = true
  only : ∀ x, x < n → S x = true → Rch rows a x
  shut : ∀ x, x < n → S x = true → ∀ j ∈ rows x, S j = true
theorem Shut.all {n : Nat} {rows : Nat → List Nat} {a : Nat} {S : Nat → Bool} (h : Shut n rows a S) (ha : a < n) (hr : ∀ x, x < n → ∀ j ∈ rows x, j < n) {x : Nat} (hx : Rch rows a x) : x < n ∧ S x = true := by
  induction hx with
  | base => exact ⟨ha, h.at_⟩
  | step i j _ hj ih => exact ⟨hr i ih.1 j hj, h.shut i ih.1 ih.2 j hj⟩
theorem Shut.filter {n : Nat} {rows : Nat → List Nat} {a : Nat} {S : Nat → Bool} (h : Shut n rows a S) (ha : a < n) (hr : ∀ x, x < n → ∀ j ∈ rows x, j < n) : (List.range n).filter S = (List.range n).filter fun i => rchB rows a i := by
  apply List.filter_congr
  intro x hx
  have hx := List.mem_range.1 hx
  rw [Bool.eq_iff_iff, rchB_true]
  exact ⟨h.only x hx, fun h2 => (h.all ha hr h2).2⟩
/-- One round of the program: what i imports is taken in where i is. -/
def stp (S : Nat → Bool) (i : Nat) (r : List Nat) (x : Nat) : Bool := S x || (S i && r.contains x)
theorem stp_nil (S : Nat → Bool) (i : Nat) : stp S i [] = S := by funext x; simp [stp]
theorem stp_self (S : Nat → Bool) (i : Nat) (r : List Nat) : stp S i r i = S i := by unfold stp; cases S i <;> simp
theorem stp_snoc (S : Nat → Bool) (i : Nat) (r : List Nat) (k x : Nat) : stp S i (r ++ [k]) x = if x = k then (stp S i r k || stp S i r i) else stp S i r x := by
  rw [stp_self]
  by_cases e : x = k
  · subst e
    rw [if_pos rfl]
    unfold stp
    cases S x <;> cases S i <;> simp
  · rw [if_neg e]
    unfold stp
    simp [e]
def runS (rows : Nat → List Nat) (S : Nat → Bool) : List Nat → Nat → Bool
  | [] => S
  | i :: l => runS rows (stp S i (rows i)) l
theorem runS_snoc (rows : Nat → List Nat) (l : List Nat) (i : Nat) : ∀ S, runS rows S (l ++ [i]) = stp (runS rows S l) i (rows i) := by
  induction l with
  | nil => intro S; rfl
  | cons y l ih => intro S; exact ih _
theorem runS_mono (rows : Nat → List Nat) (l : List Nat) : ∀ S x, S x = true → runS rows S l x = true := by
  induction l with
  | nil => intro S x h; exact h
  | cons y l ih => intro S x h; exact ih _ x (by unfold stp; rw [h]; rfl)
theorem runS_only (rows : Nat → List Nat) (a : Nat) (l : List Nat) : ∀ S, (∀ x, S x = true → Rch rows a x) → ∀ x, runS rows S l x = true → Rch rows a x := by
  induction l with
  | nil => intro S h x hx; exact h x hx
  | cons y l ih =>
    intro S h
    refine ih _ (fun x hx => ?_)
    unfold stp at hx
    rw [Bool.or_eq_true, Bool.and_eq_true] at hx
    rcases hx with hx | ⟨hy, hx⟩
    · exact h x hx
    · exact .step y x (h y hy) (by simpa using hx)
/-- What none of l imports is left as it is. -/
theorem runS_keep (rows : Nat → List Nat) (l : List Nat) (x : Nat) : ∀ S, (∀ i ∈ l, x ∉ rows i) → runS rows S l x = S x := by
  induction l with
  | nil => intro S _; rfl
  | cons y l ih =>
    intro S h
    show runS rows (stp S y (rows y)) l x = S x
    rw [ih _ (fun i hi => h i (List.mem_cons_of_mem _ hi))]
    unfold stp
    have := h y List.mem_cons_self
    simp [this]
/-- l: each ahead of what it imports. -/
theorem runS_shut (rows : Nat → List Nat) (l : List Nat) : ∀ S, l.Pairwise (fun i j => i ∉ rows j) → (∀ i ∈ l, i ∉ rows i) → ∀ x ∈ l, runS rows S l x = true → ∀ j ∈ rows x, runS rows S l j = true := by
  induction l with
  | nil => intro S _ _ x hx; cases hx
  | cons y l ih =>
    intro S hp hs x hx h j hj
    rw [List.pairwise_cons] at hp
    rcases List.mem_cons.1 hx with e | hx
    · subst e
      show runS rows (stp S x (rows x)) l j = true
      have h1 : runS rows (stp S x (rows x)) l x = true := h
      rw [runS_keep rows l x _ (fun i hi => hp.1 i hi), stp_self] at h1
      refine runS_mono rows l _ j ?_
      unfold stp
      rw [h1]
      simp [hj]
    · exact ih _ hp.2 (fun i hi => hs i (List.mem_cons_of_mem _ hi)) x hx h j hj
theorem rows_lt {ns : List ByteArray} {nss : List (List ByteArray)} {x j : Nat} (h : j ∈ rowsF ns nss x) : j < ns.length := by
  unfold rowsF at h
  exact List.mem_range.1 (List.mem_filter.1 h).1
/-- What the program has in the end is shut. -/
theorem run_shut {ns : List ByteArray} {nss : List (List ByteArray)} (h0 : (ordF ns nss).2.2 = 0) {a : Nat} :
    Shut ns.length (rowsF ns nss) a (runS (rowsF ns nss) (fun x => x == a) (outF ns nss).reverse) := by
  obtain ⟨_, hH⟩ := ord_held h0
  have hg := out_gs ns nss
  have hmem : ∀ x, x < ns.length → x ∈ outF ns nss := by
    intro x hx
    rcases ord_cases ns nss with ⟨h1, _⟩ | ⟨_, _, _, _, h5⟩
    · exact absurd h0 h1
    · have := ix_none (ix_neg h5) x hx
      unfold lackP at this
      simpa using this
  refine ⟨runS_mono _ _ _ _ (by simp), fun x _ hx => runS_only _ a _ _ (fun y hy => ?_) x hx, fun x hx h j hj => ?_⟩
  · have : y = a := by simpa using hy
    rw [this]; exact .base
  · have hself : ∀ i ∈ outF ns nss, i ∉ rowsF ns nss i := by
      intro i hi hm
      obtain ⟨p, hp, e⟩ := mem_getD hi
      rw [← e] at hm
      obtain ⟨k, hk, e2⟩ := hg.ahead hp hm
      exact nodup_ne hg.nodup hk hp e2
    refine runS_shut _ _ _ ?_ (fun i hi => hself i (List.mem_reverse.1 hi)) x (List.mem_reverse.2 (hmem x hx)) h j hj
    rw [List.pairwise_reverse, List.pairwise_iff_getElem]
    intro p q hp hq hpq hm
    have e1 : (outF ns nss).getD p 0 = (outF ns nss)[p] := by rw [List.getD_eq_getElem?_getD, List.getElem?_eq_getElem hp]; rfl
    have e2 : (outF ns nss).getD q 0 = (outF ns nss)[q] := by rw [List.getD_eq_getElem?_getD, List.getElem?_eq_getElem hq]; rfl
    rw [← e1, ← e2] at hm
    obtain ⟨k, hk, e3⟩ := hg.ahead hp hm
    exact nodup_ne hg.nodup (show k < q by omega) hq e3
theorem bel_none {ns : List ByteArray} {nss : List (List ByteArray)} {at' : Int} (h : (ordF ns nss).2.2 ≠ 0 ∨ at' < 0 ∨ (ns.length : Int) ≤ at') : belF ns nss at' = [] := by
  unfold belF; rw [if_pos h]
theorem bel_some {ns : List ByteArray} {nss : List (List ByteArray)} {a : Nat} (h : (ordF ns nss).2.2 = 0) (ha : a < ns.length) {S : Nat → Bool} (hS : Shut ns.length (rowsF ns nss) a S) : belF ns nss (a : Int) = (List.range ns.length).filter S := by
  unfold belF
  rw [if_neg (by omega), hS.filter ha (fun x _ j hj => rows_lt hj)]
  rfl
end Go.Proofs.Ytbpaadigojfkjaa
