/- Rings and chains of packages: what their order is (pure). -/
import Derived.Test.YtbpaadigojfkjaaP6
namespace Go.Proofs.Ytbpaadigojfkjaa

/-- The short name of a number. -/
def wd (i : Nat) : ByteArray := ⟨#[112, UInt8.ofNat (97 + i)]⟩
def nmsL (k f m : Nat) : List ByteArray := (List.range m).map fun i => wd ((i + f) % k)
def rngL (k f m : Nat) : List (List ByteArray) := (List.range m).map fun i => [wd ((i + f + 1) % k)]
def chnL (k f m : Nat) : List (List ByteArray) := (List.range m).map fun i => if (i + f) % k = k - 1 then [] else [wd ((i + f + 1) % k)]
def ringOk (k f : Nat) : Bool := decide (ordF (nmsL k f k) (rngL k f k) = ([], 0, 9))
def chainOk (k f : Nat) : Bool :=
  let o := ordF (nmsL k f k) (chnL k f k)
  decide (o.2.2 = 0) && decide (o.1.length = k) && (List.range k).all fun i => decide (o.1.getD i 0 < k) && seq (nm (nmsL k f k) (o.1.getD i 0)) (wd (k - 1 - i))
theorem rings_ok : (List.range 8).all (fun k => (List.range (k + 1)).all fun f => ringOk (k + 1) f) = true := by decide +kernel
theorem chains_ok : (List.range 8).all (fun k => (List.range (k + 1)).all fun f => chainOk (k + 1) f) = true := by decide +kernel
theorem map_mod {α : Type} (k f m : Nat) (g : Nat → α) : (List.range m).map (fun i => g ((i + f) % k)) = (List.range m).map (fun i => g ((i + f % k) % k)) := by
  apply List.map_congr_left
  intro i _
  rw [Nat.add_mod_mod]
theorem nms_mod (k f m : Nat) : nmsL k f m = nmsL k (f % k) m := by
  unfold nmsL
  apply List.map_congr_left
  intro i _
  rw [Nat.add_mod_mod]
theorem mod1 (k f i : Nat) : (i + f % k + 1) % k = (i + f + 1) % k := by
  rw [show i + f % k + 1 = (i + 1) + f % k from by omega, show i + f + 1 = (i + 1) + f from by omega, Nat.add_mod_mod]
theorem rng_mod (k f m : Nat) : rngL k f m = rngL k (f % k) m := by
  unfold rngL
  apply List.map_congr_left
  intro i _
  rw [mod1]
theorem chn_mod (k f m : Nat) : chnL k f m = chnL k (f % k) m := by
  unfold chnL
  apply List.map_congr_left
  intro i _
  rw [mod1, Nat.add_mod_mod]
theorem ring_ord {k : Nat} (h1 : 1 ≤ k) (h8 : k ≤ 8) (f : Nat) : ordF (nmsL k f k) (rngL k f k) = ([], 0, 9) := by
  have h := List.all_eq_true.1 rings_ok (k - 1) (List.mem_range.2 (by omega))
  have h := List.all_eq_true.1 h (f % k) (List.mem_range.2 (by rw [show k - 1 + 1 = k from by omega]; exact Nat.mod_lt _ (by omega)))
  rw [show k - 1 + 1 = k from by omega] at h
  rw [nms_mod, rng_mod]
  exact of_decide_eq_true h
structure Chain (k : Nat) (ns : List ByteArray) (o : List Nat × Int × Int) : Prop where
  ok : o.2.2 = 0
  len : o.1.length = k
  at_ : ∀ i, i < k → o.1.getD i 0 < k ∧ seq (nm ns (o.1.getD i 0)) (wd (k - 1 - i)) = true
theorem chain_ord {k : Nat} (h1 : 1 ≤ k) (h8 : k ≤ 8) (f : Nat) : Chain k (nmsL k f k) (ordF (nmsL k f k) (chnL k f k)) := by
  have h := List.all_eq_true.1 chains_ok (k - 1) (List.mem_range.2 (by omega))
  have h := List.all_eq_true.1 h (f % k) (List.mem_range.2 (by rw [show k - 1 + 1 = k from by omega]; exact Nat.mod_lt _ (by omega)))
  rw [show k - 1 + 1 = k from by omega] at h
  rw [nms_mod, chn_mod]
  unfold chainOk at h
  simp only [Bool.and_eq_true, List.all_eq_true, decide_eq_true_eq] at h
  exact ⟨h.1.1, h.1.2, fun i hi => h.2 i (List.mem_range.2 hi)⟩
end Go.Proofs.Ytbpaadigojfkjaa
