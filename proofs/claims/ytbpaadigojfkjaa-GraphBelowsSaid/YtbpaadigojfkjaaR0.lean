/- A list of strings, and a list of such lists, that came in: opened. -/
import Derived.Test.YtbpaadigojfkjaaGj
import Derived.Test.YtbpaadigojfkjaaRows
import Derived.ProofKit
import Derived.SliceStrings
import Derived.Deep.Slices
namespace Go.Proofs.Ytbpaadigojfkjaa
open Go.ChangeShapes Go.WideShapes Go.ChangeAt Go.RowKit Go.Deep

theorem Try.own : ownKnob Try.prog.godebug = none := by kernel_rfl
theorem Try.laidOut : laidOutB Try.prog = true := by kernel_rfl
theorem Try.cells9 : Try.prog.cellsOf 9 = 1 := by kernel_rfl
theorem Try.cells22 : Try.prog.cellsOf 22 = 1 := by kernel_rfl

section
variable {H : Type} {enc : TypeId × Value → H} {W : World}
theorem open_sr {fuel : Nat} {cs : List Value} {x : DataW H × List MemPlace} (h : DataW.trod enc Try.prog W 0 (fun _ => true) true fuel 22 cs = some x) :
    ∃ (a : Option Addr) (ns : List ByteArray) (c : Nat), cs = [.slice a ns.length c] ∧ ns.length ≤ c ∧ SR W a ns := by
  rcases open_strings Try.underlying22 Try.underlying9 Try.cells9 h with ⟨hcs, _⟩ | ⟨a, len, cap, ss, hcs, _, hl, _, hz, _, hcell, _⟩
  · exact ⟨none, [], 0, hcs, Nat.le_refl _, fun i hi => by simp at hi⟩
  · simp only [if_true] at hz
    have hlen : (ss.take len).length = len := by simp; omega
    refine ⟨some a, ss.take len, cap, by rw [hlen]; exact hcs, by omega, fun i hi => ⟨a, rfl, ?_⟩⟩
    rw [hlen] at hi
    rw [hcell i (by omega)]
    simp [nm, List.getD_eq_getElem?_getD, hi]
theorem open_nr {fuel : Nat} {cs : List Value} {x : DataW H × List MemPlace} (h : DataW.trod enc Try.prog W 0 (fun _ => true) true fuel 23 cs = some x) :
    ∃ (a : Option Addr) (nss : List (List ByteArray)) (c : Nat), cs = [.slice a nss.length c] ∧ nss.length ≤ c ∧ NR W a nss := by
  rcases open_slice1 Try.underlying23 Try.cells22 h with ⟨hcs, _⟩ | ⟨a, len, cap, m, n, V, D, Pl, hcs, _, hl, _, hm, _, hx⟩
  · exact ⟨none, [], 0, hcs, Nat.le_refl _, fun i hi => by simp at hi⟩
  · simp only [if_true] at hm
    have key : ∀ i, i < len → ∃ f : List ByteArray, ∃ b q, W.cell? (a.add i) = some (.slice b f.length q) ∧ f.length ≤ q ∧ SR W b f := fun i hi => by
      obtain ⟨h1, h2⟩ := hx i (by omega)
      obtain ⟨b, f, q, h3, h4, h5⟩ := open_sr h2
      injection h3 with h3
      exact ⟨f, b, q, by rw [h1, h3], h4, h5⟩
    obtain ⟨F, hF⟩ := choose_lt key
    refine ⟨some a, (List.range len).map F, cap, by simpa using hcs, by simpa using hl, fun i hi => ?_⟩
    have hi' : i < len := by simpa using hi
    obtain ⟨b, q, h1, h2, h3⟩ := hF i hi'
    have e : ((List.range len).map F).getD i [] = F i := by simp [List.getD_eq_getElem?_getD, hi']
    rw [e]
    exact ⟨a, b, q, rfl, h1, h2, h3⟩
end
end Go.Proofs.Ytbpaadigojfkjaa
