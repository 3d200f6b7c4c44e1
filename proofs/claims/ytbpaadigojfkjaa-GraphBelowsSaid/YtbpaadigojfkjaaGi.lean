/- slices.Sort and slices.Compact on a row of the call's own. -/
import Derived.Test.YtbpaadigojfkjaaGl
import Derived.Test.YtbpaadigojfkjaaShelf
import Derived.Test.YtbpaadigojfkjaaP3
namespace Go.Proofs.Ytbpaadigojfkjaa
open Go.RowKit

def vz (zs : List Int) : List Value := zs.map (Value.int .i64)
theorem vz_length (zs : List Int) : (vz zs).length = zs.length := by simp [vz]
theorem vz_vs (ks : List Nat) : vz (ks.map fun j : Nat => (j : Int)) = vs ks := by simp [vz, vs]

theorem holds_own {base b cap : Nat} {zs : List Int} {w : World} (h : w.ownsRow base 3 1 (.slice (some ⟨b, 0, none⟩) zs.length cap) zs.length (vz zs)) : Sort.Holds (Value.int .i64) w b 0 zs.toArray := by
  intro j hj
  have hj' : j < zs.length := by simpa using hj
  refine ⟨?_, ?_⟩
  · have := h.cells (g := b) rfl j (.int .i64 zs[j]) (by simp [vz, hj'])
    rw [Addr.add_lit] at this
    simpa [hj'] using this
  · have := h.frozenAt (0 + j)
    exact this
/-- A row of the call's own, laid anew by 'putRow'. -/
theorem own_put {base b cap n m : Nat} {zs ys : List Int} {w w' : World} (h : w.ownsRow base 3 1 (.slice (some ⟨b, 0, none⟩) zs.length cap) zs.length (vz zs)) (hl : ys.length = zs.length) (hm : m ≤ zs.length)
    (hw : w'.heap[b]? = (Sort.putRow (Value.int .i64) (Sort.ahead w n) b 0 ys.toArray).heap[b]?) : w'.ownsRow base 3 1 (.slice (some ⟨b, 0, none⟩) m cap) m (vz (ys.take m)) := by
  rcases h.2 with ⟨h0, _⟩ | ⟨b', cap', cur, he, hb, hh, h1, h2, h3, h4⟩
  · cases h0
  · injection he with e1 e2 e3
    injection e1 with e1
    injection e1 with e1
    subst e1 e3
    have hh' : w'.heap[b]? = some (.cells (Sort.putCells (Value.int .i64) 0 ys.toArray cur) 3 (0, 0)) := by
      rw [hw]
      show (w.heap.modify b _)[b]? = _
      rw [Array.getElem?_modify, if_pos rfl, hh]
      rfl
    refine ⟨by simp [vz]; omega, .inr ⟨b, cap, _, rfl, hb, hh', by omega, h2, by simp [Sort.putCells, h3], ?_⟩⟩
    apply List.ext_getElem?
    intro i
    simp only [vz, List.getElem?_take, List.map_take, List.getElem?_map, Nat.mul_one]
    by_cases hi : i < m
    · have hc : i < cur.size := by omega
      simp [hi, Sort.putCells, hc, show i < ys.length by omega]
    · simp [hi]

theorem sort_own {base : Nat} {v : Value} {zs : List Int} {w : World} (h : w.ownsRow base 3 1 v zs.length (vz zs)) (hl : zs.length ≤ 1000) :
    Calls Try.prog 28 #[v] w fun e w' => e = .returned (.tuple #[]) ∧ w'.ownsRow base 3 1 v zs.length (vz (zs.mergeSort fun x y => decide (x ≤ y))) ∧ w.grownBy w' v.ownBlock := by
  rcases h.2 with ⟨rfl, h0⟩ | ⟨b, cap, cur, rfl, hb, hh, h1, h2, h3, h4⟩
  · obtain rfl := List.length_eq_zero_iff.1 h0
    refine (Try.slices_Sort_int_none none 0 w).mono ?_
    rintro e w' ⟨rfl, rfl⟩
    exact ⟨rfl, by simpa using h, World.grownBy.refl _ _⟩
  · have hH := holds_own h
    refine (Try.slices_Sort_int b 0 cap zs w hH (Array.getElem?_eq_some_iff.1 hh).1 (by omega)).mono ?_
    rintro e w' ⟨rfl, n, os, rfl⟩
    have hg : w.grownBy (Sort.grow (Sort.putRow (Value.int .i64) (Sort.ahead w n) b 0 (zs.mergeSort fun x y => decide (x ≤ y)).toArray) os) (some b) := by
      refine ⟨rfl, rfl, rfl, by simp [Sort.grow, Sort.ahead], fun k hk hne => ?_⟩
      show (w.heap.modify b _ ++ os)[k]? = _
      rw [Array.getElem?_append_left (by simpa using hk), Array.getElem?_modify, if_neg (fun e => hne (by rw [e]))]
    refine ⟨rfl, ?_, hg⟩
    have hbw : (Sort.grow (Sort.putRow (Value.int .i64) (Sort.ahead w n) b 0 (zs.mergeSort fun x y => decide (x ≤ y)).toArray) os).heap[b]? = (Sort.putRow (Value.int .i64) (Sort.ahead w n) b 0 (zs.mergeSort fun x y => decide (x ≤ y)).toArray).heap[b]? := by
      show ((Sort.putRow (Value.int .i64) (Sort.ahead w n) b 0 (zs.mergeSort fun x y => decide (x ≤ y)).toArray).heap ++ os)[b]? = _
      rw [Array.getElem?_append_left (by rw [Sort.size_putRow]; exact (Array.getElem?_eq_some_iff.1 hh).1)]
    have := own_put (n := n) (m := zs.length) h (List.length_mergeSort zs) (Nat.le_refl _) hbw
    rw [List.take_of_length_le (by rw [List.length_mergeSort]; exact Nat.le_refl _)] at this
    exact this
theorem compact_own {base : Nat} {v : Value} {zs : List Int} {w : World} (h : w.ownsRow base 3 1 v zs.length (vz zs)) (hl : zs.length ≤ 1000) :
    Calls Try.prog 29 #[v] w fun e w' => ∃ v', e = .returned v' ∧ w'.ownsRow base 3 1 v' (Lib.compact zs).length (vz (Lib.compact zs)) ∧ w.grownBy w' v.ownBlock ∧ v'.ownBlock = v.ownBlock := by
  rcases h.2 with ⟨rfl, h0⟩ | ⟨b, cap, cur, rfl, hb, hh, h1, h2, h3, h4⟩
  · obtain rfl := List.length_eq_zero_iff.1 h0
    refine (Try.slices_Compact_int_empty none 0 w).mono ?_
    rintro e w' ⟨rfl, rfl⟩
    exact ⟨_, rfl, h, World.grownBy.refl _ _, rfl⟩
  · have hH := holds_own h
    refine (Try.slices_Compact_int b 0 cap zs w hH (by omega) h1).mono ?_
    rintro e w' ⟨rfl, n, rfl⟩
    have hcl : (Lib.compact zs).length ≤ zs.length := by
      unfold Lib.compact Lib.compactUpTo
      rw [List.length_map]
      exact Nat.le_trans (List.length_filter_le _ _) (by simp)
    have hg : w.grownBy (Sort.putRow (Value.int .i64) (Sort.ahead w n) b 0 (Lib.compact zs ++ List.replicate (zs.length - (Lib.compact zs).length) 0).toArray) (some b) := by
      refine ⟨rfl, rfl, rfl, by simp [Sort.ahead], fun k _ hk => ?_⟩
      show (w.heap.modify b _)[k]? = _
      rw [Array.getElem?_modify, if_neg (fun e => hk (by rw [e]))]
    refine ⟨_, rfl, ?_, hg, rfl⟩
    have := own_put (n := n) (m := (Lib.compact zs).length) (ys := Lib.compact zs ++ List.replicate (zs.length - (Lib.compact zs).length) 0) h (by rw [List.length_append, List.length_replicate]; omega) hcl rfl
    rw [List.take_left'] at this
    · exact this
    · rfl
end Go.Proofs.Ytbpaadigojfkjaa
