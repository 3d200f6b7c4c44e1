/- The heap's sift up, over a list of numbers and in memory. -/
import Derived.Test.YtbpaadigojfkjaaGc
import Derived.Test.YtbpaadigojfkjaaP1
namespace Go.Proofs.Ytbpaadigojfkjaa
open Go.RowKit

/-- A name of a number; less, by names. -/
def nm (ns : List ByteArray) (x : Nat) : ByteArray := ns.getD x ByteArray.empty
def lts (ns : List ByteArray) (x y : Nat) : Bool := Op.bytesLess (nm ns x).toList (nm ns y).toList

/-- The names at A, in blocks below lim. -/
def NS (w : World) (A : Option Addr) (ns : List ByteArray) (lim : Nat) : Prop := ∀ i, i < ns.length → ∃ ad, A = some ad ∧ ad.block < lim ∧ w.cell? (ad.add i) = some (.string (nm ns i))
theorem NS.keep {w w1 : World} {A : Option Addr} {ns : List ByteArray} {lim : Nat} {S : Nat → Prop} (h : NS w A ns lim) (hc : Ch S w w1) (hS : ∀ k, S k → lim ≤ k) : NS w1 A ns lim := by
  intro i hi
  obtain ⟨ad, hA, hl, hcell⟩ := h i hi
  refine ⟨ad, hA, hl, ?_⟩
  have hb : (ad.add i).block = ad.block := by unfold Addr.add; split <;> rfl
  have hlt : (ad.add i).block < w.heap.size := World.block_lt_of_cell? w _ hcell
  rw [← hcell]
  refine World.cell?_of_block (hc.block _ hlt (fun hs => ?_))
  have := hS _ hs
  omega

section
variable {base g : Nat} {A : Option Addr} {m d : Nat} {w w1 : World} {v : Value} {xs : List Nat}
/-- The list's value, where there is an element. -/
theorem RS.form (h : RS base g A m d w v xs) (hp : 0 < xs.length) : ∃ b cap, v = .slice (some ⟨b, 0, none⟩) xs.length cap ∧ b ≠ g ∧ base ≤ b ∧ ∃ cur, w.heap[b]? = some (.cells cur 3 (0, 0)) ∧ xs.length ≤ cap ∧ cap ≤ maxLen ∧ cur.size = cap ∧ cur.toList.take xs.length = vs xs := by
  rcases h.own.2 with ⟨_, h0⟩ | ⟨b, cap, cur, rfl, hb, hh, h1, h2, h3, h4⟩
  · omega
  · exact ⟨b, cap, rfl, fun e => h.ne (by simp [Value.ownBlock, e]), hb, cur, hh, h1, h2, by simpa using h3, by simpa using h4⟩
theorem RS.at {b cap n : Nat} (h : RS base g A m d w (.slice (some ⟨b, 0, none⟩) n cap) xs) (i : Nat) (hi : i < xs.length) : w.cell? ⟨b, i, none⟩ = some (.int .i64 (xs.getD i 0)) ∧ w.frozen? ⟨b, i, none⟩ = false := by
  obtain ⟨b', cap', he, _, _, cur, hh, h1, h2, h3, h4⟩ := h.form (by omega)
  injection he with e1 e2 e3
  injection e1 with e1
  injection e1 with e1
  subst e1
  refine ⟨?_, free_blk hh i⟩
  rw [cell_blk hh]
  have : (cur.toList.take xs.length)[i]? = (vs xs)[i]? := by rw [h4]
  rw [List.getElem?_take, if_pos hi, vs_get xs i hi] at this
  simpa [List.getD_eq_getElem?_getD, hi] using this
theorem RS.swapped {b cap n : Nat} (h : RS base g A m d w (.slice (some ⟨b, 0, none⟩) n cap) xs) (i j : Nat) (_hi : i < xs.length) (hj : j < xs.length) :
    RS base g A m d ((w.setCell ⟨b, i, none⟩ (.int .i64 (xs.getD j 0))).setCell ⟨b, j, none⟩ (.int .i64 (xs.getD i 0))) (.slice (some ⟨b, 0, none⟩) n cap) (swp xs i j) ∧
      Ch (fun k => some k = (Value.slice (some ⟨b, 0, none⟩) n cap).ownBlock) w ((w.setCell ⟨b, i, none⟩ (.int .i64 (xs.getD j 0))).setCell ⟨b, j, none⟩ (.int .i64 (xs.getD i 0))) := by
  obtain ⟨b', cap', he, hne, hbb, cur, hh, h1, h2, h3, h4⟩ := h.form (by omega)
  injection he with e1 e2 e3
  injection e1 with e1
  injection e1 with e1
  subst e1 e2 e3
  have hc : Ch (fun k => some k = (Value.slice (some ⟨b, 0, none⟩) xs.length cap).ownBlock) w ((w.setCell ⟨b, i, none⟩ (.int .i64 (xs.getD j 0))).setCell ⟨b, j, none⟩ (.int .i64 (xs.getD i 0))) :=
    ((Ch.refl (fun k => some k = (Value.slice (some ⟨b, 0, none⟩) xs.length cap).ownBlock) w).setCell (p := ⟨b, i, none⟩) (.inl rfl) _).setCell (p := ⟨b, j, none⟩) (.inl rfl) _
  refine ⟨⟨hc.blk h.blk (by simp [Value.ownBlock]; omega), ?_, h.ne⟩, hc⟩
  have hh2 := heap_setCell_same' (i := j) (heap_setCell_same' (i := i) hh (.int .i64 (xs.getD j 0))) (.int .i64 (xs.getD i 0))
  refine ⟨by simp [vs], .inr ⟨b, cap, _, by rw [swp_length], hbb, hh2, by rw [swp_length]; exact h1, h2, by simp [h3], ?_⟩⟩
  rw [swp_length]
  simp only [Nat.mul_one, Array.toList_setIfInBounds, List.take_set, h4]
  simp [vs, swp, List.map_set]
end

theorem method_less (a : Addr) (w : World) : (method 209 42 (.pointer (some a)) "Less").run Try.prog w = .ok (70, .pointer (some a)) w := by kernel_rfl
theorem method_swap (a : Addr) (w : World) : (method 209 42 (.pointer (some a)) "Swap").run Try.prog w = .ok (73, .pointer (some a)) w := by kernel_rfl
theorem method_len (a : Addr) (w : World) : (method 209 42 (.pointer (some a)) "Len").run Try.prog w = .ok (20, .pointer (some a)) w := by kernel_rfl
theorem method_push (a : Addr) (w : World) : (method 209 42 (.pointer (some a)) "Push").run Try.prog w = .ok (72, .pointer (some a)) w := by kernel_rfl
theorem method_pop (a : Addr) (w : World) : (method 209 42 (.pointer (some a)) "Pop").run Try.prog w = .ok (71, .pointer (some a)) w := by kernel_rfl

/-- 'Less', of the heap's state. -/
theorem less_rs {base g : Nat} {A : Option Addr} {d : Nat} {w : World} {v : Value} {xs : List Nat} {ns : List ByteArray} (h : RS base g A ns.length d w v xs) (hN : NS w A ns base) (hx : ∀ x ∈ xs, x < ns.length) (i j : Nat) (hi : i < xs.length) (hj : j < xs.length) :
    Calls Try.prog 70 #[.pointer (some ⟨g, 0, none⟩), .int .i64 i, .int .i64 j] w fun e w' => e = .returned (.bool (lts ns (xs.getD i 0) (xs.getD j 0))) ∧ RS base g A ns.length d w' v xs ∧ Ch (fun _ => False) w w' := by
  obtain ⟨b, cap, rfl, _, _, _⟩ := h.form (by omega)
  obtain ⟨ci, _⟩ := h.at i hi
  obtain ⟨cj, _⟩ := h.at j hj
  have hxi : xs.getD i 0 < ns.length := hx _ (by simp [List.getD_eq_getElem?_getD, hi])
  have hxj : xs.getD j 0 < ns.length := hx _ (by simp [List.getD_eq_getElem?_getD, hj])
  obtain ⟨ad, hA, _, si⟩ := hN _ hxi
  obtain ⟨ad', hA', _, sj⟩ := hN _ hxj
  subst hA
  injection hA' with hA'
  subst hA'
  refine (less_any g b _ cap ad _ d i j _ _ _ _ w h.c0 h.c1 hi hj hxi hxj ci cj si sj).mono ?_
  rintro e w' ⟨rfl, q, rfl⟩
  exact ⟨rfl, h.of_heap rfl, (Ch.refl _ w).drewN q⟩

/-- 'Swap', of the heap's state. -/
theorem swap_rs {base g : Nat} {A : Option Addr} {m d : Nat} {w : World} {v : Value} {xs : List Nat} (h : RS base g A m d w v xs) (i j : Nat) (hi : i < xs.length) (hj : j < xs.length) :
    Calls Try.prog 73 #[.pointer (some ⟨g, 0, none⟩), .int .i64 i, .int .i64 j] w fun e w' => e = .returned (.tuple #[]) ∧ RS base g A m d w' v (swp xs i j) ∧ Ch (fun k => some k = v.ownBlock) w w' := by
  obtain ⟨b, cap, rfl, _, _, _⟩ := h.form (by omega)
  obtain ⟨ci, fi⟩ := h.at i hi
  obtain ⟨cj, fj⟩ := h.at j hj
  refine (swap_any g b _ cap i j _ _ w h.c0 hi hj ci cj fi fj).mono ?_
  rintro e w' ⟨rfl, q, rfl⟩
  obtain ⟨h1, h2⟩ := h.swapped i j hi hj
  exact ⟨rfl, h1.of_heap rfl, h2.drewN q⟩
end Go.Proofs.Ytbpaadigojfkjaa
