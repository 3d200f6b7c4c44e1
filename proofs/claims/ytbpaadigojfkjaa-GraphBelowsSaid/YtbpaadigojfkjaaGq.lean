/- What the reference's loop keeps in memory: the row of what is done, and the order so far. -/
import Derived.Test.YtbpaadigojfkjaaP9
namespace Go.Proofs.Ytbpaadigojfkjaa
open Go.RowKit

theorem info4 : (Try.prog.info? 4).map (fun i => (i.zero, i.size, i.bytes)) = some (some (.bool false), 1, 1) := by kernel_rfl
def dcs (n : Nat) (out : List Nat) : List Value := (List.range n).map fun i => Value.bool (out.contains i)
theorem make_bools (n : Nat) (hn : n ≤ 1000) : ∀ W : World, (Instr.makeSlice 51 (.int .i64 (n : Int)) (.int .i64 (n : Int))).run Try.prog W = .ok (.slice (some ⟨W.heap.size, 0, none⟩) n n) (W.alloc (.cells (madeCells #[.bool false] n) 4)) :=
  fun W => run_make_row' 51 4 (.bool false) 1 Try.underlying51 info4 rfl .i64 .i64 n (by omega) (by omega) W
theorem made_dcs (n : Nat) : madeCells #[Value.bool false] n = (dcs n []).toArray := by
  apply Array.ext'
  apply List.ext_getElem
  · simp [dcs, madeCells]
  · intro i h1 h2
    simp [dcs, madeCells, Nat.mod_one]
structure Dn (w0 wr : World) (bl n : Nat) (done : List Nat) (vo : Value) (out : List Nat) : Prop where
  blk : wr.heap[bl]? = some (.cells (dcs n done).toArray 4 (0, 0))
  own : wr.ownsRow w0.heap.size 3 1 vo out.length (vs out)
  ne : vo.ownBlock ≠ some bl
  bel : Below w0.heap.size w0 wr
  bbl : w0.heap.size ≤ bl
section
variable {w0 wr w1 : World} {bl n : Nat} {done out : List Nat} {vo : Value}
theorem Dn.br (h : Dn w0 wr bl n done vo out) : BR wr bl n (fun i => done.contains i) := fun i hi => by
  refine ⟨?_, free_blk h.blk i⟩
  rw [cell_blk h.blk]
  simp [dcs, hi]
theorem Dn.still (h : Dn w0 wr bl n done vo out) (hc : Ch (fun _ => False) wr w1) : Dn w0 w1 bl n done vo out :=
  ⟨hc.blk h.blk (fun hf => hf), hc.own h.own (fun _ _ hf => hf), h.ne, hc.below h.bel (fun _ hf => hf.elim) h.bel.size, h.bbl⟩
theorem Dn.set (h : Dn w0 wr bl n done vo out) (x : Nat) : Dn w0 (wr.setCell ⟨bl, x, none⟩ (.bool true)) bl n (done ++ [x]) vo out := by
  have hc : Ch (fun k => k = bl) wr (wr.setCell ⟨bl, x, none⟩ (.bool true)) := (Ch.refl (fun k => k = bl) wr).setCell (p := ⟨bl, x, none⟩) (.inl rfl) _
  refine ⟨?_, hc.own h.own (fun k hk e => h.ne (by rw [hk, e])), h.ne, hc.below h.bel (fun k hk => by rw [hk]; exact h.bbl) h.bel.size, h.bbl⟩
  rw [heap_setCell_same' h.blk]
  congr 2
  apply Array.ext'
  apply List.ext_getElem
  · simp [dcs]
  · intro i h1 h2
    have hi : i < n := by simpa [dcs] using h2
    by_cases e : x = i
    · subst e; simp [dcs]
    · have : ¬ i = x := fun e2 => e e2.symm
      simp [dcs, e, this]
theorem Dn.grown (h : Dn w0 wr bl n done vo out) {g cap x : Nat} (hown : w1.ownsRow w0.heap.size 3 1 (.slice (some ⟨g, 0, none⟩) (out.length + 1) cap) (out.length + 1) (vs out ++ [.int .i64 x]))
    (hg : wr.grownBy w1 vo.ownBlock) (hor : vo.ownBlock = some g ∨ wr.heap.size ≤ g) : Dn w0 w1 bl n done (.slice (some ⟨g, 0, none⟩) (out.length + 1) cap) (out ++ [x]) := by
  have hc := Ch.of_grown hg
  refine ⟨hc.blk h.blk (fun e => h.ne e.symm), by simpa [vs] using hown, fun e => ?_, hc.below h.bel (fun b hb => (h.own.lt b hb.symm).1) h.bel.size, h.bbl⟩
  simp only [Value.ownBlock] at e
  injection e with e
  subst e
  rcases hor with hor | hor
  · exact h.ne hor
  · have := (Array.getElem?_eq_some_iff.1 h.blk).1
    omega
theorem Dn.init (w0 : World) (n : Nat) : Dn w0 (w0.alloc (.cells (madeCells #[.bool false] n) 4)) w0.heap.size n [] (.slice none 0 0) [] := by
  refine ⟨?_, World.ownsRow_nil _ _ _ _, by simp [Value.ownBlock], (Below.refl _ _).alloc (Nat.le_refl _) _, Nat.le_refl _⟩
  rw [heap_alloc_new, made_dcs]
end
end Go.Proofs.Ytbpaadigojfkjaa
