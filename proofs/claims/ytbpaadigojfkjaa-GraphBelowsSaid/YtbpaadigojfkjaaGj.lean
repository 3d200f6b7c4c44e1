/- What Order's loops keep in memory; what edges answers, said. -/
import Derived.Test.YtbpaadigojfkjaaGg
import Derived.Test.YtbpaadigojfkjaaGh
import Derived.Test.YtbpaadigojfkjaaP2
namespace Go.Proofs.Ytbpaadigojfkjaa
open Go.RowKit

/-- Rows of numbers, of strings, that are read at a. -/
def RR (w : World) (a : Option Addr) (n : Nat) (rows : Nat → List Nat) : Prop := ∀ i, i < n → ∃ ad b c, a = some ad ∧ w.cell? (ad.add i) = some (.slice b (rows i).length c) ∧ IR w b (rows i)
def NR (w : World) (a : Option Addr) (nss : List (List ByteArray)) : Prop := ∀ i, i < nss.length → ∃ ad b c, a = some ad ∧ w.cell? (ad.add i) = some (.slice b (nss.getD i []).length c) ∧ (nss.getD i []).length ≤ c ∧ SR w b (nss.getD i [])
theorem RR.below {w w1 : World} {a : Option Addr} {n : Nat} {rows : Nat → List Nat} (h : RR w a n rows) (hb : Below w.heap.size w w1) : RR w1 a n rows := fun i hi => by
  obtain ⟨ad, b, c, e, hc, hr⟩ := h i hi
  exact ⟨ad, b, c, e, (hb.cell (World.block_lt_of_cell? w _ hc)).trans hc, hr.below hb⟩
theorem NR.below {w w1 : World} {a : Option Addr} {nss : List (List ByteArray)} (h : NR w a nss) (hb : Below w.heap.size w w1) : NR w1 a nss := fun i hi => by
  obtain ⟨ad, b, c, e, hc, hl, hr⟩ := h i hi
  exact ⟨ad, b, c, e, (hb.cell (World.block_lt_of_cell? w _ hc)).trans hc, hl, hr.below hb⟩
theorem SR.ns {w : World} {a : Option Addr} {ns : List ByteArray} (h : SR w a ns) : NS w a ns w.heap.size := fun i hi => by
  obtain ⟨ad, e, hc⟩ := h i hi
  refine ⟨ad, e, ?_, hc⟩
  have := World.block_lt_of_cell? w _ hc
  have hb : (ad.add i).block = ad.block := by unfold Addr.add; split <;> rfl
  omega

/-! ### What is answered -/
def idx (ns : List ByteArray) (s : ByteArray) : Int := ix (pS s ns) ns.length 0
/-- The packages that package k imports, rising. -/
def rowsF (ns : List ByteArray) (nss : List (List ByteArray)) (k : Nat) : List Nat := (List.range ns.length).filter fun j => (nss.getD k []).any fun s => decide (idx ns s = (j : Int))
/-- Does package i import what is no name? -/
def badP (ns : List ByteArray) (nss : List (List ByteArray)) (i : Nat) : Bool := (nss.getD i []).any fun s => decide (idx ns s < 0)
def badF (ns : List ByteArray) (nss : List (List ByteArray)) : Int := ix (badP ns nss) (min ns.length nss.length) 0
/-- Has one ahead of package i its name? -/
def twiceP (ns : List ByteArray) (i : Nat) : Bool := decide (0 ≤ ix (pS (nm ns i) (ns.take i)) (ns.take i).length 0)
def twiceF (ns : List ByteArray) : Int := ix (twiceP ns) ns.length 0
def outF (ns : List ByteArray) (nss : List (List ByteArray)) : List Nat := gr ns.length (lts ns) (rowsF ns nss)
def lackP (out : List Nat) (i : Nat) : Bool := !out.contains i
def ordF (ns : List ByteArray) (nss : List (List ByteArray)) : List Nat × Int × Int :=
  if 8 < ns.length then ([], 0, 12) else if 0 ≤ twiceF ns then ([], twiceF ns, 7) else if 0 ≤ badF ns nss then ([], badF ns nss, 6) else
  if 0 ≤ ix (lackP (outF ns nss)) ns.length 0 then ([], ix (lackP (outF ns nss)) ns.length 0, 9) else (outF ns nss, 0, 0)

/-- What edges answers. -/
def EdgesSaid : Prop := ∀ (a b : Option Addr) (c d : Nat) (ns : List ByteArray) (nss : List (List ByteArray)) (w : World), SR w a ns → ns.length ≤ 8 → ns.length ≤ c → NR w b nss → nss.length ≤ 1000 → (∀ i, (nss.getD i []).length ≤ 1000) →
  Calls Try.prog 18 #[.slice a ns.length c, .slice b nss.length d] w fun e w' => ∃ v, e = .returned (.tuple #[v, .int .i64 (badF ns nss)]) ∧ Below w.heap.size w w' ∧
    (badF ns nss < 0 → ∃ p q, v = .slice p ns.length q ∧ RR w' p ns.length (rowsF ns nss))

/-! ### What Order's loops keep in memory -/
structure St (w1 : World) (A : Option Addr) (m d bl g : Nat) (wr : World) (lacks xs : List Nat) (v : Value) : Prop where
  lk : wr.heap[bl]? = some (.cells (vs lacks).toArray 3 (0, 0))
  rs : RS w1.heap.size g A m d wr v xs
  bel : Below w1.heap.size w1 wr
  ne : bl ≠ g
  bbl : w1.heap.size ≤ bl
  bg : w1.heap.size ≤ g
  nv : v.ownBlock ≠ some bl
/-- The row that is answered. -/
structure Orow (w1 : World) (bl g : Nat) (v : Value) (wr : World) (vo : Value) (out : List Nat) : Prop where
  own : wr.ownsRow w1.heap.size 3 1 vo out.length (vs out)
  ne : ∀ k, vo.ownBlock = some k → k ≠ bl ∧ k ≠ g ∧ v.ownBlock ≠ some k

section
variable {w1 wr w2 : World} {A : Option Addr} {m d bl g : Nat} {lacks xs out : List Nat} {v vo : Value}
theorem St.lk_at (h : St w1 A m d bl g wr lacks xs v) (i : Nat) (hi : i < lacks.length) : wr.cell? ⟨bl, i, none⟩ = some (.int .i64 (lacks.getD i 0 : Nat)) ∧ wr.frozen? ⟨bl, i, none⟩ = false := by
  refine ⟨?_, free_blk h.lk i⟩
  rw [cell_blk h.lk]
  simp [vs, hi, List.getD_eq_getElem?_getD]
theorem St.ch (h : St w1 A m d bl g wr lacks xs v) {S : Nat → Prop} (hc : Ch S wr w2) (hS : ∀ k, S k → w1.heap.size ≤ k) : Below w1.heap.size w1 w2 := hc.below h.bel hS h.bel.size
theorem St.set (h : St w1 A m d bl g wr lacks xs v) (i x : Nat) : St w1 A m d bl g (wr.setCell ⟨bl, i, none⟩ (.int .i64 x)) (lacks.set i x) xs v := by
  have hc : Ch (fun k => k = bl) wr (wr.setCell ⟨bl, i, none⟩ (.int .i64 x)) := (Ch.refl (fun k => k = bl) wr).setCell (p := ⟨bl, i, none⟩) (.inl rfl) _
  refine ⟨?_, h.rs.keep hc (fun e => h.ne e.symm) (fun k hk e => h.nv (by rw [hk, e])), h.ch hc (fun k hk => by rw [hk]; exact h.bbl), h.ne, h.bbl, h.bg, h.nv⟩
  rw [heap_setCell_same' h.lk]
  simp [vs, List.map_set]
theorem St.same (h : St w1 A m d bl g wr lacks xs v) (he : w2.heap = wr.heap) (h1 : w2.os = wr.os) (h2 : w2.tape = wr.tape) (h3 : w2.output = wr.output) : St w1 A m d bl g w2 lacks xs v :=
  ⟨by rw [he]; exact h.lk, h.rs.of_heap he, h.ch ((Ch.refl (fun _ => False) wr).of_same he h1 h2 h3) (fun _ hf => hf.elim), h.ne, h.bbl, h.bg, h.nv⟩
theorem St.still (h : St w1 A m d bl g wr lacks xs v) (hc : Ch (fun _ => False) wr w2) : St w1 A m d bl g w2 lacks xs v :=
  ⟨hc.blk h.lk (fun hf => hf), h.rs.keep hc (fun hf => hf) (fun _ _ hf => hf), h.ch hc (fun _ hf => hf.elim), h.ne, h.bbl, h.bg, h.nv⟩
/-- Behind Push and Pop. -/
theorem St.turned (h : St w1 A m d bl g wr lacks xs v) {v' : Value} {ys : List Nat} (hr : RS w1.heap.size g A m d w2 v' ys) (hc : Ch (fun k => k = g ∨ some k = v.ownBlock) wr w2)
    (ho : v'.ownBlock = v.ownBlock ∨ ∃ b, v'.ownBlock = some b ∧ wr.heap.size ≤ b) : St w1 A m d bl g w2 lacks ys v' := by
  refine ⟨hc.blk h.lk (fun e => e.elim h.ne (fun e => h.nv e.symm)), hr, h.ch hc (fun k hk => hk.elim (fun e => by rw [e]; exact h.bg) (fun e => (h.rs.own.lt k e.symm).1)), h.ne, h.bbl, h.bg, ?_⟩
  rcases ho with ho | ⟨b, ho, hb⟩
  · rw [ho]; exact h.nv
  · rw [ho]
    intro e
    injection e with e
    have := (Array.getElem?_eq_some_iff.1 h.lk).1
    omega
theorem Orow.nil : Orow w1 bl g v wr (.slice none 0 0) [] := ⟨World.ownsRow_nil _ _ _ _, fun k hk => by simp [Value.ownBlock] at hk⟩
theorem Orow.still (h : Orow w1 bl g v wr vo out) (hc : Ch (fun _ => False) wr w2) : Orow w1 bl g v w2 vo out := ⟨hc.own h.own (fun _ _ hf => hf), h.ne⟩
theorem Orow.set (h : Orow w1 bl g v wr vo out) (i : Nat) (u : Value) : Orow w1 bl g v (wr.setCell ⟨bl, i, none⟩ u) vo out :=
  ⟨((Ch.refl (fun k => k = bl) wr).setCell (p := ⟨bl, i, none⟩) (.inl rfl) u).own h.own (fun k hk e => (h.ne k hk).1 e), h.ne⟩
theorem Orow.turned (h : Orow w1 bl g v wr vo out) {v' : Value} (hc : Ch (fun k => k = g ∨ some k = v.ownBlock) wr w2) (ho : v'.ownBlock = v.ownBlock ∨ ∃ b, v'.ownBlock = some b ∧ wr.heap.size ≤ b) : Orow w1 bl g v' w2 vo out := by
  refine ⟨hc.own h.own (fun k hk e => e.elim (h.ne k hk).2.1 (fun e => (h.ne k hk).2.2 e.symm)), fun k hk => ⟨(h.ne k hk).1, (h.ne k hk).2.1, ?_⟩⟩
  rcases ho with ho | ⟨b, ho, hb⟩
  · rw [ho]; exact (h.ne k hk).2.2
  · rw [ho]
    intro e
    injection e with e
    have := (h.own.lt k hk).2
    omega
/-- Behind an append to the row. -/
theorem St.grown (h : St w1 A m d bl g wr lacks xs v) (ho : Orow w1 bl g v wr vo out) (hg : wr.grownBy w2 vo.ownBlock) : St w1 A m d bl g w2 lacks xs v := by
  have hc := Ch.of_grown hg
  refine ⟨hc.blk h.lk (fun e => (ho.ne bl e.symm).1 rfl), h.rs.keep hc (fun e => (ho.ne g e.symm).2.1 rfl) (fun k hk e => (ho.ne k e.symm).2.2 hk), h.ch hc (fun k hk => (ho.own.lt k hk.symm).1), h.ne, h.bbl, h.bg, h.nv⟩
theorem Orow.grown (h : St w1 A m d bl g wr lacks xs v) (ho : Orow w1 bl g v wr vo out) {g' cap' x : Nat} (hown : w2.ownsRow w1.heap.size 3 1 (.slice (some ⟨g', 0, none⟩) (out.length + 1) cap') (out.length + 1) (vs out ++ [.int .i64 x]))
    (hor : vo.ownBlock = some g' ∨ wr.heap.size ≤ g') : Orow w1 bl g v w2 (.slice (some ⟨g', 0, none⟩) (out.length + 1) cap') (out ++ [x]) := by
  refine ⟨by simpa [vs] using hown, fun k hk => ?_⟩
  simp [Value.ownBlock] at hk
  subst hk
  rcases hor with hor | hor
  · exact ho.ne g' hor
  · have h1 := (Array.getElem?_eq_some_iff.1 h.lk).1
    have h2 := h.rs.lt
    refine ⟨by omega, by omega, fun e => ?_⟩
    have := (h.rs.own.lt g' e).2
    omega
end
end Go.Proofs.Ytbpaadigojfkjaa
