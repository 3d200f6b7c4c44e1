/- graph.edges walked. -/
import Derived.Test.YtbpaadigojfkjaaGi
namespace Go.Proofs.Ytbpaadigojfkjaa
open Go.RowKit

def RowV (wr : World) (bo : Nat) (v : Value) (row : List Nat) : Prop := ∃ b c, v = .slice b row.length c ∧ IR wr b row ∧ ∀ ad, b = some ad → ad.block ≠ bo ∧ ad.block < wr.heap.size
/-- Ahead of package i. -/
structure Eo (w0 wr : World) (bo n : Nat) (rows : Nat → List Nat) (i : Nat) (vals : List Value) : Prop where
  blk : wr.heap[bo]? = some (.cells vals.toArray 26 (0, 0))
  len : vals.length = n
  bel : Below w0.heap.size w0 wr
  bb : w0.heap.size ≤ bo
  done : ∀ j, j < i → j < n → ∃ v, vals[j]? = some v ∧ RowV wr bo v (rows j)
  todo : ∀ j, i ≤ j → j < n → vals[j]? = some (.slice none 0 0)
/-- Within package i: its row so far. -/
structure Ei (wi wr : World) (bo i : Nat) (vals : List Value) (vi : Value) (ks : List Nat) : Prop where
  blk : wr.heap[bo]? = some (.cells (vals.set i vi).toArray 26 (0, 0))
  own : wr.ownsRow wi.heap.size 3 1 vi ks.length (vs ks)
  ch : Ch (fun k => k = bo) wi wr

theorem info26 : (Try.prog.info? 26).map (fun i => (i.zero, i.size, i.bytes)) = some (some (.slice none 0 0), 1, 24) := by kernel_rfl
theorem make_rows (n : Nat) (hn : n ≤ 1000) : ∀ W : World, (Instr.makeSlice 39 (.int .i64 (n : Int)) (.int .i64 (n : Int))).run Try.prog W = .ok (.slice (some ⟨W.heap.size, 0, none⟩) n n) (W.alloc (.cells (madeCells #[.slice none 0 0] n) 26)) :=
  fun W => run_make_row' 39 26 (.slice none 0 0) 24 Try.underlying39 info26 rfl .i64 .i64 n (by omega) (by omega) W

section
variable {w0 wi wr w' : World} {bo n i : Nat} {rows : Nat → List Nat} {vals : List Value} {vi : Value} {ks : List Nat}
theorem Eo.init (w0 : World) (n : Nat) (rows : Nat → List Nat) : Eo w0 (w0.alloc (.cells (madeCells #[.slice none 0 0] n) 26)) w0.heap.size n rows 0 (List.replicate n (.slice none 0 0)) := by
  refine ⟨?_, by simp, (Below.refl _ _).alloc (Nat.le_refl _) _, Nat.le_refl _, fun j h _ => by omega, fun j _ hj => by simp [hj]⟩
  have := heap_alloc_new w0 (.cells (madeCells #[.slice none 0 0] n) 26)
  have e : madeCells #[Value.slice none 0 0] n = (List.replicate n (Value.slice none 0 0)).toArray := by
    apply Array.ext'
    apply List.ext_getElem
    · simp [madeCells]
    · intro i h1 h2
      simp [madeCells, Nat.mod_one]
  rw [e] at this ⊢
  exact this
theorem Eo.bo_lt (h : Eo w0 wi bo n rows i vals) : bo < wi.heap.size := (Array.getElem?_eq_some_iff.1 h.blk).1
theorem Ei.start (h : Eo w0 wi bo n rows i vals) (hi : i < n) : Ei wi wi bo i vals (.slice none 0 0) [] := by
  refine ⟨?_, World.ownsRow_nil _ _ _ _, Ch.refl _ _⟩
  have : vals.set i (.slice none 0 0) = vals := by
    have h1 := h.todo i (Nat.le_refl _) hi
    obtain ⟨hl, he⟩ := List.getElem?_eq_some_iff.1 h1
    rw [← he]
    exact List.set_getElem_self hl
  rw [this]
  exact h.blk
theorem Ei.cell (h : Ei wi wr bo i vals vi ks) (hi : i < vals.length) : wr.cell? ⟨bo, i, none⟩ = some vi ∧ wr.frozen? ⟨bo, i, none⟩ = false := by
  refine ⟨?_, free_blk h.blk i⟩
  rw [cell_blk h.blk]
  simp [hi]
theorem Ei.lt (h : Ei wi wr bo i vals vi ks) (hb : bo < wi.heap.size) (k : Nat) (hk : vi.ownBlock = some k) : k ≠ bo ∧ wi.heap.size ≤ k := by
  have := (h.own.lt k hk).1
  exact ⟨by omega, this⟩
/-- Behind what turns the row alone. -/
theorem Ei.keep (h : Ei wi wr bo i vals vi ks) (hb : bo < wi.heap.size) (hg : wr.grownBy w' vi.ownBlock) : w'.heap[bo]? = some (.cells (vals.set i vi).toArray 26 (0, 0)) ∧ Ch (fun k => k = bo) wi w' :=
  ⟨(Ch.of_grown hg).blk h.blk (fun e => (h.lt hb bo e.symm).1 rfl), h.ch.trans (Ch.of_grown hg) (fun k hk => .inr (h.lt hb k hk.symm).2)⟩
/-- The new row stored. -/
theorem Ei.stored {v' : Value} {ks' : List Nat} (hb : bo < wi.heap.size) (hblk : w'.heap[bo]? = some (.cells (vals.set i vi).toArray 26 (0, 0))) (hc : Ch (fun k => k = bo) wi w') (ho : w'.ownsRow wi.heap.size 3 1 v' ks'.length (vs ks')) :
    Ei wi (w'.setCell ⟨bo, i, none⟩ v') bo i vals v' ks' := by
  have h1 : Ch (fun k => k = bo) w' (w'.setCell ⟨bo, i, none⟩ v') := (Ch.refl (fun k => k = bo) w').setCell (p := ⟨bo, i, none⟩) (.inl rfl) _
  refine ⟨?_, h1.own ho (fun k hk e => ?_), hc.setCell (p := ⟨bo, i, none⟩) (.inl rfl) _⟩
  · rw [heap_setCell_same' hblk]
    simp
  · have := (ho.lt k hk).1
    omega
theorem ir_own {base : Nat} {w : World} {v : Value} {row : List Nat} (h : w.ownsRow base 3 1 v row.length (vs row)) : ∃ b c, v = .slice b row.length c ∧ IR w b row ∧ ∀ ad, b = some ad → v.ownBlock = some ad.block := by
  rcases h.2 with ⟨rfl, h0⟩ | ⟨b, cap, cur, rfl, hb, hh, h1, h2, h3, h4⟩
  · exact ⟨none, 0, by rw [h0], fun i hi => by omega, fun ad e => by cases e⟩
  · refine ⟨_, cap, rfl, fun i hi => ⟨_, rfl, ?_⟩, fun ad e => by injection e with e; subst e; rfl⟩
    have := h.cells (g := b) rfl i (.int .i64 (row[i] : Int)) (by simp [vs, hi])
    rw [this]
    simp [List.getD_eq_getElem?_getD, hi]
theorem IR.ch {w w1 : World} {b : Option Addr} {row : List Nat} {bo : Nat} (h : IR w b row) (hc : Ch (fun k => k = bo) w w1) (hb : ∀ ad, b = some ad → ad.block ≠ bo ∧ ad.block < w.heap.size) : IR w1 b row := fun i hi => by
  obtain ⟨ad, e, hcell⟩ := h i hi
  refine ⟨ad, e, ?_⟩
  have h1 : (ad.add i).block = ad.block := by unfold Addr.add; split <;> rfl
  rw [← hcell]
  exact World.cell?_of_block (hc.block _ (by rw [h1]; exact (hb ad e).2) (by rw [h1]; exact (hb ad e).1))
/-- Package i is done. -/
theorem Eo.next (h : Eo w0 wi bo n rows i vals) (hi : i < n) (he : Ei wi wr bo i vals vi (rows i)) : Eo w0 wr bo n rows (i + 1) (vals.set i vi) := by
  have hbl := h.bo_lt
  refine ⟨he.blk, by simp [h.len], he.ch.below h.bel (fun k hk => by rw [hk]; exact h.bb) h.bel.size, h.bb, ?_, ?_⟩
  · intro j hj hn
    by_cases e : j = i
    · subst e
      refine ⟨vi, by simp [h.len, hn], ?_⟩
      obtain ⟨b, c, rfl, h2, h3⟩ := ir_own he.own
      exact ⟨b, c, rfl, h2, fun ad e => ⟨(he.lt hbl _ (h3 ad e)).1, (he.own.lt _ (h3 ad e)).2⟩⟩
    · obtain ⟨v, h1, b, c, rfl, h2, h3⟩ := h.done j (by omega) hn
      refine ⟨_, by rw [List.getElem?_set_ne (by omega)]; exact h1, b, c, rfl, h2.ch he.ch h3, fun ad e => ⟨(h3 ad e).1, by have := (h3 ad e).2; have := he.ch.size; omega⟩⟩
  · intro j hj hn
    rw [List.getElem?_set_ne (by omega)]
    exact h.todo j (by omega) hn
theorem Eo.reads (h : Eo w0 wr bo n rows i vals) (hr : ∀ j, i ≤ j → j < n → rows j = []) : RR wr (some ⟨bo, 0, none⟩) n rows := by
  intro j hj
  have hadd : (⟨bo, 0, none⟩ : Addr).add j = ⟨bo, j, none⟩ := by unfold Addr.add; split <;> simp_all
  rcases Nat.lt_or_ge j i with h1 | h1
  · obtain ⟨v, h2, b, c, rfl, h3, _⟩ := h.done j h1 hj
    refine ⟨_, b, c, rfl, ?_, h3⟩
    rw [hadd, cell_blk h.blk]
    simpa using h2
  · refine ⟨_, none, 0, rfl, ?_, ?_⟩
    · rw [hadd, cell_blk h.blk, hr j h1 hj]
      simpa using h.todo j h1 hj
    · rw [hr j h1 hj]
      intro i hi
      simp at hi
end

/-- The row, sorted and cut. -/
theorem row_is {ns : List ByteArray} {nss : List (List ByteArray)} {i : Nat} (h : badP ns nss i = false) :
    Lib.compact ((((nss.getD i []).map fun s => (idx ns s).toNat).map fun j : Nat => (j : Int)).mergeSort fun x y => decide (x ≤ y)) = (rowsF ns nss i).map fun j : Nat => (j : Int) := by
  unfold rowsF
  refine row_eq _ _ _ (fun x => ?_)
  have hb : ∀ s ∈ nss.getD i [], 0 ≤ idx ns s := by
    intro s hs
    unfold badP at h
    have := List.any_eq_false.1 h s hs
    simpa using this
  simp only [List.mem_map]
  constructor
  · rintro ⟨j, ⟨s, hs, rfl⟩, rfl⟩
    have h0 := hb s hs
    have hr := ix_range (pS s ns) ns.length 0
    refine ⟨(idx ns s).toNat, ?_, ?_, rfl⟩
    · unfold idx at h0 ⊢; omega
    · refine List.any_eq_true.2 ⟨s, hs, ?_⟩
      simp
      omega
  · rintro ⟨j, hj, hP, rfl⟩
    obtain ⟨s, hs, he⟩ := List.any_eq_true.1 hP
    have he := of_decide_eq_true he
    exact ⟨j, ⟨s, hs, by rw [he]; rfl⟩, rfl⟩
theorem nil_row {ns : List ByteArray} {nss : List (List ByteArray)} {j : Nat} (h : nss.length ≤ j) : rowsF ns nss j = [] := by
  unfold rowsF
  have : nss.getD j [] = [] := by simp [List.getD_eq_getElem?_getD, h]
  rw [this]
  simp
end Go.Proofs.Ytbpaadigojfkjaa
