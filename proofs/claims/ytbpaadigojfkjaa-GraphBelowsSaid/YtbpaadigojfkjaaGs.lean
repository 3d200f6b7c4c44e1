/- Rows of strings, and rows of such rows, that a call itself makes by appends. -/
import Derived.Test.YtbpaadigojfkjaaH2
namespace Go.Proofs.Ytbpaadigojfkjaa
open Go.RowKit

theorem info9 : (Try.prog.info? 9).map (fun i => (i.zero, i.size, i.bytes)) = some (some (.string ⟨#[]⟩), 1, 16) := by kernel_rfl
theorem info22 : (Try.prog.info? 22).map (fun i => (i.zero, i.size, i.bytes)) = some (some (.slice none 0 0), 1, 24) := by kernel_rfl

/-- The append of one value of one cell. -/
theorem app_one (t e : TypeId) (z : Value) (bytes : Nat) (ht : Try.prog.underlying t = some (.slice e)) (hinfo : (Try.prog.info? e).map (fun i => (i.zero, i.size, i.bytes)) = some (some z, 1, bytes)) (hzs : z.cells.size = 1) (hby : bytes ≤ 24)
    {ops : Array Oper} {rest : List Oper} {o : Oper} {a : Act} {Q : Exit → Act → World → Prop} (hgd : o.guard = none) (s xx : Operand)
    (ho : o.op = .call { callee := .builtin .append, args := #[s, xx], argTypes := #[t, t] }) (base : Nat) (w0 : World) (v : Value) (n : Nat) (out : List Value) (u : Value) (hs : a.eval s = v)
    (hx : a.eval xx = .slice (some ⟨w0.heap.size, 0, none⟩) 1 1) (hown : w0.ownsRow base e 1 v n out) (hu : u.oneCell' = true) (hl : n ≤ 1000) (hb : base ≤ w0.heap.size)
    (h : ∀ g cap w', w'.ownsRow base e 1 (.slice (some ⟨g, 0, none⟩) (n + 1) cap) (n + 1) (out ++ [u]) → w0.grownBy w' v.ownBlock → (v.ownBlock = some g ∨ w0.heap.size ≤ g) →
      wpList Try.prog ops Q rest (a.put o.dst (.slice (some ⟨g, 0, none⟩) (n + 1) cap)) w') :
    wpList Try.prog ops Q (o :: rest) a (w0.alloc (.cells #[u] e)) := by
  obtain ⟨i0, hi, hz0, hz1, hz2⟩ := info_parts hinfo
  refine wpList_append_lies _ hgd s xx t ho base e i0 z 1 bytes ht hi hz0 hz1 hz2 hzs (by decide) v n out hs (hown.alloc _) ⟨w0.heap.size, 0, none⟩ 1 1 [u] hx rfl
    (World.news_of_block (cs := #[u]) (t := e) (fr := (0, 0)) (heap_alloc_new w0 _)) (fun y hy => by simp at hy; subst hy; exact hu) (by decide) (by unfold maxLen; omega)
    (Nat.le_trans (Nat.mul_le_mul (show n + 1 ≤ 1001 by omega) hby) (by decide)) (by simp; omega) _ rfl ?_
  intro g cap w' h1 h2 h3 _
  refine h g cap w' h1 (World.grownBy.trans (World.grownBy_alloc w0 _ _) h2) ?_
  rcases h3 with h3 | h3
  · exact .inl h3
  · exact .inr (by rw [h3]; simp)

theorem SR.ch {w w1 : World} {p : Option Addr} {ns : List ByteArray} {S : Nat → Prop} (h : SR w p ns) (hc : Ch S w w1) (hS : ∀ ad, p = some ad → ¬ S ad.block) : SR w1 p ns := fun i hi => by
  obtain ⟨ad, e, hcell⟩ := h i hi
  refine ⟨ad, e, ?_⟩
  have hb : (ad.add i).block = ad.block := by unfold Addr.add; split <;> rfl
  rw [← hcell]
  exact World.cell?_of_block (hc.block _ (World.block_lt_of_cell? w _ hcell) (by rw [hb]; exact hS ad e))
theorem own_sr {B : Nat} {w : World} {R : Value} {rs : List ByteArray} (h : w.ownsRow B 9 1 R rs.length (rs.map Value.string)) : ∃ p c, R = .slice p rs.length c ∧ rs.length ≤ c ∧ SR w p rs ∧ ∀ ad, p = some ad → R.ownBlock = some ad.block := by
  rcases h.2 with ⟨rfl, h0⟩ | ⟨b, cap, cur, rfl, hb, hh, h1, h2, h3, h4⟩
  · exact ⟨none, 0, by rw [h0], by omega, fun i hi => by omega, fun ad e => by cases e⟩
  · refine ⟨_, cap, rfl, h1, fun i hi => ⟨_, rfl, ?_⟩, fun ad e => by injection e with e; rw [← e]; rfl⟩
    rw [add0, cell_blk hh]
    have : (cur.toList.take rs.length)[i]? = (rs.map Value.string)[i]? := by rw [show cur.toList.take rs.length = rs.map Value.string from by simpa using h4]
    rw [List.getElem?_take, if_pos hi] at this
    simpa [nm, List.getD_eq_getElem?_getD, hi] using this

/-- T: a row of rows that lies; R: the row under way. -/
structure Tn (w0 wr : World) (T : Value) (cs : List Value) (tss : List (List ByteArray)) (R : Value) (rs : List ByteArray) : Prop where
  t : wr.ownsRow w0.heap.size 22 1 T tss.length cs
  k : ∀ k, k < tss.length → ∃ p c, cs[k]? = some (.slice p (tss.getD k []).length c) ∧ (tss.getD k []).length ≤ c ∧ SR wr p (tss.getD k []) ∧ ∀ ad, p = some ad → ad.block < wr.heap.size ∧ some ad.block ≠ T.ownBlock ∧ some ad.block ≠ R.ownBlock
  r : wr.ownsRow w0.heap.size 9 1 R rs.length (rs.map Value.string)
  ne : ∀ b, T.ownBlock = some b → R.ownBlock ≠ some b
  bel : Below w0.heap.size w0 wr

section
variable {w0 wr w1 : World} {T R : Value} {cs : List Value} {tss : List (List ByteArray)} {rs : List ByteArray}
theorem Tn.nil (h : Below w0.heap.size w0 wr) : Tn w0 wr (.slice none 0 0) [] [] (.slice none 0 0) [] :=
  ⟨World.ownsRow_nil _ _ _ _, fun k hk => by simp at hk, World.ownsRow_nil _ _ _ _, fun b hb => by simp [Value.ownBlock] at hb, h⟩
theorem Tn.still (h : Tn w0 wr T cs tss R rs) (hc : Ch (fun _ => False) wr w1) : Tn w0 w1 T cs tss R rs :=
  ⟨hc.own h.t (fun _ _ hf => hf), fun k hk => by
    obtain ⟨p, c, h1, h2, h3, h4⟩ := h.k k hk
    exact ⟨p, c, h1, h2, h3.ch hc (fun _ _ hf => hf), fun ad e => ⟨Nat.lt_of_lt_of_le (h4 ad e).1 hc.size, (h4 ad e).2⟩⟩, hc.own h.r (fun _ _ hf => hf), h.ne, hc.below h.bel (fun _ hf => hf.elim) h.bel.size⟩
theorem Tn.fresh (h : Tn w0 wr T cs tss R rs) : Tn w0 wr T cs tss (.slice none 0 0) [] :=
  ⟨h.t, fun k hk => by
    obtain ⟨p, c, h1, h2, h3, h4⟩ := h.k k hk
    exact ⟨p, c, h1, h2, h3, fun ad e => ⟨(h4 ad e).1, (h4 ad e).2.1, by simp [Value.ownBlock]⟩⟩, World.ownsRow_nil _ _ _ _, fun b _ => by simp [Value.ownBlock], h.bel⟩
/-- A string more. -/
theorem Tn.str (h : Tn w0 wr T cs tss R rs) {g cap : Nat} {s : ByteArray} (hown : w1.ownsRow w0.heap.size 9 1 (.slice (some ⟨g, 0, none⟩) (rs.length + 1) cap) (rs.length + 1) (rs.map Value.string ++ [.string s]))
    (hg : wr.grownBy w1 R.ownBlock) (hor : R.ownBlock = some g ∨ wr.heap.size ≤ g) : Tn w0 w1 T cs tss (.slice (some ⟨g, 0, none⟩) (rs.length + 1) cap) (rs ++ [s]) := by
  have hc := Ch.of_grown hg
  refine ⟨hc.own h.t (fun b hb e => h.ne b hb e.symm), fun k hk => ?_, by simpa using hown, fun b hb e => ?_, hc.below h.bel (fun b hb => (h.r.lt b hb.symm).1) h.bel.size⟩
  · obtain ⟨p, c, h1, h2, h3, h4⟩ := h.k k hk
    refine ⟨p, c, h1, h2, h3.ch hc (fun ad e => (h4 ad e).2.2), fun ad e => ⟨Nat.lt_of_lt_of_le (h4 ad e).1 hc.size, (h4 ad e).2.1, fun e2 => ?_⟩⟩
    have h5 := h4 ad e
    simp only [Value.ownBlock] at e2
    rcases hor with hor | hor
    · exact h5.2.2 (e2.trans hor.symm)
    · injection e2 with e2
      omega
  · simp only [Value.ownBlock] at e
    injection e with e
    subst e
    rcases hor with hor | hor
    · exact h.ne _ hb hor
    · have := (h.t.lt _ hb).2
      omega
/-- A row more. -/
theorem Tn.row (h : Tn w0 wr T cs tss R rs) {g cap : Nat} (hown : w1.ownsRow w0.heap.size 22 1 (.slice (some ⟨g, 0, none⟩) (tss.length + 1) cap) (tss.length + 1) (cs ++ [R]))
    (hg : wr.grownBy w1 T.ownBlock) (hor : T.ownBlock = some g ∨ wr.heap.size ≤ g) : Tn w0 w1 (.slice (some ⟨g, 0, none⟩) (tss.length + 1) cap) (cs ++ [R]) (tss ++ [rs]) (.slice none 0 0) [] := by
  have hc := Ch.of_grown hg
  have hcl : cs.length = tss.length := by simpa using h.t.1
  refine ⟨by simpa using hown, fun k hk => ?_, World.ownsRow_nil _ _ _ _, fun b _ => by simp [Value.ownBlock], hc.below h.bel (fun b hb => (h.t.lt b hb.symm).1) h.bel.size⟩
  have hfin : ∀ ad : Addr, ad.block < wr.heap.size → some ad.block ≠ T.ownBlock → ad.block < w1.heap.size ∧ some ad.block ≠ (Value.slice (some ⟨g, 0, none⟩) (tss.length + 1) cap).ownBlock ∧ some ad.block ≠ (Value.slice none 0 0).ownBlock := fun ad h1 h2 => by
    refine ⟨Nat.lt_of_lt_of_le h1 hc.size, fun e2 => ?_, by simp [Value.ownBlock]⟩
    simp only [Value.ownBlock] at e2
    rcases hor with hor | hor
    · exact h2 (e2.trans hor.symm)
    · injection e2 with e2
      omega
  by_cases hlt : k < tss.length
  · obtain ⟨p, c, h1, h2, h3, h4⟩ := h.k k hlt
    have e : (tss ++ [rs]).getD k [] = tss.getD k [] := by simp [List.getD_eq_getElem?_getD, List.getElem?_append_left hlt]
    rw [e]
    exact ⟨p, c, by rw [List.getElem?_append_left (by omega)]; exact h1, h2, h3.ch hc (fun ad e => (h4 ad e).2.1), fun ad e => hfin ad (h4 ad e).1 (h4 ad e).2.1⟩
  · have hk' : k = tss.length := by simp at hk; omega
    subst hk'
    have e : (tss ++ [rs]).getD tss.length [] = rs := by simp [List.getD_eq_getElem?_getD]
    rw [e]
    obtain ⟨p, c, rfl, h2, h3, h4⟩ := own_sr h.r
    refine ⟨p, c, by rw [← hcl]; simp, h2, h3.ch hc (fun ad e h5 => h.ne _ h5.symm (h4 ad e)), fun ad e => hfin ad (h.r.lt _ (h4 ad e)).2 (fun e5 => h.ne _ e5.symm (h4 ad e))⟩
theorem Tn.nr (h : Tn w0 wr T cs tss R rs) : ∃ p c, T = .slice p tss.length c ∧ NR wr p tss := by
  rcases h.t.2 with ⟨rfl, h0⟩ | ⟨b, cap, cur, rfl, hb, hh, h1, h2, h3, h4⟩
  · exact ⟨none, 0, by rw [h0], fun i hi => by omega⟩
  · refine ⟨_, cap, rfl, fun i hi => ?_⟩
    obtain ⟨p, c, k1, k2, k3, _⟩ := h.k i hi
    refine ⟨_, p, c, rfl, ?_, k2, k3⟩
    rw [add0, cell_blk hh]
    have : (cur.toList.take tss.length)[i]? = cs[i]? := by rw [show cur.toList.take tss.length = cs from by simpa using h4]
    rw [List.getElem?_take, if_pos hi, k1] at this
    simpa using this
end
end Go.Proofs.Ytbpaadigojfkjaa
