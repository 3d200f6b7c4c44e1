/- Three rows that one call makes by appends: names, and two rows of rows of names. -/
import Derived.Test.YtbpaadigojfkjaaK1
namespace Go.Proofs.Ytbpaadigojfkjaa
open Go.RowKit

structure RowsOf (w0 wr : World) (T : Value) (cs : List Value) (tss : List (List ByteArray)) (Z : Nat → Prop) : Prop where
  t : wr.ownsRow w0.heap.size 22 1 T tss.length cs
  k : ∀ k, k < tss.length → ∃ p c, cs[k]? = some (.slice p (tss.getD k []).length c) ∧ (tss.getD k []).length ≤ c ∧ SR wr p (tss.getD k []) ∧ ∀ ad, p = some ad → ad.block < wr.heap.size ∧ some ad.block ≠ T.ownBlock ∧ ¬ Z ad.block
section
variable {w0 wr w1 : World} {T : Value} {cs : List Value} {tss : List (List ByteArray)} {Z Z' : Nat → Prop}
theorem RowsOf.nil : RowsOf w0 wr (.slice none 0 0) [] [] Z := ⟨World.ownsRow_nil _ _ _ _, fun k hk => by simp at hk⟩
theorem RowsOf.ch (h : RowsOf w0 wr T cs tss Z) {S : Nat → Prop} (hc : Ch S wr w1) (hS : ∀ b, S b → Z b ∨ wr.heap.size ≤ b) (hT : ∀ b, T.ownBlock = some b → ¬ S b) (hZ : ∀ b, b < wr.heap.size → Z' b → Z b) : RowsOf w0 w1 T cs tss Z' :=
  ⟨hc.own h.t hT, fun k hk => by
    obtain ⟨p, c, h1, h2, h3, h4⟩ := h.k k hk
    refine ⟨p, c, h1, h2, h3.ch hc (fun ad e hs => ?_), fun ad e => ⟨Nat.lt_of_lt_of_le (h4 ad e).1 hc.size, (h4 ad e).2.1, fun hz => (h4 ad e).2.2 (hZ _ (h4 ad e).1 hz)⟩⟩
    rcases hS _ hs with h5 | h5
    · exact (h4 ad e).2.2 h5
    · have := (h4 ad e).1
      omega⟩
theorem RowsOf.push (h : RowsOf w0 wr T cs tss Z) {p : Option Addr} {c : Nat} {rs : List ByteArray} (hu1 : rs.length ≤ c) (hu2 : SR wr p rs) (hu3 : ∀ ad, p = some ad → ad.block < wr.heap.size ∧ some ad.block ≠ T.ownBlock ∧ ¬ Z ad.block)
    {g cap : Nat} (hown : w1.ownsRow w0.heap.size 22 1 (.slice (some ⟨g, 0, none⟩) (tss.length + 1) cap) (tss.length + 1) (cs ++ [.slice p rs.length c])) (hg : wr.grownBy w1 T.ownBlock) (hor : T.ownBlock = some g ∨ wr.heap.size ≤ g)
    (hZ : ∀ b, b < wr.heap.size → Z' b → Z b) : RowsOf w0 w1 (.slice (some ⟨g, 0, none⟩) (tss.length + 1) cap) (cs ++ [.slice p rs.length c]) (tss ++ [rs]) Z' := by
  have hc := Ch.of_grown hg
  have hcl : cs.length = tss.length := by simpa using h.t.1
  have hfin : ∀ ad : Addr, ad.block < wr.heap.size → some ad.block ≠ T.ownBlock → ¬ Z ad.block → ad.block < w1.heap.size ∧ some ad.block ≠ (Value.slice (some ⟨g, 0, none⟩) (tss.length + 1) cap).ownBlock ∧ ¬ Z' ad.block := fun ad h1 h2 h3 => by
    refine ⟨Nat.lt_of_lt_of_le h1 hc.size, fun e2 => ?_, fun hz => h3 (hZ _ h1 hz)⟩
    simp only [Value.ownBlock] at e2
    rcases hor with hor | hor
    · exact h2 (e2.trans hor.symm)
    · injection e2 with e2
      omega
  refine ⟨by simpa using hown, fun k hk => ?_⟩
  by_cases hlt : k < tss.length
  · obtain ⟨p', c', h1, h2, h3, h4⟩ := h.k k hlt
    have e : (tss ++ [rs]).getD k [] = tss.getD k [] := by simp [List.getD_eq_getElem?_getD, List.getElem?_append_left hlt]
    rw [e]
    exact ⟨p', c', by rw [List.getElem?_append_left (by omega)]; exact h1, h2, h3.ch hc (fun ad e => (h4 ad e).2.1), fun ad e => hfin ad (h4 ad e).1 (h4 ad e).2.1 (h4 ad e).2.2⟩
  · have hk' : k = tss.length := by simp at hk; omega
    subst hk'
    have e : (tss ++ [rs]).getD tss.length [] = rs := by simp [List.getD_eq_getElem?_getD]
    rw [e]
    exact ⟨p, c, by rw [← hcl]; simp, hu1, hu2.ch hc (fun ad e => (hu3 ad e).2.1), fun ad e => hfin ad (hu3 ad e).1 (hu3 ad e).2.1 (hu3 ad e).2.2⟩
theorem RowsOf.nr (h : RowsOf w0 wr T cs tss Z) : ∃ p c, T = .slice p tss.length c ∧ tss.length ≤ c ∧ NR wr p tss := by
  rcases h.t.2 with ⟨rfl, h0⟩ | ⟨b, cap, cur, rfl, hb, hh, h1, h2, h3, h4⟩
  · exact ⟨none, 0, by rw [h0], by omega, fun i hi => by omega⟩
  · refine ⟨_, cap, rfl, h1, fun i hi => ?_⟩
    obtain ⟨p, c, k1, k2, k3, _⟩ := h.k i hi
    refine ⟨_, p, c, rfl, ?_, k2, k3⟩
    rw [add0, cell_blk hh]
    have : (cur.toList.take tss.length)[i]? = cs[i]? := by rw [show cur.toList.take tss.length = cs from by simpa using h4]
    rw [List.getElem?_take, if_pos hi, k1] at this
    simpa using this
end

structure Rg (w0 wr : World) (N : Value) (ns : List ByteArray) (T1 : Value) (cs1 : List Value) (t1 : List (List ByteArray)) (T2 : Value) (cs2 : List Value) (t2 : List (List ByteArray)) : Prop where
  n : wr.ownsRow w0.heap.size 9 1 N ns.length (ns.map Value.string)
  r1 : RowsOf w0 wr T1 cs1 t1 (fun b => N.ownBlock = some b ∨ T2.ownBlock = some b)
  r2 : RowsOf w0 wr T2 cs2 t2 (fun b => N.ownBlock = some b ∨ T1.ownBlock = some b)
  d1 : ∀ b, N.ownBlock = some b → T1.ownBlock ≠ some b
  d2 : ∀ b, N.ownBlock = some b → T2.ownBlock ≠ some b
  d3 : ∀ b, T1.ownBlock = some b → T2.ownBlock ≠ some b
  bel : Below w0.heap.size w0 wr
section
variable {w0 wr w1 : World} {N T1 T2 : Value} {ns : List ByteArray} {cs1 cs2 : List Value} {t1 t2 : List (List ByteArray)}
theorem Rg.nil (w0 : World) : Rg w0 w0 (.slice none 0 0) [] (.slice none 0 0) [] [] (.slice none 0 0) [] [] :=
  ⟨World.ownsRow_nil _ _ _ _, .nil, .nil, by simp [Value.ownBlock], by simp [Value.ownBlock], by simp [Value.ownBlock], Below.refl _ _⟩
theorem Rg.swap (h : Rg w0 wr N ns T1 cs1 t1 T2 cs2 t2) : Rg w0 wr N ns T2 cs2 t2 T1 cs1 t1 := ⟨h.n, h.r2, h.r1, h.d2, h.d1, fun b h1 h2 => h.d3 b h2 h1, h.bel⟩
theorem Rg.still (h : Rg w0 wr N ns T1 cs1 t1 T2 cs2 t2) (hc : Ch (fun _ => False) wr w1) : Rg w0 w1 N ns T1 cs1 t1 T2 cs2 t2 :=
  ⟨hc.own h.n (fun _ _ hf => hf), h.r1.ch hc (fun _ hf => hf.elim) (fun _ _ hf => hf) (fun _ _ hz => hz), h.r2.ch hc (fun _ hf => hf.elim) (fun _ _ hf => hf) (fun _ _ hz => hz), h.d1, h.d2, h.d3, hc.below h.bel (fun _ hf => hf.elim) h.bel.size⟩
theorem own_or {v : Value} {g n cap : Nat} {b : Nat} (hor : v.ownBlock = some g ∨ wr.heap.size ≤ g) (hb : b < wr.heap.size) (h : (Value.slice (some ⟨g, 0, none⟩) n cap).ownBlock = some b) : v.ownBlock = some b := by
  simp only [Value.ownBlock] at h
  rcases hor with hor | hor
  · exact hor.trans h
  · injection h with h
    omega
/-- A name more. -/
theorem Rg.name (h : Rg w0 wr N ns T1 cs1 t1 T2 cs2 t2) {g cap : Nat} {s : ByteArray} (hown : w1.ownsRow w0.heap.size 9 1 (.slice (some ⟨g, 0, none⟩) (ns.length + 1) cap) (ns.length + 1) (ns.map Value.string ++ [.string s]))
    (hg : wr.grownBy w1 N.ownBlock) (hor : N.ownBlock = some g ∨ wr.heap.size ≤ g) : Rg w0 w1 (.slice (some ⟨g, 0, none⟩) (ns.length + 1) cap) (ns ++ [s]) T1 cs1 t1 T2 cs2 t2 := by
  have hc := Ch.of_grown hg
  refine ⟨by simpa using hown, h.r1.ch hc (fun b hb => .inl (.inl hb.symm)) (fun b hb e => h.d1 b e.symm hb) (fun b hb hz => hz.imp (own_or hor hb) id), h.r2.ch hc (fun b hb => .inl (.inl hb.symm)) (fun b hb e => h.d2 b e.symm hb) (fun b hb hz => hz.imp (own_or hor hb) id), fun b hb e => ?_, fun b hb e => ?_, h.d3, hc.below h.bel (fun b hb => (h.n.lt b hb.symm).1) h.bel.size⟩
  · exact h.d1 b (own_or hor (h.r1.t.lt b e).2 hb) e
  · exact h.d2 b (own_or hor (h.r2.t.lt b e).2 hb) e
/-- A row more in the first. -/
theorem Rg.push (h : Rg w0 wr N ns T1 cs1 t1 T2 cs2 t2) {p : Option Addr} {c : Nat} {rs : List ByteArray} (hu1 : rs.length ≤ c) (hu2 : SR wr p rs)
    (hu3 : ∀ ad, p = some ad → ad.block < wr.heap.size ∧ some ad.block ≠ T1.ownBlock ∧ ¬ (N.ownBlock = some ad.block ∨ T2.ownBlock = some ad.block))
    {g cap : Nat} (hown : w1.ownsRow w0.heap.size 22 1 (.slice (some ⟨g, 0, none⟩) (t1.length + 1) cap) (t1.length + 1) (cs1 ++ [.slice p rs.length c])) (hg : wr.grownBy w1 T1.ownBlock) (hor : T1.ownBlock = some g ∨ wr.heap.size ≤ g) :
    Rg w0 w1 N ns (.slice (some ⟨g, 0, none⟩) (t1.length + 1) cap) (cs1 ++ [.slice p rs.length c]) (t1 ++ [rs]) T2 cs2 t2 := by
  have hc := Ch.of_grown hg
  refine ⟨hc.own h.n (fun b hb e => h.d1 b hb e.symm), h.r1.push hu1 hu2 hu3 hown hg hor (fun _ _ hz => hz), h.r2.ch hc (fun b hb => .inl (.inr hb.symm)) (fun b hb e => h.d3 b e.symm hb) (fun b hb hz => hz.imp id (own_or hor hb)), fun b hb e => ?_, h.d2, fun b hb e => ?_, hc.below h.bel (fun b hb => (h.r1.t.lt b hb.symm).1) h.bel.size⟩
  · exact h.d1 b hb (own_or hor (h.n.lt b hb).2 e)
  · exact h.d3 b (own_or hor (h.r2.t.lt b e).2 hb) e
/-- A row of one name, just made. -/
theorem Rg.one (h : Rg w0 wr N ns T1 cs1 t1 T2 cs2 t2) {s : ByteArray} {g cap : Nat}
    (hown : w1.ownsRow w0.heap.size 22 1 (.slice (some ⟨g, 0, none⟩) (t1.length + 1) cap) (t1.length + 1) (cs1 ++ [.slice (some ⟨wr.heap.size, 0, none⟩) 1 1]))
    (hg : (wr.alloc (.cells #[.string s] 9)).grownBy w1 T1.ownBlock) (hor : T1.ownBlock = some g ∨ (wr.alloc (.cells #[.string s] 9)).heap.size ≤ g) :
    Rg w0 w1 N ns (.slice (some ⟨g, 0, none⟩) (t1.length + 1) cap) (cs1 ++ [.slice (some ⟨wr.heap.size, 0, none⟩) 1 1]) (t1 ++ [[s]]) T2 cs2 t2 := by
  have h1 := h.still ((Ch.refl _ wr).alloc (.cells #[.string s] 9))
  refine h1.push (p := some ⟨wr.heap.size, 0, none⟩) (c := 1) (rs := [s]) (by simp) (new_sr (by simpa using heap_alloc_new wr (.cells #[.string s] 9))) (fun ad e => ?_) hown hg hor
  injection e with e
  subst e
  refine ⟨by simp, fun e => ?_, fun hz => ?_⟩
  · have := (h.r1.t.lt _ e.symm).2
    simp at this
  · rcases hz with hz | hz
    · have := (h.n.lt _ hz).2
      simp at this
    · have := (h.r2.t.lt _ hz).2
      simp at this
/-- A row of none. -/
theorem Rg.none_ (h : Rg w0 wr N ns T1 cs1 t1 T2 cs2 t2) {g cap : Nat} (hown : w1.ownsRow w0.heap.size 22 1 (.slice (some ⟨g, 0, none⟩) (t1.length + 1) cap) (t1.length + 1) (cs1 ++ [.slice none 0 0]))
    (hg : wr.grownBy w1 T1.ownBlock) (hor : T1.ownBlock = some g ∨ wr.heap.size ≤ g) :
    Rg w0 w1 N ns (.slice (some ⟨g, 0, none⟩) (t1.length + 1) cap) (cs1 ++ [.slice none 0 0]) (t1 ++ [[]]) T2 cs2 t2 :=
  h.push (p := none) (c := 0) (rs := []) (Nat.le_refl _) SR.nil (fun ad e => by cases e) hown hg hor
end
end Go.Proofs.Ytbpaadigojfkjaa
