/- What graph.Below keeps in memory: the array of what is needed, the answer's row. -/
import Derived.Test.YtbpaadigojfkjaaK5
import Derived.Maps.OwnIn
namespace Go.Proofs.Ytbpaadigojfkjaa
open Go.RowKit Go.Shelf

theorem eight_false (x : Nat) (hx : x < 8) : [Value.bool false, Value.bool false, Value.bool false, Value.bool false, Value.bool false, Value.bool false, Value.bool false, Value.bool false][x]? = some (.bool false) := by
  rcases x with _ | _ | _ | _ | _ | _ | _ | _ | x
  all_goals first | rfl | omega
/-- The eight cells of a set. -/
def ba (S : Nat → Bool) : List Value := (List.range 8).map fun i => Value.bool (S i)
theorem ba_at (S : Nat → Bool) (i : Nat) (hi : i < 8) : (ba S).toArray[i]? = some (.bool (S i)) := by simp [ba, hi]
theorem ba_set (S : Nat → Bool) (k : Nat) (u : Bool) : (ba S).set k (.bool u) = ba (fun y => if y = k then u else S y) := by
  apply List.ext_getElem
  · simp [ba]
  · intro i h1 h2
    by_cases e : k = i
    · subst e; simp [ba]
    · have : ¬ i = k := fun e2 => e e2.symm
      simp [ba, e, this]
theorem ba_one (x : Nat) : ([Value.bool false, Value.bool false, Value.bool false, Value.bool false, Value.bool false, Value.bool false, Value.bool false, Value.bool false].set x (.bool true)) = ba (fun y => y == x) := by
  have h := ba_set (fun _ => false) x true
  have e : ba (fun _ => false) = [Value.bool false, Value.bool false, Value.bool false, Value.bool false, Value.bool false, Value.bool false, Value.bool false, Value.bool false] := rfl
  rw [e] at h
  rw [h]
  congr 1
/-- The array lies at block b. -/
def BA (W : World) (b : Nat) (S : Nat → Bool) : Prop := W.heap[b]? = some (.cells (ba S).toArray 54 (0, 0))
theorem BA.cell {W : World} {b : Nat} {S : Nat → Bool} (h : BA W b S) (i : Nat) (hi : i < 8) : W.cell? ⟨b, i, none⟩ = some (.bool (S i)) ∧ W.frozen? ⟨b, i, none⟩ = false :=
  ⟨(cell_blk h i).trans (ba_at S i hi), free_blk h i⟩
theorem BA.set {W : World} {b : Nat} {S : Nat → Bool} (h : BA W b S) (k : Nat) (u : Bool) : BA (W.setCell ⟨b, k, none⟩ (.bool u)) b (fun y => if y = k then u else S y) := by
  unfold BA
  rw [heap_setCell_same' h, ← ba_set]
  simp

/-- Between two rounds of the loop over the order. -/
structure Mid (w2 wL W : World) (tb ib : Nat) (v : Value) (S : Nat → Bool) : Prop where
  arr : BA W ib S
  to : W.heap[tb]? = some (.cells #[v] 39 (0, 0))
  bel : Below w2.heap.size w2 W
  size : wL.heap.size ≤ W.heap.size
theorem Mid.ownFrom {β : Type} {w2 wL : World} {tb ib : Nat} {v : Value} (S : β → Nat → Bool) (h2 : w2.heap.size ≤ wL.heap.size) (ht : tb < wL.heap.size) (hi : ib < wL.heap.size) :
    OwnFrom wL.heap.size (fun (s : β) W => Mid w2 wL W tb ib v (S s)) := fun s A B row hs hg hr =>
  ⟨(hg.block _ (Nat.lt_of_lt_of_le hi hs.size) (fun e => by have := (hr _ e.symm).1; omega)).trans hs.arr,
   (hg.block _ (Nat.lt_of_lt_of_le ht hs.size) (fun e => by have := (hr _ e.symm).1; omega)).trans hs.to,
   ownFrom_below (n₀ := w2.heap.size) (w₀ := w2) (Nat.le_refl _) h2 s A B row hs.bel hg hr, Nat.le_trans hs.size hg.size⟩
theorem Mid.ch {w2 wL W W' : World} {tb ib : Nat} {v : Value} {S S' : Nat → Bool} (h : Mid w2 wL W tb ib v S) (hc : Ch (fun k => k = ib) W W') (hb : w2.heap.size ≤ ib) (ht : tb ≠ ib) (ha : BA W' ib S') : Mid w2 wL W' tb ib v S' :=
  ⟨ha, hc.blk h.to ht, hc.below h.bel (fun k hk => by rw [hk]; exact hb) h.bel.size, Nat.le_trans h.size hc.size⟩
theorem ch_kq {W W' : World} {N ib : Nat} (hc : Ch (fun k => k = ib) W W') (hN : N ≤ W.heap.size) : Kq N ib W W' := fun k hk hne => hc.block k (by omega) hne
theorem ch_from {W W' : World} {B ib : Nat} (hc : Ch (fun k => k = ib) W W') (hi : ib < B) : KeepsFrom B W W' :=
  KeepsFrom.of_grownBy (row := some ib) (hc.grown (fun i e => .inl (by rw [e]))) (fun j e => by cases e; exact hi)

/-- Behind the loop: the array, the mark, the answer's row. -/
structure Bw (w2 wr : World) (ib D : Nat) (S : Nat → Bool) (vo : Value) (out : List Nat) : Prop where
  arr : BA wr ib S
  mark : wr.heap[D]? = some (.deferred (some []))
  own : wr.ownsRow w2.heap.size 3 1 vo out.length (vs out)
  ne : vo.ownBlock ≠ some ib
  ne2 : vo.ownBlock ≠ some D
  bel : Below w2.heap.size w2 wr
theorem Bw.start {w2 wL W : World} {tb ib D : Nat} {v : Value} {S : Nat → Bool} (h : Mid w2 wL W tb ib v S) (hD : W.heap[D]? = some (.deferred (some []))) : Bw w2 W ib D S (.slice none 0 0) [] :=
  ⟨h.arr, hD, World.ownsRow_nil _ _ _ _, by simp [Value.ownBlock], by simp [Value.ownBlock], h.bel⟩
theorem Bw.grown {w2 wr w1 : World} {ib D : Nat} {S : Nat → Bool} {vo : Value} {out : List Nat} (h : Bw w2 wr ib D S vo out) {g cap x : Nat} (hown : w1.ownsRow w2.heap.size 3 1 (.slice (some ⟨g, 0, none⟩) (out.length + 1) cap) (out.length + 1) (vs out ++ [.int .i64 x]))
    (hg : wr.grownBy w1 vo.ownBlock) (hor : vo.ownBlock = some g ∨ wr.heap.size ≤ g) : Bw w2 w1 ib D S (.slice (some ⟨g, 0, none⟩) (out.length + 1) cap) (out ++ [x]) := by
  have hc := Ch.of_grown hg
  have hi := (Array.getElem?_eq_some_iff.1 h.arr).1
  have hd := (Array.getElem?_eq_some_iff.1 h.mark).1
  refine ⟨hc.blk h.arr (fun e => h.ne e.symm), hc.blk h.mark (fun e => h.ne2 e.symm), by simpa [vs] using hown, fun e => ?_, fun e => ?_, hc.below h.bel (fun b hb => (h.own.lt b hb.symm).1) h.bel.size⟩
  all_goals
    simp only [Value.ownBlock] at e
    injection e with e
    subst e
    rcases hor with hor | hor
    · first | exact h.ne hor | exact h.ne2 hor
    · omega

theorem app_oneIn {F : Fence} {nF : Nat} (t e : TypeId) (z : Value) (bytes : Nat) (ht : Try.prog.underlying t = some (.slice e)) (hinfo : (Try.prog.info? e).map (fun i => (i.zero, i.size, i.bytes)) = some (some z, 1, bytes)) (hzs : z.cells.size = 1) (hby : bytes ≤ 24)
    {ops : Array Oper} {rest : List Oper} {o : Oper} {a : Act} {Q : Exit → Act → World → Prop} (hgd : o.guard = none) (s xx : Operand)
    (ho : o.op = .call { callee := .builtin .append, args := #[s, xx], argTypes := #[t, t] }) (base : Nat) (w0 : World) (v : Value) (n : Nat) (out : List Value) (u : Value) (hs : a.eval s = v)
    (hx : a.eval xx = .slice (some ⟨w0.heap.size, 0, none⟩) 1 1) (hown : w0.ownsRow base e 1 v n out) (hu : u.oneCell' = true) (hl : n ≤ 1000) (hb : base ≤ w0.heap.size)
    (h : ∀ g cap w', w'.ownsRow base e 1 (.slice (some ⟨g, 0, none⟩) (n + 1) cap) (n + 1) (out ++ [u]) → w0.grownBy w' v.ownBlock → (v.ownBlock = some g ∨ w0.heap.size ≤ g) →
      wpListIn F nF Try.prog ops Q rest (a.put o.dst (.slice (some ⟨g, 0, none⟩) (n + 1) cap)) w') :
    wpListIn F nF Try.prog ops Q (o :: rest) a (w0.alloc (.cells #[u] e)) := by
  obtain ⟨i0, hi, hz0, hz1, hz2⟩ := info_parts hinfo
  refine wpListIn_append_own_at _ hgd s xx t ho base e i0 z 1 bytes ht hi hz0 hz1 hz2 hzs (by decide) v n out hs (hown.alloc _) ⟨w0.heap.size, 0, none⟩ 1 1 [u] hx rfl
    (World.news_of_block (cs := #[u]) (t := e) (fr := (0, 0)) (heap_alloc_new w0 _)) (fun y hy => by simp at hy; subst hy; exact hu) (by unfold maxLen; omega)
    (Nat.le_trans (Nat.mul_le_mul (show n + 1 ≤ 1001 by omega) hby) (by decide)) (by simp; omega) ?_
  intro v' w' h1 h2 _ h4
  obtain ⟨g, cap, rfl⟩ := ownsRow_succ h1
  refine h g cap w' h1 (World.grownBy.trans (World.grownBy_alloc w0 _ _) h2) ?_
  rcases h4 with h4 | h4
  · exact .inl h4.symm
  · simp only [Value.ownBlock] at h4
    injection h4 with h4
    exact .inr (by rw [h4]; simp)
def fs (S : Nat → Bool) (i : Nat) : List Nat := (List.range i).filter S
theorem fs_on {S : Nat → Bool} {i : Nat} (h : S i = true) : fs S (i + 1) = fs S i ++ [i] := by unfold fs; rw [List.range_succ, List.filter_append]; simp only [List.filter_cons, List.filter_nil, h, if_true]
theorem fs_off {S : Nat → Bool} {i : Nat} (h : S i = false) : fs S (i + 1) = fs S i := by unfold fs; rw [List.range_succ, List.filter_append]; simp only [List.filter_cons, List.filter_nil, h]; simp
theorem fs_le (S : Nat → Bool) (i : Nat) : (fs S i).length ≤ i := by unfold fs; have := List.length_filter_le S (List.range i); simpa using this
theorem runS_val (rows : Nat → List Nat) (S : Nat → Bool) {α : Type} (f : α → Nat) (pre : List α) (x : α) : runS rows S ((pre ++ [x]).map f) = stp (runS rows S (pre.map f)) (f x) (rows (f x)) := by
  rw [List.map_append]; exact runS_snoc _ _ _ _
/-- The j-th of a row. -/
def ov (xs : List Nat) (j : Nat) : Nat := xs.getD j 0
theorem bw_stops' (F : Fence) (n : Nat) (h33 : F.fn 33) (hro : F.round = none) (hn : 1 ≤ n) (Bs N B : Nat) (p : Option Addr) (cap : Nat) (xs : List Nat) (hx : xs.length ≤ 1000) (hBN : Bs < N) (hBB : Bs ≠ B) (hpb : ∀ ad, p = some ad → ad.block < N ∧ ad.block ≠ B)
    (w : World) (hBs : w.cell? ⟨Bs, 0, none⟩ = some (.slice p xs.length cap)) (hI : IR w p xs) :
    SeqStopsK F n Try.prog 33 #[.pointer (some ⟨Bs, 0, none⟩)] (fun x : Fin xs.length => #[.int .i64 (x.1 : Int), .int .i64 (ov xs x.1 : Nat)]) (Kq N B) (fun ys => ys.map (fun j => ov xs j.1) = xs.reverse) (fun _ => True) xs.length w :=
  bw_stops F n h33 hro hn Bs N B p cap xs hx hBN hBB hpb w hBs hI
end Go.Proofs.Ytbpaadigojfkjaa
