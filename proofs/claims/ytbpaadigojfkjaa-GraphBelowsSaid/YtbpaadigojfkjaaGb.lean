/- What a call has turned, by blocks; the state of the graph's heap in memory; Push and Pop of it walked. -/
import Derived.Test.YtbpaadigojfkjaaGa
import Derived.Deep.RegionLaw
import Derived.Deep.AppendLies
import Derived.Deep.OwnRows
import Derived.Lib.Hide
namespace Go.Proofs.Ytbpaadigojfkjaa
open Go.RowKit

/-- Blocks that were there and are not in S are as they were. -/
structure Ch (S : Nat → Prop) (w w' : World) : Prop where
  os : w'.os = w.os
  tape : w'.tape = w.tape
  output : w'.output = w.output
  size : w.heap.size ≤ w'.heap.size
  block : ∀ k, k < w.heap.size → ¬ S k → w'.heap[k]? = w.heap[k]?
namespace Ch
variable {S T : Nat → Prop} {w w1 w2 : World}
theorem refl (S : Nat → Prop) (w : World) : Ch S w w := ⟨rfl, rfl, rfl, Nat.le_refl _, fun _ _ _ => rfl⟩
theorem trans (h : Ch S w w1) (k : Ch T w1 w2) (hT : ∀ i, T i → S i ∨ w.heap.size ≤ i) : Ch S w w2 :=
  ⟨k.os.trans h.os, k.tape.trans h.tape, k.output.trans h.output, Nat.le_trans h.size k.size, fun i hi hn =>
    (k.block i (Nat.lt_of_lt_of_le hi h.size) (fun ht => (hT i ht).elim hn (fun h' => by omega))).trans (h.block i hi hn)⟩
theorem mono (h : Ch S w w1) (hS : ∀ i, S i → T i ∨ w.heap.size ≤ i) : Ch T w w1 :=
  ⟨h.os, h.tape, h.output, h.size, fun i hi hn => h.block i hi (fun hs => (hS i hs).elim hn (fun h' => by omega))⟩
theorem of_grown {row : Option Nat} (h : w.grownBy w1 row) : Ch (fun k => some k = row) w w1 := ⟨h.os, h.tape, h.output, h.size, h.block⟩
theorem of_below (h : Below w.heap.size w w1) : Ch (fun _ => False) w w1 := ⟨h.os, h.tape, h.output, h.size, fun k hk _ => h.block k hk⟩
theorem below {B : Nat} {w0 : World} (h : Ch S w w1) (hb : Below B w0 w) (hS : ∀ i, S i → B ≤ i) (hB : B ≤ w.heap.size) : Below B w0 w1 :=
  hb.trans ⟨h.os, h.tape, h.output, h.size, fun k hk => h.block k (by omega) (fun hs => by have := hS k hs; omega)⟩
theorem grown (h : Ch S w w1) {row : Option Nat} (hS : ∀ i, S i → some i = row ∨ w.heap.size ≤ i) : w.grownBy w1 row :=
  ⟨h.os, h.tape, h.output, h.size, fun k hk hn => h.block k hk (fun hs => (hS k hs).elim hn (fun h' => by omega))⟩
theorem drewN (h : Ch S w w1) (q : Nat) : Ch S w (w1.drewN q) := ⟨h.os, h.tape, h.output, h.size, h.block⟩
theorem setCell (h : Ch S w w1) {p : Addr} (hp : S p.block ∨ w.heap.size ≤ p.block) (u : Value) : Ch S w (w1.setCell p u) :=
  h.trans (T := fun k => k = p.block) ⟨rfl, rfl, rfl, by simp [World.setCell], fun k _ hk => Below.heap_setCell _ _ _ _ hk⟩ (fun i hi => by subst hi; exact hp)
theorem alloc (h : Ch S w w1) (o : Obj) : Ch S w (w1.alloc o) :=
  h.trans (T := fun _ => False) ⟨rfl, rfl, rfl, by simp, fun k hk _ => Below.heap_alloc _ _ _ hk⟩ (fun _ hi => hi.elim)
theorem blk (h : Ch S w w1) {k : Nat} {o : Obj} (hb : w.heap[k]? = some o) (hk : ¬ S k) : w1.heap[k]? = some o :=
  (h.block k (Array.getElem?_eq_some_iff.1 hb).1 hk).trans hb
theorem own (h : Ch S w w1) {base : Nat} {e : TypeId} {size n : Nat} {v : Value} {xs : List Value} (ho : w.ownsRow base e size v n xs) (hk : ∀ k, v.ownBlock = some k → ¬ S k) : w1.ownsRow base e size v n xs := by
  obtain ⟨h1, h2⟩ := ho
  refine ⟨h1, ?_⟩
  rcases h2 with h2 | ⟨g, cap, cur, rfl, hg, hh, r⟩
  · exact .inl h2
  · exact .inr ⟨g, cap, cur, rfl, hg, h.blk hh (hk g (by simp [Value.ownBlock])), r⟩
end Ch

/-- Whole numbers as values. -/
def vs (xs : List Nat) : List Value := xs.map fun (x : Nat) => Value.int .i64 (x : Int)
theorem vs_length (xs : List Nat) : (vs xs).length = xs.length := by simp [vs]
theorem vs_get (xs : List Nat) (i : Nat) (h : i < xs.length) : (vs xs)[i]? = some (.int .i64 (xs[i] : Int)) := by simp [vs, h]

/-- The heap's struct lies at block g: its list is v, which holds xs; the names are at A. -/
structure RS (base g : Nat) (A : Option Addr) (m d : Nat) (w : World) (v : Value) (xs : List Nat) : Prop where
  blk : w.heap[g]? = some (.cells #[v, .slice A m d] 44 (0, 0))
  own : w.ownsRow base 3 1 v xs.length (vs xs)
  ne : v.ownBlock ≠ some g

section
variable {base g : Nat} {A : Option Addr} {m d : Nat} {w w1 : World} {v : Value} {xs : List Nat}
theorem cell_blk {w : World} {g : Nat} {cs : Array Value} {t : TypeId} {fr : Nat × Nat} (h : w.heap[g]? = some (.cells cs t fr)) (i : Nat) : w.cell? ⟨g, i, none⟩ = cs[i]? := by simp [World.cell?, h]
theorem free_blk {w : World} {g : Nat} {cs : Array Value} {t : TypeId} (h : w.heap[g]? = some (.cells cs t (0, 0))) (i : Nat) : w.frozen? ⟨g, i, none⟩ = false := by simp [World.frozen?, h]
theorem RS.c0 (h : RS base g A m d w v xs) : w.cell? ⟨g, 0, none⟩ = some v := by rw [cell_blk h.blk]; rfl
theorem RS.c1 (h : RS base g A m d w v xs) : w.cell? ⟨g, 1, none⟩ = some (.slice A m d) := by rw [cell_blk h.blk]; rfl
theorem RS.f0 (h : RS base g A m d w v xs) (i : Nat) : w.frozen? ⟨g, i, none⟩ = false := free_blk h.blk i
theorem RS.lt (h : RS base g A m d w v xs) : g < w.heap.size := (Array.getElem?_eq_some_iff.1 h.blk).1
theorem RS.keep {S : Nat → Prop} (h : RS base g A m d w v xs) (hc : Ch S w w1) (hg : ¬ S g) (hv : ∀ k, v.ownBlock = some k → ¬ S k) : RS base g A m d w1 v xs :=
  ⟨hc.blk h.blk hg, hc.own h.own hv, h.ne⟩
end

theorem info3 : (Try.prog.info? 3).map (fun i => (i.zero, i.size, i.bytes)) = some (some (.int .i64 0), 1, 8) := by kernel_rfl

theorem heap_setCell_same' {w : World} {g i : Nat} {cs : Array Value} {t : TypeId} {fr : Nat × Nat} (h : w.heap[g]? = some (.cells cs t fr)) (u : Value) :
    (w.setCell ⟨g, i, none⟩ u).heap[g]? = some (.cells (cs.setIfInBounds i u) t fr) := by
  simp [World.setCell, Array.getElem?_modify, h]

theorem push_k0 {base g : Nat} {A : Option Addr} {m d : Nat} {w w0 w' : World} {v : Value} {xs : List Nat} (h : RS base g A m d w v xs) (hW : Ch (fun _ => False) w w0) (hg : w0.grownBy w' v.ownBlock) : w'.cell? ⟨g, 0, none⟩ = some v := by
  have hb := hW.blk h.blk (fun hf => hf)
  have hb2 := (Ch.of_grown hg).blk hb (fun e => h.ne e.symm)
  rw [cell_blk hb2]; rfl
theorem push_e0 {base g : Nat} {A : Option Addr} {m d : Nat} {w w0 w' : World} {v : Value} {xs : List Nat} (h : RS base g A m d w v xs) (hW : Ch (fun _ => False) w w0) (hg : w0.grownBy w' v.ownBlock) : w'.frozen? ⟨g, 0, none⟩ = false := by
  have hb := hW.blk h.blk (fun hf => hf)
  have hb2 := (Ch.of_grown hg).blk hb (fun e => h.ne e.symm)
  exact free_blk hb2 0

theorem push_end {base g : Nat} {A : Option Addr} {m d x g' cap' : Nat} {w w0 w' : World} {v : Value} {xs : List Nat} (h : RS base g A m d w v xs) (hW : Ch (fun _ => False) w w0) (hg : w0.grownBy w' v.ownBlock)
    (ho : w'.ownsRow base 3 1 (.slice (some ⟨g', 0, none⟩) (xs.length + 1) cap') (xs.length + 1) (vs xs ++ [.int .i64 x])) (hor : v.ownBlock = some g' ∨ g' = w.heap.size + 1) (_hs : w0.heap.size = w.heap.size + 1) :
    RS base g A m d (w'.setCell ⟨g, 0, none⟩ (.slice (some ⟨g', 0, none⟩) (xs.length + 1) cap')) (.slice (some ⟨g', 0, none⟩) (xs.length + 1) cap') (xs ++ [x]) ∧
      Ch (fun k => k = g ∨ some k = v.ownBlock) w (w'.setCell ⟨g, 0, none⟩ (.slice (some ⟨g', 0, none⟩) (xs.length + 1) cap')) ∧
      ((Value.slice (some ⟨g', 0, none⟩) (xs.length + 1) cap').ownBlock = v.ownBlock ∨ ∃ b, (Value.slice (some ⟨g', 0, none⟩) (xs.length + 1) cap').ownBlock = some b ∧ w.heap.size ≤ b) := by
  have hne : g' ≠ g := by
    rcases hor with hor | hor
    · intro e; subst e; exact h.ne hor
    · have := h.lt; omega
  have hb := hW.blk h.blk (fun hf => hf)
  have hb2 := (Ch.of_grown hg).blk hb (fun e => h.ne e.symm)
  refine ⟨⟨?_, ?_, ?_⟩, ?_, ?_⟩
  · rw [heap_setCell_same' hb2]; rfl
  · have hc : Ch (fun k => k = g) w' (w'.setCell ⟨g, 0, none⟩ (.slice (some ⟨g', 0, none⟩) (xs.length + 1) cap')) := (Ch.refl (fun k => k = g) w').setCell (p := ⟨g, 0, none⟩) (.inl rfl) _
    have := hc.own ho (fun k hk => by simp [Value.ownBlock] at hk; omega)
    simpa [vs] using this
  · simp [Value.ownBlock, hne]
  · exact ((hW.mono (T := fun k => k = g ∨ some k = v.ownBlock) (fun _ hf => hf.elim)).trans (Ch.of_grown hg) (fun i hi => .inl (.inr hi))).setCell (.inl (.inl rfl)) _
  · rcases hor with hor | hor
    · exact .inl hor.symm
    · exact .inr ⟨g', rfl, by omega⟩

theorem typeAssert_int (x : Int) : ∀ w : World, (Instr.typeAssert (.iface 3 (.int .i64 x)) 20 3 false).run Try.prog w = .ok (.int .i64 x) w := fun _ => by kernel_rfl

set_option maxHeartbeats 8000000 in
set_option maxRecDepth 1000000 in
/-- 'Push'. -/
theorem push_any (base g : Nat) (A : Option Addr) (m d : Nat) (w : World) (v : Value) (xs : List Nat) (x : Nat) (h : RS base g A m d w v xs) (hl : xs.length ≤ 1000) (hbase : base ≤ w.heap.size) :
    Calls Try.prog 72 #[.pointer (some ⟨g, 0, none⟩), .iface 3 (.int .i64 x)] w fun e w' => e = .returned (.tuple #[]) ∧
      ∃ v', RS base g A m d w' v' (xs ++ [x]) ∧ Ch (fun k => k = g ∨ some k = v.ownBlock) w w' ∧ (v'.ownBlock = v.ownBlock ∨ ∃ b, v'.ownBlock = some b ∧ w.heap.size ≤ b) := by
  obtain ⟨i0, hi, hz0, hz1, hz2⟩ := info_parts info3
  have c0 := h.c0
  have f0 := h.f0 0
  have ta := typeAssert_int x
  have HO : Hid ((w.alloc (.cells #[.int .i64 (x : Int)] 3)).drew.ownsRow base 3 1 v xs.length (vs xs)) := h.own.alloc _
  have HN : Hid (∀ j u, [Value.int .i64 (x : Int)][j]? = some u → ((w.alloc (.cells #[.int .i64 (x : Int)] 3)).drew).cell? ((⟨w.heap.size, 0, none⟩ : Addr).add j) = some u) :=
    World.news_of_block (cs := #[.int .i64 (x : Int)]) (t := 3) (fr := (0, 0)) (heap_alloc_new w _)
  have H1 : Hid (∀ u ∈ [Value.int .i64 (x : Int)], u.oneCell' = true) := fun u hu => by simp at hu; subst hu; rfl
  have HB : Hid (base ≤ ((w.alloc (.cells #[.int .i64 (x : Int)] 3)).drew).heap.size) := by show base ≤ (w.alloc _).heap.size; simp; omega
  have HS : Hid (((w.alloc (.cells #[.int .i64 (x : Int)] 3)).drew).heap.size = w.heap.size + 1) := by show (w.alloc _).heap.size = _; simp
  have HW : Hid (Ch (fun _ => False) w (w.alloc (.cells #[.int .i64 (x : Int)] 3)).drew) := ((Ch.refl _ w).alloc _).drewN 1
  have HL : Hid (xs.length + 1 ≤ maxLen ∧ (xs.length + 1) * 8 ≤ 140737488355328) := ⟨by unfold maxLen; omega, by omega⟩
  have ca : (w.alloc (.cells #[.int .i64 (x : Int)] 3)).cell? ⟨g, 0, none⟩ = some v := by rw [World.cell?_alloc_past _ _ _ h.lt]; exact c0
  clear hbase hl
  go_enter Try.func72, Try.ntmps72
  go_wp2_with fail
  go_region_law (refine step_append_lies _ rfl (.tmp 8) (.tmp 11) 26 rfl base 3 i0 (.int .i64 0) 1 8 Try.underlying26 hi hz0 hz1 hz2 rfl (by decide) v xs.length (vs xs) (by simp [Act.eval]) HO.out ⟨w.heap.size, 0, none⟩ 1 1 [.int .i64 x] (by simp [Act.eval]) rfl HN.out H1.out (by decide) HL.out.1 HL.out.2 HB.out (w.heap.size + 1) HS.out ?_; intro g' cap' w' hown hgr hor hlt; have HOW := Lib.hid hown; have HGR := Lib.hid hgr; have HOR := Lib.hid hor; have HLT := Lib.hid hlt; clear hown hgr hor hlt; have k0 := push_k0 h HW.out HGR.out; have e0 := push_e0 h HW.out HGR.out)
  all_goals
    go_wp2
    go_end0
    exact ⟨rfl, _, push_end h HW.out HGR.out HOW.out HOR.out HS.out⟩

theorem pop_end {base g b n cap x : Nat} {A : Option Addr} {m d : Nat} {w : World} {xs : List Nat} (h : RS base g A m d w (.slice (some ⟨b, 0, none⟩) (n + 1) cap) (xs ++ [x])) (hn : xs.length = n) :
    RS base g A m d (w.setCell ⟨g, 0, none⟩ (.slice (some ⟨b, 0, none⟩) n cap)) (.slice (some ⟨b, 0, none⟩) n cap) xs ∧ Ch (fun k => k = g) w (w.setCell ⟨g, 0, none⟩ (.slice (some ⟨b, 0, none⟩) n cap)) := by
  subst hn
  have hne : b ≠ g := fun e => h.ne (by simp [Value.ownBlock, e])
  have hc : Ch (fun k => k = g) w (w.setCell ⟨g, 0, none⟩ (.slice (some ⟨b, 0, none⟩) xs.length cap)) := (Ch.refl (fun k => k = g) w).setCell (p := ⟨g, 0, none⟩) (.inl rfl) _
  refine ⟨⟨?_, ?_, ?_⟩, hc⟩
  · rw [heap_setCell_same' h.blk]; rfl
  · refine hc.own (w := w) ?_ (fun k hk => by simp [Value.ownBlock] at hk; omega)
    rcases h.own.2 with ⟨h1, _⟩ | ⟨g', cap', cur, he, hb, hh, h1, h2, h3, h4⟩
    · cases h1
    · injection he with e1 e2 e3
      injection e1 with e1
      injection e1 with e1
      subst e1 e3
      refine ⟨by simp [vs], .inr ⟨b, cap, cur, rfl, hb, hh, by simp at h1; omega, h2, h3, ?_⟩⟩
      have h5 : (cur.toList.take ((xs ++ [x]).length * 1)).take xs.length = (vs (xs ++ [x])).take xs.length := by rw [h4]
      rw [List.take_take] at h5
      rw [show min xs.length ((xs ++ [x]).length * 1) = xs.length * 1 from by simp] at h5
      rw [h5]
      simp [vs]
  · simp [Value.ownBlock, hne]

end Go.Proofs.Ytbpaadigojfkjaa
