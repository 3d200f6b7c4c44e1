/- Lemmas for the walk of Order. -/
import Derived.Test.YtbpaadigojfkjaaGj
import Derived.Laws.MakeOwn
namespace Go.Proofs.Ytbpaadigojfkjaa
open Go.RowKit

theorem SR.take {w : World} {a : Option Addr} {ns : List ByteArray} (h : SR w a ns) (k : Nat) : SR w a (ns.take k) := fun i hi => by
  have hk : i < k ∧ i < ns.length := by simp at hi; omega
  obtain ⟨ad, e, hc⟩ := h i hk.2
  refine ⟨ad, e, ?_⟩
  rw [hc]
  simp [nm, List.getD_eq_getElem?_getD, hk.1]
theorem twice_any {a : Option Addr} {c : Nat} {ns : List ByteArray} {w : World} (h : SR w a ns) (k : Nat) (hk : k ≤ ns.length) (hn : ns.length ≤ 1000) :
    Calls Try.prog 17 #[.slice a k c, .string (nm ns k)] w fun e w' => e = .returned (.bool (twiceP ns k)) ∧ w = w' := by
  have hl : (ns.take k).length = k := by simp; omega
  have := containsS_any a c (ns.take k) (nm ns k) w (h.take k) (by omega)
  rw [hl] at this
  unfold twiceP
  rw [hl]
  exact this

theorem make_ints (n : Nat) (hn : n ≤ 1000) : ∀ W : World, (Instr.makeSlice 26 (.int .i64 (n : Int)) (.int .i64 (n : Int))).run Try.prog W = .ok (.slice (some ⟨W.heap.size, 0, none⟩) n n) (W.alloc (.cells (madeCells #[.int .i64 0] n) 3)) :=
  fun W => run_make_row' 26 3 (.int .i64 0) 8 Try.underlying26 info3 rfl .i64 .i64 n (by omega) (by omega) W

theorem made_vs (n : Nat) : madeCells #[Value.int .i64 0] n = (vs (List.replicate n 0)).toArray := by
  apply Array.ext'
  apply List.ext_getElem
  · simp [vs, madeCells]
  · intro i h1 h2
    simp [vs, madeCells, Nat.mod_one]
theorem St.init (w1 : World) (A : Option Addr) (n m d : Nat) :
    St w1 A m d w1.heap.size (w1.heap.size + 1) ((w1.alloc (.cells (madeCells #[.int .i64 0] n) 3)).alloc (.cells #[.slice none 0 0, .slice A m d] 44)) (List.replicate n 0) [] (.slice none 0 0) := by
  have h1 : ((w1.alloc (.cells (madeCells #[.int .i64 0] n) 3)).alloc (.cells #[.slice none 0 0, .slice A m d] 44)).heap[w1.heap.size]? = some (.cells (vs (List.replicate n 0)).toArray 3 (0, 0)) := by
    rw [Below.heap_alloc _ _ _ (by simp), heap_alloc_new, made_vs]
  have h2 : ((w1.alloc (.cells (madeCells #[.int .i64 0] n) 3)).alloc (.cells #[.slice none 0 0, .slice A m d] 44)).heap[w1.heap.size + 1]? = some (.cells #[.slice none 0 0, .slice A m d] 44 (0, 0)) := by
    have := heap_alloc_new (w1.alloc (.cells (madeCells #[.int .i64 0] n) 3)) (.cells #[.slice none 0 0, .slice A m d] 44)
    simpa using this
  exact ⟨h1, ⟨h2, World.ownsRow_nil _ _ _ _, by simp [Value.ownBlock]⟩, ((Below.refl _ _).alloc (Nat.le_refl _) _).alloc (by simp) _, by omega, Nat.le_refl _, by omega, by simp [Value.ownBlock]⟩

theorem Ch.of_belowB {B : Nat} {w w1 : World} (h : Below B w w1) : Ch (fun k => B ≤ k) w w1 := ⟨h.os, h.tape, h.output, h.size, fun k _ hk => h.block k (by omega)⟩
section
variable {w1 wr : World} {a : Option Addr} {n c bl g : Nat} {lacks xs : List Nat} {v : Value} {ns : List ByteArray}
theorem St.push_any (h : St w1 a n c bl g wr lacks xs v) (hn : ns.length = n) (hs : SR w1 a ns) (k : Nat) (hb : ∀ y ∈ xs ++ [k], y < n) (hl : xs.length + 1 ≤ 1000) :
    Calls Try.prog 19 #[.iface 42 (.pointer (some ⟨g, 0, none⟩)), .iface 3 (.int .i64 k)] wr fun e w' => e = .returned (.tuple #[]) ∧
      ∃ v', St w1 a n c bl g w' lacks (upF (lts ns) (xs.length + 1) (xs ++ [k]) xs.length) v' ∧ Ch (fun k => k = g ∨ some k = v.ownBlock) wr w' ∧ (v'.ownBlock = v.ownBlock ∨ ∃ b, v'.ownBlock = some b ∧ wr.heap.size ≤ b) := by
  subst hn
  refine (hpush_any w1.heap.size g a c wr v xs k ns h.rs (hs.ns.keep (Ch.of_belowB h.bel) (fun _ hk => hk)) hb hl h.bg).mono ?_
  rintro e w' ⟨rfl, v', h1, h2, h3⟩
  exact ⟨rfl, v', h.turned h1 h2 h3, h2, h3⟩
theorem St.pop_any (h : St w1 a n c bl g wr lacks xs v) (hn : ns.length = n) (hs : SR w1 a ns) (m : Nat) (hm : xs.length = m + 1) (hb : ∀ y ∈ xs, y < n) (hl : m + 1 ≤ 1000) :
    Calls Try.prog 21 #[.iface 42 (.pointer (some ⟨g, 0, none⟩))] wr fun e w' => e = .returned (.iface 3 (.int .i64 ((downF (lts ns) m (m + 1) (swp xs 0 m) 0).getD m 0 : Nat))) ∧
      ∃ v', St w1 a n c bl g w' lacks ((downF (lts ns) m (m + 1) (swp xs 0 m) 0).take m) v' ∧ Ch (fun k => k = g ∨ some k = v.ownBlock) wr w' ∧ (v'.ownBlock = v.ownBlock ∨ ∃ b, v'.ownBlock = some b ∧ wr.heap.size ≤ b) := by
  subst hn
  refine (hpop_any w1.heap.size g a c wr v xs m ns h.rs (hs.ns.keep (Ch.of_belowB h.bel) (fun _ hk => hk)) hb hm hl h.bg).mono ?_
  rintro e w' ⟨rfl, v', h1, h2, h3⟩
  exact ⟨rfl, v', h.turned h1 h2 (.inl h3), h2, .inl h3⟩
end


theorem app_int {ops : Array Oper} {rest : List Oper} {o : Oper} {a : Act} {Q : Exit → Act → World → Prop} (hgd : o.guard = none) (s xx : Operand)
    (ho : o.op = .call { callee := .builtin .append, args := #[s, xx], argTypes := #[26, 26] }) (base : Nat) (w0 : World) (v : Value) (out : List Nat) (x : Nat) (hs : a.eval s = v)
    (hx : a.eval xx = .slice (some ⟨w0.heap.size, 0, none⟩) 1 1) (hown : w0.ownsRow base 3 1 v out.length (vs out)) (hl : out.length ≤ 1000) (hb : base ≤ w0.heap.size)
    (h : ∀ g cap w', w'.ownsRow base 3 1 (.slice (some ⟨g, 0, none⟩) (out.length + 1) cap) (out.length + 1) (vs out ++ [.int .i64 x]) → w0.grownBy w' v.ownBlock → (v.ownBlock = some g ∨ w0.heap.size ≤ g) →
      wpList Try.prog ops Q rest (a.put o.dst (.slice (some ⟨g, 0, none⟩) (out.length + 1) cap)) w') :
    wpList Try.prog ops Q (o :: rest) a (w0.alloc (.cells #[.int .i64 x] 3)) := by
  obtain ⟨i0, hi, hz0, hz1, hz2⟩ := info_parts info3
  refine wpList_append_lies _ hgd s xx 26 ho base 3 i0 (.int .i64 0) 1 8 Try.underlying26 hi hz0 hz1 hz2 rfl (by decide) v out.length (vs out) hs (hown.alloc _) ⟨w0.heap.size, 0, none⟩ 1 1 [.int .i64 x] hx rfl
    (World.news_of_block (cs := #[.int .i64 (x : Int)]) (t := 3) (fr := (0, 0)) (heap_alloc_new w0 _)) (fun u hu => by simp at hu; subst hu; rfl) (by decide) (by unfold maxLen; omega) (by omega) (by simp; omega) _ rfl ?_
  intro g cap w' h1 h2 h3 _
  refine h g cap w' h1 (World.grownBy.trans (World.grownBy_alloc w0 _ _) h2) ?_
  rcases h3 with h3 | h3
  · exact .inl h3
  · exact .inr (by rw [h3]; simp)

/-- Is a number among others? -/
def hasB (x : Nat) (xs : List Nat) : Bool := decide (x ∈ xs)
theorem hasB_ix (x : Nat) (xs : List Nat) : decide (0 ≤ ix (pI x xs) xs.length 0) = hasB x xs := by
  unfold hasB
  rcases ix_spec (pI x xs) xs.length 0 with ⟨h1, h2⟩ | ⟨j, h1, _, h3, h4, _⟩
  · rw [h1]
    have : x ∉ xs := fun hm => by
      obtain ⟨i, hi, he⟩ := List.mem_iff_getElem.1 hm
      have := h2 i (Nat.zero_le _) (by omega)
      unfold pI at this
      simp [List.getD_eq_getElem?_getD, hi, he] at this
    simp [this]
  · rw [h1]
    have : x ∈ xs := by
      unfold pI at h4
      have h5 := of_decide_eq_true h4
      rw [h5]
      simp [List.getD_eq_getElem?_getD, show j < xs.length by omega]
    simp [this]
theorem has_any {a : Option Addr} {c : Nat} {xs : List Nat} {s : Nat} {w : World} (h : IR w a xs) (hn : xs.length ≤ 1000) :
    Calls Try.prog 22 #[.slice a xs.length c, .int .i64 s] w fun e w' => e = .returned (.bool (hasB s xs)) ∧ w = w' := by
  have := containsI_any a c xs s w h hn
  rw [hasB_ix] at this
  exact this
theorem rowsF_len (ns : List ByteArray) (nss : List (List ByteArray)) (k : Nat) : (rowsF ns nss k).length ≤ ns.length := by
  unfold rowsF
  exact Nat.le_trans (List.length_filter_le _ _) (by simp)
theorem rowsF_nodup (ns : List ByteArray) (nss : List (List ByteArray)) (k : Nat) : (rowsF ns nss k).Nodup := nodup_fr _ _
theorem RS.slice {base g : Nat} {A : Option Addr} {m d : Nat} {w : World} {v : Value} {xs : List Nat} (h : RS base g A m d w v xs) : ∃ b cap, v = .slice b xs.length cap := by
  rcases h.own.2 with ⟨rfl, h0⟩ | ⟨b, cap, cur, rfl, _⟩
  · exact ⟨none, 0, by rw [h0]⟩
  · exact ⟨_, cap, rfl⟩
end Go.Proofs.Ytbpaadigojfkjaa
