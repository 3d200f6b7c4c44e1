/- awake walked. -/
import Derived.Test.YtbpaadigojfkjaaH1
import Derived.Test.YtbpaadigojfkjaaGn
import Derived.Test.YtbpaadigojfkjaaP5
namespace Go.Proofs.Ytbpaadigojfkjaa
open Go.RowKit

theorem order_said (a b : Option Addr) (c d : Nat) (ns : List ByteArray) (nss : List (List ByteArray)) (w : World) (hs : SR w a ns) (hn : ns.length ≤ 1000) (hc : ns.length ≤ c) (hr : NR w b nss) (hm : nss.length ≤ 1000) (hmm : ∀ i, (nss.getD i []).length ≤ 1000) :
    Calls Try.prog 10 #[.slice a ns.length c, .slice b nss.length d] w (OrdPost ns nss w) := order_any edges_said lts_swo lts_tot a b c d ns nss w hs hn hc hr hm hmm
theorem ord_abc : ordF [⟨#[97]⟩, ⟨#[98]⟩, ⟨#[99]⟩] [[⟨#[99]⟩], [], []] = ([1, 2, 0], 0, 0) := by decide +kernel
theorem add0 (b i : Nat) : (⟨b, 0, none⟩ : Addr).add i = ⟨b, i, none⟩ := by
  unfold Addr.add
  split
  · rename_i h
    have h' : i = 0 := by simpa using h
    rw [h']
  · simp
theorem new_sr {w : World} {b : Nat} {ns : List ByteArray} {fr : Nat × Nat} (h : w.heap[b]? = some (.cells (ns.map Value.string).toArray 9 fr)) : SR w (some ⟨b, 0, none⟩) ns := fun i hi => ⟨_, rfl, by
  rw [add0, cell_blk h]
  simp [nm, List.getD_eq_getElem?_getD, hi]⟩
theorem new_ir {w : World} {b : Nat} {xs : List Nat} {fr : Nat × Nat} (h : w.heap[b]? = some (.cells (vs xs).toArray 3 fr)) : IR w (some ⟨b, 0, none⟩) xs := fun i hi => ⟨_, rfl, by
  rw [add0, cell_blk h]
  simp [vs, List.getD_eq_getElem?_getD, hi]⟩
theorem SR.nil {w : World} {a : Option Addr} : SR w a [] := fun i hi => by simp at hi
/-- What awake lays out. -/
theorem awake_built (w : World) : ∀ W, W = ((w.alloc (.cells #[.string ⟨#[97]⟩, .string ⟨#[98]⟩, .string ⟨#[99]⟩] 9)).alloc (.cells #[.string ⟨#[99]⟩] 9)).alloc (.cells #[.slice (some ⟨w.heap.size + 1, 0, none⟩) 1 1, .slice none 0 0, .slice none 0 0] 22) →
    SR W (some ⟨w.heap.size, 0, none⟩) [⟨#[97]⟩, ⟨#[98]⟩, ⟨#[99]⟩] ∧ NR W (some ⟨w.heap.size + 1 + 1, 0, none⟩) [[⟨#[99]⟩], [], []] ∧ Below w.heap.size w W := by
  rintro W rfl
  have h1 : ∀ x y : Obj, ((w.alloc (.cells #[.string ⟨#[97]⟩, .string ⟨#[98]⟩, .string ⟨#[99]⟩] 9)).alloc x |>.alloc y).heap[w.heap.size]? = some (.cells #[.string ⟨#[97]⟩, .string ⟨#[98]⟩, .string ⟨#[99]⟩] 9 (0, 0)) := by
    intro x y
    rw [Below.heap_alloc _ _ _ (by simp; omega), Below.heap_alloc _ _ _ (by simp), heap_alloc_new]
  have h2 : ∀ x y : Obj, ((w.alloc x).alloc (.cells #[.string ⟨#[99]⟩] 9) |>.alloc y).heap[w.heap.size + 1]? = some (.cells #[.string ⟨#[99]⟩] 9 (0, 0)) := by
    intro x y
    rw [Below.heap_alloc _ _ _ (by simp)]
    have := heap_alloc_new (w.alloc x) (.cells #[.string ⟨#[99]⟩] 9)
    simpa using this
  have h3 : ∀ x y : Obj, ∀ cs, ((w.alloc x).alloc y |>.alloc (.cells cs 22)).heap[w.heap.size + 1 + 1]? = some (.cells cs 22 (0, 0)) := by
    intro x y cs
    have := heap_alloc_new ((w.alloc x).alloc y) (.cells cs 22)
    simpa using this
  refine ⟨new_sr (h1 _ _), fun i hi => ?_, (((Below.refl _ _).alloc (Nat.le_refl _) _).alloc (by simp) _).alloc (by simp; omega) _⟩
  have hc := cell_blk (h3 (.cells #[.string ⟨#[97]⟩, .string ⟨#[98]⟩, .string ⟨#[99]⟩] 9) (.cells #[.string ⟨#[99]⟩] 9) #[.slice (some ⟨w.heap.size + 1, 0, none⟩) 1 1, .slice none 0 0, .slice none 0 0]) i
  rcases i with _ | _ | _ | i
  · exact ⟨_, _, _, rfl, by rw [add0, hc]; rfl, by simp, new_sr (h2 _ _)⟩
  · exact ⟨_, none, 0, rfl, by rw [add0, hc]; rfl, by simp, SR.nil⟩
  · exact ⟨_, none, 0, rfl, by rw [add0, hc]; rfl, by simp, SR.nil⟩
  · simp at hi; omega
theorem own_ir {base : Nat} {w : World} {v : Value} {xs : List Nat} (h : w.ownsRow base 3 1 v xs.length (vs xs)) : ∃ b c, v = .slice b xs.length c ∧ xs.length ≤ c ∧ IR w b xs := by
  rcases h.2 with ⟨rfl, h0⟩ | ⟨b, cap, cur, rfl, hb, hh, h1, h2, h3, h4⟩
  · exact ⟨none, 0, by rw [h0], by omega, fun i hi => by omega⟩
  · refine ⟨_, cap, rfl, h1, fun i hi => ⟨_, rfl, ?_⟩⟩
    have e : w.cell? ⟨b, i, none⟩ = some (.int .i64 (xs.getD i 0 : Nat)) := by
      rw [cell_blk hh]
      have : (cur.toList.take xs.length)[i]? = (vs xs)[i]? := by rw [show cur.toList.take xs.length = vs xs from by simpa using h4]
      rw [List.getElem?_take, if_pos hi, vs_get xs i hi] at this
      simpa [List.getD_eq_getElem?_getD, hi] using this
    rw [add0]; exact e

theorem abc_any (a b : Option Addr) (w : World) (hs : SR w a [⟨#[97]⟩, ⟨#[98]⟩, ⟨#[99]⟩]) (hr : NR w b [[⟨#[99]⟩], [], []]) :
    Calls Try.prog 10 #[.slice a 3 3, .slice b 3 3] w fun e w' => ∃ p c, e = .returned (.tuple #[.slice p 3 c, .int .i64 0, .int .i64 0]) ∧ Below w.heap.size w w' ∧ IR w' p [1, 2, 0] := by
  refine (order_said a b 3 3 [⟨#[97]⟩, ⟨#[98]⟩, ⟨#[99]⟩] [[⟨#[99]⟩], [], []] w hs (by simp) (by simp) hr (by simp) ?_).mono ?_
  · intro i
    rcases i with _ | _ | _ | i <;> simp
  · rintro e w' ⟨v, base, rfl, h1, h2, h3⟩
    rw [ord_abc] at h3 ⊢
    obtain ⟨p, c, rfl, _, hp⟩ := own_ir h3
    exact ⟨p, c, rfl, h1, hp⟩

set_option maxHeartbeats 4000000 in
set_option maxRecDepth 1000000 in
theorem awake_any (w : World) : Calls Try.prog 9 #[] w fun e w' => e = .returned (.bool true) ∧ Below w.heap.size w w' := by
  go_enter Try.func9, Try.ntmps9
  go_wp2_with fail
  have HB := Lib.hid (awake_built w _ rfl)
  generalize ((w.alloc (.cells #[.string ⟨#[97]⟩, .string ⟨#[98]⟩, .string ⟨#[99]⟩] 9)).alloc (.cells #[.string ⟨#[99]⟩] 9)).alloc (.cells #[.slice (some ⟨w.heap.size + 1, 0, none⟩) 1 1, .slice none 0 0, .slice none 0 0] 22) = W at HB ⊢
  generalize w.heap.size + 1 + 1 = b1 at HB ⊢
  obtain ⟨B, hB⟩ : ∃ B, w.heap.size = B := ⟨_, rfl⟩
  refine (abc_any _ _ W HB.out.1 HB.out.2.1).mono ?_
  rintro e w1 ⟨p, c, rfl, h1, h2⟩
  have H1 := Lib.hid (HB.out.2.2.trans (h1.mono HB.out.2.2.size))
  have H2 := Lib.hid h2
  clear h1 h2 HB
  go_wp2_with fail
  refine (num_any 0 w1).mono ?_
  rintro e w2 ⟨rfl, rfl⟩
  go_wp2_with fail
  refine (same_any p _ c 3 [1, 2, 0] _ (H2.out.below ((Below.refl _ _).alloc (Nat.le_refl _) _)) (new_ir (heap_alloc_new w1 _)) (by simp)).mono ?_
  rintro e w2 ⟨rfl, h3⟩
  have H3 := Lib.hid (H1.out.trans ((((Below.refl w1.heap.size w1).alloc (Nat.le_refl _) _).trans (h3.bel.mono (by simp))).mono H1.out.size))
  clear h3
  go_wp2_with fail
  go_ret
  exact ⟨rfl, H3.out⟩
end Go.Proofs.Ytbpaadigojfkjaa
