/- slices.Index and slices.Contains, of strings and of numbers, walked. -/
import Derived.Test.YtbpaadigojfkjaaGd
namespace Go.Proofs.Ytbpaadigojfkjaa
open Go.RowKit

/-- The first place from i on, of k, at which p holds; -1: none. -/
def ix (p : Nat → Bool) : Nat → Nat → Int
  | 0, _ => -1
  | k + 1, i => if p i then (i : Int) else ix p k (i + 1)
theorem ix_spec (p : Nat → Bool) (k : Nat) : ∀ i, (ix p k i = -1 ∧ ∀ j, i ≤ j → j < i + k → p j = false) ∨ ∃ j : Nat, ix p k i = (j : Int) ∧ i ≤ j ∧ j < i + k ∧ p j = true ∧ ∀ m, i ≤ m → m < j → p m = false := by
  induction k with
  | zero => intro i; exact .inl ⟨rfl, fun j h1 h2 => by omega⟩
  | succ k ih =>
    intro i
    simp only [ix]
    cases hp : p i with
    | true => exact .inr ⟨i, by simp, Nat.le_refl _, by omega, hp, fun m h1 h2 => by omega⟩
    | false =>
      rcases ih (i + 1) with ⟨h1, h2⟩ | ⟨j, h1, h2, h3, h4, h5⟩
      · refine .inl ⟨by simpa using h1, fun j h3 h4 => ?_⟩
        by_cases e : j = i
        · rw [e]; exact hp
        · exact h2 j (by omega) (by omega)
      · refine .inr ⟨j, by simpa using h1, by omega, by omega, h4, fun m h6 h7 => ?_⟩
        by_cases e : m = i
        · rw [e]; exact hp
        · exact h5 m (by omega) h7
theorem ix_range (p : Nat → Bool) (k i : Nat) : -1 ≤ ix p k i ∧ ix p k i < (i + k : Nat) := by
  rcases ix_spec p k i with ⟨h, _⟩ | ⟨j, h, h1, h2, _⟩ <;> rw [h] <;> omega

/-- Equality of names, as the model has it. -/
def seq (s t : ByteArray) : Bool := s.toList == t.toList

/-- Is a place the string's, the number's? -/
def pS (s : ByteArray) (ns : List ByteArray) (i : Nat) : Bool := seq s (nm ns i)
def pI (s : Nat) (xs : List Nat) (i : Nat) : Bool := decide (s = xs.getD i 0)

/-- Numbers that are read at a. -/
def IR (w : World) (a : Option Addr) (xs : List Nat) : Prop := ∀ i, i < xs.length → ∃ ad, a = some ad ∧ w.cell? (ad.add i) = some (.int .i64 (xs.getD i 0 : Nat))
/-- Strings that are read at a. -/
def SR (w : World) (a : Option Addr) (ns : List ByteArray) : Prop := ∀ i, i < ns.length → ∃ ad, a = some ad ∧ w.cell? (ad.add i) = some (.string (nm ns i))
theorem IR.below {w w1 : World} {a : Option Addr} {xs : List Nat} (h : IR w a xs) (hb : Below w.heap.size w w1) : IR w1 a xs := fun i hi => by
  obtain ⟨ad, e, hc⟩ := h i hi
  exact ⟨ad, e, (hb.cell (World.block_lt_of_cell? w _ hc)).trans hc⟩
theorem SR.below {w w1 : World} {a : Option Addr} {ns : List ByteArray} (h : SR w a ns) (hb : Below w.heap.size w w1) : SR w1 a ns := fun i hi => by
  obtain ⟨ad, e, hc⟩ := h i hi
  exact ⟨ad, e, (hb.cell (World.block_lt_of_cell? w _ hc)).trans hc⟩

set_option maxHeartbeats 4000000 in
set_option maxRecDepth 1000000 in
theorem indexS_any (a : Option Addr) (c : Nat) (ns : List ByteArray) (s : ByteArray) (w : World) (h : SR w a ns) (hn : ns.length ≤ 1000) :
    Calls Try.prog 27 #[.slice a ns.length c, .string s] w fun e w' => e = .returned (.int .i64 (ix (pS s ns) ns.length 0)) ∧ w = w' := by
  obtain ⟨n, hnn⟩ : ∃ n, ns.length = n := ⟨_, rfl⟩
  have H := Lib.hid h
  clear h
  rw [hnn] at hn ⊢
  have HN := Lib.hid hnn
  clear hnn
  go_enter Try.func27, Try.ntmps27
  go_wp2_with fail
  go_loop [8] (fun v => ∃ k : Nat, k ≤ n ∧ v = .int .i64 (k : Int) ∧ Hid (ix (pS s ns) n 0 = ix (pS s ns) (n - k) k)) (fun v => n - (intOf v).toNat)
  case atStart => exact ⟨0, Nat.zero_le _, rfl, rfl⟩
  case round =>
    obtain ⟨k, hk, rfl, HK⟩ := hrel
    by_cases hlt : k < n
    · obtain ⟨ad, rfl, hc⟩ := H.out k (by rw [HN.out]; exact hlt)
      cases he : pS s ns k with
      | true =>
        have hs : (s.toList == (nm ns k).toList) = true := he
        have HE := Lib.hid he
        clear he
        go_wp2
        go_ret
        refine ⟨?_, rfl⟩
        rw [HK.out, show n - k = (n - k - 1) + 1 from by omega]
        simp only [ix]
        rw [if_pos HE.out]
        rfl
      | false =>
        have hs : (s.toList == (nm ns k).toList) = false := he
        have HE := Lib.hid he
        clear he
        go_wp2
        go_round
        case rel =>
          refine ⟨k + 1, by omega, by go_num, ?_⟩
          have hk := HK.out
          rw [show n - k = (n - (k + 1)) + 1 from by omega] at hk
          simp only [ix] at hk
          rw [if_neg (by rw [HE.out]; simp)] at hk
          exact hk
        case measure => simp [intOf]; omega
    · have hkn : k = n := by omega
      have HKN := Lib.hid hkn
      clear hkn
      go_wp2
      go_ret
      refine ⟨?_, rfl⟩
      rw [HK.out, HKN.out, Nat.sub_self]
      rfl

set_option maxHeartbeats 4000000 in
set_option maxRecDepth 1000000 in
theorem indexI_any (a : Option Addr) (c : Nat) (xs : List Nat) (s : Nat) (w : World) (h : IR w a xs) (hn : xs.length ≤ 1000) :
    Calls Try.prog 32 #[.slice a xs.length c, .int .i64 s] w fun e w' => e = .returned (.int .i64 (ix (pI s xs) xs.length 0)) ∧ w = w' := by
  obtain ⟨n, hnn⟩ : ∃ n, xs.length = n := ⟨_, rfl⟩
  have H := Lib.hid h
  clear h
  rw [hnn] at hn ⊢
  have HN := Lib.hid hnn
  clear hnn
  go_enter Try.func32, Try.ntmps32
  go_wp2_with fail
  go_loop [8] (fun v => ∃ k : Nat, k ≤ n ∧ v = .int .i64 (k : Int) ∧ Hid (ix (pI s xs) n 0 = ix (pI s xs) (n - k) k)) (fun v => n - (intOf v).toNat)
  case atStart => exact ⟨0, Nat.zero_le _, rfl, rfl⟩
  case round =>
    obtain ⟨k, hk, rfl, HK⟩ := hrel
    by_cases hlt : k < n
    · obtain ⟨ad, rfl, hc⟩ := H.out k (by rw [HN.out]; exact hlt)
      obtain ⟨y, hy⟩ : ∃ y, xs.getD k 0 = y := ⟨_, rfl⟩
      rw [hy] at hc
      by_cases he : s = y
      · have hs : ((s : Int) == (y : Int)) = true := beq_iff_eq.2 (by omega)
        have HE := Lib.hid (show pI s xs k = true from by unfold pI; rw [hy]; exact decide_eq_true he)
        clear he hy
        go_wp2
        go_ret
        refine ⟨?_, rfl⟩
        rw [HK.out, show n - k = (n - k - 1) + 1 from by omega]
        simp only [ix]
        rw [if_pos HE.out]
        rfl
      · have hs : ((s : Int) == (y : Int)) = false := beq_eq_false_iff_ne.2 (by omega)
        have HE := Lib.hid (show pI s xs k = false from by unfold pI; rw [hy]; exact decide_eq_false he)
        clear he hy
        go_wp2
        go_round
        case rel =>
          refine ⟨k + 1, by omega, by go_num, ?_⟩
          have hk := HK.out
          rw [show n - k = (n - (k + 1)) + 1 from by omega] at hk
          simp only [ix] at hk
          rw [if_neg (by rw [HE.out]; simp)] at hk
          exact hk
        case measure => simp [intOf]; omega
    · have hkn : k = n := by omega
      have HKN := Lib.hid hkn
      clear hkn
      go_wp2
      go_ret
      refine ⟨?_, rfl⟩
      rw [HK.out, HKN.out, Nat.sub_self]
      rfl

theorem containsS_any (a : Option Addr) (c : Nat) (ns : List ByteArray) (s : ByteArray) (w : World) (h : SR w a ns) (hn : ns.length ≤ 1000) :
    Calls Try.prog 17 #[.slice a ns.length c, .string s] w fun e w' => e = .returned (.bool (decide (0 ≤ ix (pS s ns) ns.length 0))) ∧ w = w' := by
  have hc := indexS_any a c ns s w h hn
  obtain ⟨r, hr⟩ : ∃ r, ix (pS s ns) ns.length 0 = r := ⟨_, rfl⟩
  rw [hr] at hc ⊢
  have HC := Lib.hid hc
  clear h hc hr
  go_enter Try.func17, Try.ntmps17
  go_wp2_with fail
  refine HC.out.mono ?_
  rintro e w' ⟨rfl, rfl⟩
  go_wp2_with fail
  go_ret
  exact ⟨rfl, rfl⟩
theorem containsI_any (a : Option Addr) (c : Nat) (xs : List Nat) (s : Nat) (w : World) (h : IR w a xs) (hn : xs.length ≤ 1000) :
    Calls Try.prog 22 #[.slice a xs.length c, .int .i64 s] w fun e w' => e = .returned (.bool (decide (0 ≤ ix (pI s xs) xs.length 0))) ∧ w = w' := by
  have hc := indexI_any a c xs s w h hn
  obtain ⟨r, hr⟩ : ∃ r, ix (pI s xs) xs.length 0 = r := ⟨_, rfl⟩
  rw [hr] at hc ⊢
  have HC := Lib.hid hc
  clear h hc hr
  go_enter Try.func22, Try.ntmps22
  go_wp2_with fail
  refine HC.out.mono ?_
  rintro e w' ⟨rfl, rfl⟩
  go_wp2_with fail
  go_ret
  exact ⟨rfl, rfl⟩
end Go.Proofs.Ytbpaadigojfkjaa
