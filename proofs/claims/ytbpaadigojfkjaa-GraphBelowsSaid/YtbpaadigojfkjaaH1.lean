/- num, SameInts, heavy walked. -/
import Derived.Test.YtbpaadigojfkjaaGk
import Derived.BigQuiet
namespace Go.Proofs.Ytbpaadigojfkjaa
open Go.RowKit

theorem num_any (x : Int) (w : World) : Calls Try.prog 13 #[.int .i64 x] w fun e w' => e = .returned (.int .i64 x) ∧ w = w' := by
  go_enter Try.func13, Try.ntmps13
  go_wp2_with fail
  go_ret
  exact ⟨rfl, rfl⟩

theorem Ch.bel {w w1 : World} (h : Ch (fun _ => False) w w1) : Below w.heap.size w w1 := h.below (Below.refl _ _) (fun _ hf => hf.elim) (Nat.le_refl _)
set_option maxHeartbeats 4000000 in
set_option maxRecDepth 1000000 in
theorem same_any (a b : Option Addr) (c d : Nat) (xs : List Nat) (w : World) (ha : IR w a xs) (hb : IR w b xs) (hn : xs.length ≤ 1000) :
    Calls Try.prog 12 #[.slice a xs.length c, .slice b xs.length d] w fun e w' => e = .returned (.bool true) ∧ Ch (fun _ => False) w w' := by
  obtain ⟨n, hnn⟩ : ∃ n, xs.length = n := ⟨_, rfl⟩
  have HA := Lib.hid ha
  have HB := Lib.hid hb
  rw [hnn] at hn ⊢
  have HN := Lib.hid hnn
  clear ha hb hnn
  have hne : ((n : Int) == (n : Int)) = true := beq_self_eq_true _
  go_enter Try.func12, Try.ntmps12
  go_wp2_with fail
  go_loopw [5] (fun v wr => ∃ k : Nat, k ≤ n ∧ v = .int .i64 (k : Int) ∧ Hid (Ch (fun _ => False) w wr)) (fun v _ => n - (intOf v).toNat)
  case atStart => exact ⟨0, Nat.zero_le _, rfl, Ch.refl _ _⟩
  case round =>
    obtain ⟨k, hk, rfl, HC⟩ := hrel
    by_cases hlt : k < n
    · obtain ⟨ad, rfl, hca⟩ := (HA.out.below HC.out.bel) k (by rw [HN.out]; exact hlt)
      obtain ⟨bd, rfl, hcb⟩ := (HB.out.below HC.out.bel) k (by rw [HN.out]; exact hlt)
      obtain ⟨y, hy⟩ : ∃ y, xs.getD k 0 = y := ⟨_, rfl⟩
      rw [hy] at hca hcb
      have hyy : ((y : Int) == (y : Int)) = true := beq_self_eq_true _
      clear hy
      go_wp2_with fail
      go_quiet (fail)
      go_wp2_with fail
      go_roundw
      case rel => exact ⟨k + 1, by omega, by go_num, HC.out.drewN _⟩
      case measure => simp [intOf]; omega
    · have hkn : k = n := by omega
      clear hlt hk
      obtain rfl : n = k := hkn.symm
      clear hkn
      go_wp2_with fail
      go_ret
      exact ⟨rfl, HC.out⟩

def light (ns : List ByteArray) (nss : List (List ByteArray)) : Prop := ns.length ≤ 12 ∧ nss.length ≤ 20 ∧ ∀ i, (nss.getD i []).length ≤ 40
set_option maxHeartbeats 4000000 in
set_option maxRecDepth 1000000 in
theorem heavy_any (a b : Option Addr) (c d : Nat) (ns : List ByteArray) (nss : List (List ByteArray)) (w : World) (hr : NR w b nss) :
    Calls Try.prog 8 #[.slice a ns.length c, .slice b nss.length d] w fun e w' => ∃ v, e = .returned (.bool v) ∧ w = w' ∧ (v = false → light ns nss) := by
  obtain ⟨n, hnn⟩ : ∃ n, ns.length = n := ⟨_, rfl⟩
  obtain ⟨m, hmm⟩ : ∃ m, nss.length = m := ⟨_, rfl⟩
  have HR := Lib.hid hr
  rw [hnn, hmm]
  have HN := Lib.hid hnn
  have HM := Lib.hid hmm
  clear hr hnn hmm
  go_enter Try.func8, Try.ntmps8
  by_cases h12 : 12 < n
  · have hd : decide ((n : Int) > 12) = true := decide_eq_true (by omega)
    go_wp2_with fail
    go_ret
    simp
  · have hd : decide ((12 : Int) < n) = false := decide_eq_false (by omega)
    by_cases h20 : 20 < m
    · have hd2 : decide ((20 : Int) < m) = true := decide_eq_true (by omega)
      go_wp2_with fail
      go_ret
      simp
    · have hd2 : decide ((20 : Int) < m) = false := decide_eq_false (by omega)
      go_wp2_with fail
      go_loop [5] (fun v => ∃ k : Nat, k ≤ m ∧ v = .int .i64 (k : Int) ∧ Hid (∀ i, i < k → (nss.getD i []).length ≤ 40)) (fun v => m - (intOf v).toNat)
      case atStart => exact ⟨0, Nat.zero_le _, rfl, (show Hid _ from fun i hi => by omega)⟩
      case round =>
        obtain ⟨k, hk, rfl, HK⟩ := hrel
        by_cases hlt : k < m
        · obtain ⟨ad, p, q, rfl, hca, _⟩ := HR.out k (by rw [HM.out]; exact hlt)
          obtain ⟨L, hL⟩ : ∃ L, (nss.getD k []).length = L := ⟨_, rfl⟩
          rw [hL] at hca
          have HL := Lib.hid hL
          clear hL
          by_cases h40 : 40 < L
          · have hd3 : decide ((40 : Int) < L) = true := decide_eq_true (by omega)
            go_wp2_with fail
            go_ret
            simp
          · have hd3 : decide ((40 : Int) < L) = false := decide_eq_false (by omega)
            go_wp2_with fail
            go_round
            case rel =>
              refine ⟨k + 1, by omega, by go_num, (show Hid _ from fun i hi => ?_)⟩
              by_cases e : i = k
              · rw [e, HL.out]; omega
              · exact HK.out i (by omega)
            case measure => simp [intOf]; omega
        · have hkn : k = m := by omega
          have hfin : light ns nss := by
            refine ⟨by rw [HN.out]; omega, by rw [HM.out]; omega, fun i => ?_⟩
            by_cases hi : i < m
            · exact HK.out i (by omega)
            · have := HM.out
              rw [List.getD_eq_getElem?_getD, List.getElem?_eq_none (by omega)]; simp
          have HF := Lib.hid hfin
          clear hlt hk HK hfin
          obtain rfl : m = k := hkn.symm
          clear hkn
          go_wp2_with fail
          go_ret
          exact .inl ⟨rfl, rfl, HF.out⟩
end Go.Proofs.Ytbpaadigojfkjaa
