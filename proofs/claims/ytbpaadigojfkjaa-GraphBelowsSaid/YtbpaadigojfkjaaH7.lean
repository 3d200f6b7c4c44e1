/- The reference's place, of and ready walked. -/
import Derived.Test.YtbpaadigojfkjaaH2
import Derived.Test.YtbpaadigojfkjaaP6
namespace Go.Proofs.Ytbpaadigojfkjaa
open Go.RowKit

set_option maxHeartbeats 4000000 in
set_option maxRecDepth 1000000 in
theorem place_any (a : Option Addr) (c : Nat) (ns : List ByteArray) (s : ByteArray) (w : World) (h : SR w a ns) (hn : ns.length ≤ 1000) :
    Calls Try.prog 23 #[.slice a ns.length c, .string s] w fun e w' => e = .returned (.int .i64 (idx ns s)) ∧ w = w' := by
  obtain ⟨n, hnn⟩ : ∃ n, ns.length = n := ⟨_, rfl⟩
  have H := Lib.hid h
  clear h
  unfold idx
  rw [hnn] at hn ⊢
  have HN := Lib.hid hnn
  clear hnn
  go_enter Try.func23, Try.ntmps23
  go_wp2_with fail
  go_loop [5] (fun v => ∃ k : Nat, k ≤ n ∧ v = .int .i64 (k : Int) ∧ Hid (ix (pS s ns) n 0 = ix (pS s ns) (n - k) k)) (fun v => n - (intOf v).toNat)
  case atStart => exact ⟨0, Nat.zero_le _, rfl, rfl⟩
  case round =>
    obtain ⟨k, hk, rfl, HK⟩ := hrel
    by_cases hlt : k < n
    · obtain ⟨ad, rfl, hc⟩ := H.out k (by rw [HN.out]; exact hlt)
      cases he : pS s ns k with
      | true =>
        have hs : ((nm ns k).toList == s.toList) = true := by
          unfold pS seq at he
          rw [beq_iff_eq] at he ⊢
          exact he.symm
        have HE := Lib.hid he
        clear he
        go_wp2
        go_ret
        refine ⟨?_, rfl⟩
        rw [HK.out, show n - k = (n - k - 1) + 1 from by omega]
        simp only [ix]
        rw [if_pos HE.out]
        rfl
      | false =>
        have hs : ((nm ns k).toList == s.toList) = false := by
          unfold pS seq at he
          rw [beq_eq_false_iff_ne] at he ⊢
          exact fun e => he e.symm
        have HE := Lib.hid he
        clear he
        go_wp2
        go_round
        case rel =>
          refine ⟨k + 1, by omega, by go_num, ?_⟩
          have hk := HK.out
          rw [show n - k = (n - (k + 1)) + 1 from by omega] at hk
          simp only [ix] at hk
          rw [if_neg (by rw [HE.out]; simp)] at hk
          exact hk
        case measure => simp [intOf]; omega
    · have hkn : k = n := by omega
      have HKN := Lib.hid hkn
      clear hkn
      go_wp2
      go_ret
      refine ⟨?_, rfl⟩
      rw [HK.out, HKN.out, Nat.sub_self]
      rfl

theorem of_any (b : Option Addr) (d : Nat) (nss : List (List ByteArray)) (k : Nat) (w : World) (h : NR w b nss) :
    Calls Try.prog 24 #[.slice b nss.length d, .int .i64 k] w fun e w' => ∃ p q, e = .returned (.slice p (nss.getD k []).length q) ∧ (nss.getD k []).length ≤ q ∧ SR w p (nss.getD k []) ∧ w = w' := by
  obtain ⟨m, hmm⟩ : ∃ m, nss.length = m := ⟨_, rfl⟩
  by_cases hk : k < m
  · obtain ⟨ad, p, q, rfl, hc, hl, hs⟩ := h k (by rw [hmm]; exact hk)
    obtain ⟨L, hL⟩ : ∃ L, (nss.getD k []).length = L := ⟨_, rfl⟩
    rw [hL] at hc hl
    rw [hmm, hL]
    have HS := Lib.hid hs
    clear hs hL hmm h
    go_enter Try.func24, Try.ntmps24
    go_wp2_with fail
    go_ret
    exact ⟨p, q, rfl, hl, HS.out, rfl⟩
  · have hr := getD_row (nss := nss) (i := k) (by omega)
    rw [hmm, hr]
    have hd : decide ((k : Int) < (m : Int)) = false := decide_eq_false (by omega)
    clear hr hmm h
    go_enter Try.func24, Try.ntmps24
    go_wp2_with fail
    go_ret
    exact ⟨none, 0, rfl, Nat.le_refl _, SR.nil, rfl⟩

/-- What is done, in a row of bools. -/
def BR (w : World) (bl n : Nat) (dn : Nat → Bool) : Prop := ∀ i, i < n → w.cell? ⟨bl, i, none⟩ = some (.bool (dn i)) ∧ w.frozen? ⟨bl, i, none⟩ = false
def allD (ns : List ByteArray) (row : List ByteArray) (dn : Nat → Bool) : Nat → Nat → Bool
  | 0, _ => true
  | k + 1, i => dn (idx ns (nm row i)).toNat && allD ns row dn k (i + 1)
set_option maxHeartbeats 4000000 in
set_option maxRecDepth 1000000 in
theorem ready_any (a p : Option Addr) (c q n bl cb : Nat) (ns row : List ByteArray) (dn : Nat → Bool) (w : World) (h : SR w a ns) (hnn : ns.length = n) (hn : n ≤ 1000) (hr : SR w p row) (hrl : row.length ≤ 1000)
    (hb : BR w bl n dn) (hi : ∀ i, i < row.length → 0 ≤ idx ns (nm row i)) :
    Calls Try.prog 25 #[.slice a n c, .slice p row.length q, .slice (some ⟨bl, 0, none⟩) n cb] w fun e w' => e = .returned (.bool (allD ns row dn row.length 0)) ∧ w = w' := by
  obtain ⟨L, hL⟩ : ∃ L, row.length = L := ⟨_, rfl⟩
  have HP : Hid (∀ s, Calls Try.prog 23 #[.slice a n c, .string s] w fun e w' => e = .returned (.int .i64 (idx ns s)) ∧ w = w') := fun s => by
    have := place_any a c ns s w h (by omega)
    rw [hnn] at this
    exact this
  have HIX : Hid (∀ s, idx ns s < (n : Int)) := fun s => by
    have := (ix_range (pS s ns) ns.length 0).2
    unfold idx
    omega
  have HR := Lib.hid hr
  have HB := Lib.hid hb
  rw [hL] at hrl hi ⊢
  have HI := Lib.hid hi
  have HL := Lib.hid hL
  clear h hnn hr hb hi hL
  go_enter Try.func25, Try.ntmps25
  go_wp2_with fail
  go_loop [7] (fun v => ∃ k : Nat, k ≤ L ∧ v = .int .i64 (k : Int) ∧ Hid (allD ns row dn L 0 = allD ns row dn (L - k) k)) (fun v => L - (intOf v).toNat)
  case atStart => exact ⟨0, Nat.zero_le _, rfl, rfl⟩
  case round =>
    obtain ⟨k, hk, rfl, HK⟩ := hrel
    by_cases hlt : k < L
    · obtain ⟨ad, rfl, hc⟩ := HR.out k (by rw [HL.out]; exact hlt)
      obtain ⟨s, hs⟩ : ∃ s, nm row k = s := ⟨_, rfl⟩
      rw [hs] at hc
      have h0 := HI.out k hlt
      rw [hs] at h0
      obtain ⟨x, hx⟩ : ∃ x : Nat, idx ns s = (x : Int) := ⟨(idx ns s).toNat, by omega⟩
      have hxn : x < n := by have := HIX.out s; omega
      have hP := HP.out s
      rw [hx] at hP
      obtain ⟨hb1, hb2⟩ := HB.out x hxn
      obtain ⟨v, hv⟩ : ∃ v, dn x = v := ⟨_, rfl⟩
      rw [hv] at hb1
      have hst : allD ns row dn (L - k) k = (v && allD ns row dn (L - (k + 1)) (k + 1)) := by
        rw [show L - k = (L - (k + 1)) + 1 from by omega]
        simp only [allD]
        rw [hs, hx]
        simp [hv]
      have HP1 := Lib.hid hP
      have HST := Lib.hid hst
      clear h0 hP hst hv hx hs
      cases v with
      | true =>
        go_wp2_with fail
        refine HP1.out.mono ?_
        rintro e w' ⟨rfl, rfl⟩
        go_wp2_with fail
        go_round
        case rel => exact ⟨k + 1, by omega, by go_num, (show Hid _ from by rw [HK.out, HST.out]; rfl)⟩
        case measure => simp [intOf]; omega
      | false =>
        go_wp2_with fail
        refine HP1.out.mono ?_
        rintro e w' ⟨rfl, rfl⟩
        go_wp2_with fail
        go_ret
        exact ⟨by rw [HK.out, HST.out]; rfl, rfl⟩
    · have hkn : k = L := by omega
      have hfin : allD ns row dn L 0 = true := by rw [HK.out, hkn, Nat.sub_self]; rfl
      have HF := Lib.hid hfin
      clear hfin HK hlt hk
      obtain rfl : L = k := hkn.symm
      clear hkn
      go_wp2_with fail
      go_ret
      exact ⟨by rw [HF.out]; rfl, rfl⟩
end Go.Proofs.Ytbpaadigojfkjaa
