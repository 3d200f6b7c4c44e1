/- GraphOrders walked. -/
import Derived.Test.YtbpaadigojfkjaaH8
namespace Go.Proofs.Ytbpaadigojfkjaa
open Go.RowKit

theorem ord_len8 (ns : List ByteArray) (nss : List (List ByteArray)) : (ordF ns nss).1.length ≤ ns.length := by
  rcases ord_cases ns nss with ⟨_, h⟩ | ⟨h, _⟩
  · rw [h]; simp
  · rw [h]; exact (out_gs ns nss).length_le

set_option maxHeartbeats 40000000 in
set_option maxRecDepth 1000000 in
theorem orders_any (a b : Option Addr) (c d : Nat) (ns : List ByteArray) (nss : List (List ByteArray)) (w : World) (hs : SR w a ns) (hc : ns.length ≤ c) (hr : NR w b nss) :
    Calls Try.prog 3 #[.slice a ns.length c, .slice b nss.length d] w fun e w' => e = .returned (.bool true) ∧ Below w.heap.size w w' := by
  have HH := Lib.hid (heavy_any a b c d ns nss w hr)
  have HO : Hid (light ns nss → ∀ w', Below w.heap.size w w' → Calls Try.prog 10 #[.slice a ns.length c, .slice b nss.length d] w' (OrdPost ns nss w')) := fun hl w' hb => order_said a b c d ns nss w' (hs.below hb) (by have := hl.1; omega) hc (hr.below hb) (by have := hl.2.1; omega) (fun i => by have := hl.2.2 i; omega)
  have HO3 : Hid (light ns nss → ∀ w', Below w.heap.size w w' → Calls Try.prog 11 #[.slice a ns.length c, .slice b nss.length d] w' (OrdPost ns nss w')) := fun hl w' hb => ref_any a b c d ns nss w' (hs.below hb) (by have := hl.1; omega) hc (hr.below hb) (fun i => by have := hl.2.2 i; omega)
  obtain ⟨n, hnn⟩ : ∃ n, ns.length = n := ⟨_, rfl⟩
  obtain ⟨m, hmm⟩ : ∃ m, nss.length = m := ⟨_, rfl⟩
  rw [hnn, hmm] at HH HO HO3 ⊢
  rw [hnn] at hc
  have HN := Lib.hid hnn
  clear hs hr hnn hmm
  go_enter Try.func3, Try.ntmps3
  go_wp2_with fail
  refine HH.out.mono ?_
  rintro e w' ⟨v, rfl, rfl, hl⟩
  have HL := Lib.hid hl
  clear hl HH
  cases v with
  | true =>
    go_wp2_with fail
    refine (awake_any w).mono ?_
    rintro e w1 ⟨rfl, h1⟩
    have H1 := Lib.hid h1
    clear h1
    go_wp2_with fail
    go_ret
    exact ⟨rfl, H1.out⟩
  | false =>
    have hl := HL.out rfl
    have hn : n ≤ 12 := by have := hl.1; rw [HN.out] at this; exact this
    have HO1 := Lib.hid (HO.out hl)
    have HO2 := Lib.hid (HO3.out hl)
    clear hl HL HO HO3
    go_wp2_with fail
    refine (HO1.out w (Below.refl _ _)).mono ?_
    rintro e w1 ⟨v, base, rfl, h1, h2, h3⟩
    obtain ⟨p, q, rfl, _, h4⟩ := own_ir h3
    have HB1 := Lib.hid h1
    have H4 := Lib.hid h4
    have hol := ord_len8 ns nss
    have hO3 := HO2.out w1 HB1.out
    unfold OrdPost at hO3
    obtain ⟨xs, hxs⟩ : ∃ xs, (ordF ns nss).1 = xs := ⟨_, rfl⟩
    obtain ⟨at', hat⟩ : ∃ x, (ordF ns nss).2.1 = x := ⟨_, rfl⟩
    obtain ⟨why, hwhy⟩ : ∃ x, (ordF ns nss).2.2 = x := ⟨_, rfl⟩
    rw [hxs] at hol H4
    rw [hxs, hat, hwhy] at hO3 ⊢
    rw [HN.out] at hol
    have HO4 := Lib.hid hO3
    have HOL := Lib.hid hol
    clear h1 h2 h3 h4 hol hO3 hxs hat hwhy HO1 HO2
    go_wp2_with fail
    refine HO4.out.mono ?_
    rintro e w2 ⟨v, base2, rfl, h1, h2, h3⟩
    obtain ⟨p2, q2, rfl, _, h5⟩ := own_ir h3
    have HB2 := Lib.hid (HB1.out.trans (h1.mono HB1.out.size))
    have H5 := Lib.hid h5
    have H6 := Lib.hid (H4.out.below h1)
    clear h1 h2 h3 h5
    go_wp2_with fail
    refine (same_any p p2 q q2 xs w2 H6.out H5.out (by have := HOL.out; omega)).mono ?_
    rintro e w3 ⟨rfl, h7⟩
    have HB3 := Lib.hid (HB2.out.trans (h7.bel.mono HB2.out.size))
    clear h7
    have hatt : (at' == at') = true := beq_self_eq_true _
    have hwhyy : (why == why) = true := beq_self_eq_true _
    go_wp2_with fail
    refine (num_any why w3).mono ?_
    rintro e w4 ⟨rfl, rfl⟩
    go_wp2_with fail
    refine (awake_any _).mono ?_
    rintro e w6 ⟨rfl, h8⟩
    have HB4 := Lib.hid (HB3.out.trans (h8.mono HB3.out.size))
    clear h8
    go_wp2_with fail
    go_ret
    exact ⟨rfl, HB4.out⟩
end Go.Proofs.Ytbpaadigojfkjaa
