/- GraphBelows walked. -/
import Derived.Test.YtbpaadigojfkjaaK6
namespace Go.Proofs.Ytbpaadigojfkjaa
open Go.RowKit

theorem bel_len (ns : List ByteArray) (nss : List (List ByteArray)) (at' : Int) : (belF ns nss at').length ≤ ns.length := by
  unfold belF
  split
  · simp
  · have h := List.length_filter_le (fun i => rchB (rowsF ns nss) at'.toNat i) (List.range ns.length)
    rw [List.length_range] at h
    exact h

set_option maxHeartbeats 40000000 in
set_option maxRecDepth 1000000 in
theorem belows_any (a b : Option Addr) (c d : Nat) (at' : Int) (ns : List ByteArray) (nss : List (List ByteArray)) (w : World) (hs : SR w a ns) (hc : ns.length ≤ c) (hr : NR w b nss) :
    Calls Try.prog 7 #[.slice a ns.length c, .slice b nss.length d, .int .i64 at'] w fun e w' => e = .returned (.bool true) ∧ Below w.heap.size w w' := by
  have HH := Lib.hid (heavy_any a b c d ns nss w hr)
  have HO : Hid (light ns nss → ∀ w', Below w.heap.size w w' → Calls Try.prog 15 #[.slice a ns.length c, .slice b nss.length d, .int .i64 at'] w' (BelPost ns nss at' w')) := fun hl w' hb => below_any a b c d at' ns nss w' (hs.below hb) (by have := hl.1; omega) hc (hr.below hb) (by have := hl.2.1; omega) (fun i => by have := hl.2.2 i; omega)
  have HO3 : Hid (light ns nss → ∀ w', Below w.heap.size w w' → Calls Try.prog 16 #[.slice a ns.length c, .slice b nss.length d, .int .i64 at'] w' (BelPost ns nss at' w')) := fun hl w' hb => refbel_any a b c d at' ns nss w' (hs.below hb) (by have := hl.1; omega) hc (hr.below hb) (fun i => by have := hl.2.2 i; omega)
  obtain ⟨n, hnn⟩ : ∃ n, ns.length = n := ⟨_, rfl⟩
  obtain ⟨m, hmm⟩ : ∃ m, nss.length = m := ⟨_, rfl⟩
  rw [hnn, hmm] at HH HO HO3 ⊢
  have HN := Lib.hid hnn
  clear hs hr hnn hmm hc
  go_enter Try.func7, Try.ntmps7
  go_wp2_with fail
  refine HH.out.mono ?_
  rintro e w' ⟨v, rfl, rfl, hl⟩
  have HL := Lib.hid hl
  clear hl HH
  cases v with
  | true =>
    go_wp2_with fail
    refine (awake_any w).mono ?_
    rintro e w1 ⟨rfl, h1⟩
    have H1 := Lib.hid h1
    clear h1
    go_wp2_with fail
    go_ret
    exact ⟨rfl, H1.out⟩
  | false =>
    have hl := HL.out rfl
    have hn : n ≤ 12 := by have := hl.1; rw [HN.out] at this; exact this
    have HO1 := Lib.hid (HO.out hl)
    have HO2 := Lib.hid (HO3.out hl)
    clear hl HL HO HO3
    go_wp2_with fail
    refine (HO1.out w (Below.refl _ _)).mono ?_
    rintro e w1 ⟨v, base, rfl, h1, h2, h3⟩
    obtain ⟨p, q, rfl, _, h4⟩ := own_ir h3
    have HB1 := Lib.hid h1
    have H4 := Lib.hid h4
    have hol := bel_len ns nss at'
    have hO3 := HO2.out w1 HB1.out
    unfold BelPost at hO3
    obtain ⟨xs, hxs⟩ : ∃ xs, belF ns nss at' = xs := ⟨_, rfl⟩
    rw [hxs] at hol H4
    rw [hxs] at hO3 ⊢
    rw [HN.out] at hol
    have HO4 := Lib.hid hO3
    have HOL := Lib.hid hol
    clear h1 h2 h3 h4 hol hO3 hxs HO1 HO2
    go_wp2_with fail
    refine HO4.out.mono ?_
    rintro e w2 ⟨v, base2, rfl, h1, h2, h3⟩
    obtain ⟨p2, q2, rfl, _, h5⟩ := own_ir h3
    have HB2 := Lib.hid (HB1.out.trans (h1.mono HB1.out.size))
    have H5 := Lib.hid h5
    have H6 := Lib.hid (H4.out.below h1)
    clear h1 h2 h3 h5
    go_wp2_with fail
    refine (same_any p p2 q q2 xs w2 H6.out H5.out (by have := HOL.out; omega)).mono ?_
    rintro e w3 ⟨rfl, h7⟩
    have HB3 := Lib.hid (HB2.out.trans (h7.bel.mono HB2.out.size))
    clear h7
    go_wp2_with fail
    refine (awake_any _).mono ?_
    rintro e w6 ⟨rfl, h8⟩
    have HB4 := Lib.hid (HB3.out.trans (h8.mono HB3.out.size))
    clear h8
    go_wp2_with fail
    go_ret
    exact ⟨rfl, HB4.out⟩
end Go.Proofs.Ytbpaadigojfkjaa
