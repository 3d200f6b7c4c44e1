/- GraphTurned walked. -/
import Derived.Test.YtbpaadigojfkjaaGs
import Derived.Test.YtbpaadigojfkjaaP7
namespace Go.Proofs.Ytbpaadigojfkjaa
open Go.RowKit

theorem ord_len (ns : List ByteArray) (nss : List (List ByteArray)) : (ordF ns nss).1.length ≤ ns.length := by
  rcases ord_cases ns nss with ⟨_, h⟩ | ⟨h, _⟩
  · rw [h]; simp
  · rw [h]; exact (out_gs ns nss).length_le

set_option maxHeartbeats 40000000 in
set_option maxRecDepth 1000000 in
theorem turned_any (a b : Option Addr) (c d : Nat) (ns : List ByteArray) (nss : List (List ByteArray)) (w : World) (hs : SR w a ns) (hc : ns.length ≤ c) (hr : NR w b nss) :
    Calls Try.prog 5 #[.slice a ns.length c, .slice b nss.length d] w fun e w' => e = .returned (.bool true) ∧ Below w.heap.size w w' := by
  have HH := Lib.hid (heavy_any a b c d ns nss w hr)
  have HS := Lib.hid hs
  have HR := Lib.hid hr
  have HO : Hid (light ns nss → ∀ w', Below w.heap.size w w' → Calls Try.prog 10 #[.slice a ns.length c, .slice b nss.length d] w' (OrdPost ns nss w')) := fun hl w' hb => order_said a b c d ns nss w' (hs.below hb) (by have := hl.1; omega) hc (hr.below hb) (by have := hl.2.1; omega) (fun i => by have := hl.2.2 i; omega)
  have HO3 : Hid (light ns nss → ∀ w' p q, Below w.heap.size w w' → NR w' p (nss.map tw) → Calls Try.prog 10 #[.slice a ns.length c, .slice p (nss.map tw).length q] w' (OrdPost ns (nss.map tw) w')) := fun hl w' p q hb hp => order_said a p c q ns (nss.map tw) w' (hs.below hb) (by have := hl.1; omega) hc hp (by have := hl.2.1; simp; omega) (fun i => by
    have := hl.2.2 i
    rw [tw_getD]
    unfold tw
    rw [twF_length]
    omega)
  obtain ⟨n, hnn⟩ : ∃ n, ns.length = n := ⟨_, rfl⟩
  obtain ⟨m, hmm⟩ : ∃ m, nss.length = m := ⟨_, rfl⟩
  rw [hnn] at hc HO3
  rw [hnn, hmm] at HH HO ⊢
  have HN := Lib.hid hnn
  have HM := Lib.hid hmm
  clear hs hr hnn hmm
  go_enter Try.func5, Try.ntmps5
  go_wp2_with fail
  refine HH.out.mono ?_
  rintro e w' ⟨v, rfl, rfl, hl⟩
  have HL := Lib.hid hl
  clear hl HH
  cases v with
  | true =>
    go_wp2_with fail
    refine (awake_any w).mono ?_
    rintro e w1 ⟨rfl, h1⟩
    have H1 := Lib.hid h1
    clear h1
    go_wp2_with fail
    go_ret
    exact ⟨rfl, H1.out⟩
  | false =>
    have hl := HL.out rfl
    have hn : n ≤ 12 := by have := hl.1; rw [HN.out] at this; exact this
    have hm : m ≤ 20 := by have := hl.2.1; rw [HM.out] at this; exact this
    have HL2 := Lib.hid hl.2.2
    have HO1 := Lib.hid (HO.out hl)
    have HO2 := Lib.hid (HO3.out hl)
    clear hl HL HO HO3
    go_wp2_with fail
    go_loopw [5, 6] (fun T t wr => ∃ i : Nat, i ≤ m ∧ t = .int .i64 (i : Int) ∧ Hid (∃ cs, Tn w wr T cs ((nss.map tw).take i) (.slice none 0 0) [])) (fun _ t _ => m - (intOf t).toNat)
    case atStart => exact ⟨0, Nat.zero_le _, rfl, [], Tn.nil (Below.refl _ _)⟩
    case round =>
      obtain ⟨i, hi, rfl, HT⟩ := hrel
      by_cases hlt : i < m
      · obtain ⟨cs, hT⟩ := HT.out
        obtain ⟨ra, rp, rc, rfl, hrc0, hrl, hrs⟩ := HR.out i (by rw [HM.out]; exact hlt)
        obtain ⟨row, hrow⟩ : ∃ row, nss.getD i [] = row := ⟨_, rfl⟩
        rw [hrow] at hrc0 hrs hrl
        have hLe : row.length ≤ 40 := by rw [← hrow]; exact HL2.out i
        obtain ⟨L, hL⟩ : ∃ L, row.length = L := ⟨_, rfl⟩
        rw [hL] at hrc0 hrl hLe
        have hrc := (hT.bel.cell (World.block_lt_of_cell? w _ hrc0)).trans hrc0
        have HT2 := Lib.hid hT
        have HROW := Lib.hid hrow
        have HLL := Lib.hid hL
        have HRC := Lib.hid hrc0
        have HRS := Lib.hid hrs
        obtain ⟨tk, htk⟩ : ∃ tk, (nss.map tw).take i = tk := ⟨_, rfl⟩
        have htl : tk.length = i := by have := HM.out; rw [← htk]; simp; omega
        rw [htk] at HT2
        have HTL := Lib.hid htl
        have HTK := Lib.hid htk
        clear hT HT hrs hrow hL hrc0 htl htk
        go_wp2_with fail
        clear hrc
        go_loopw [7, 8] (fun R t wr => ∃ q : Nat, q ≤ L ∧ t = .int .i64 ((L : Int) - 1 - (q : Int)) ∧ Hid (Tn w wr u5 cs tk R (twF row q))) (fun _ t _ => (intOf t + 1).toNat)
        case atStart => exact ⟨0, Nat.zero_le _, by simp, HT2.out⟩
        case round =>
          clear HT2
          obtain ⟨q, hq, rfl, HT3⟩ := hrel
          have hrl3 : (twF row q).length ≤ 1000 := by rw [twF_length]; omega
          have HRL3 := Lib.hid hrl3
          clear hrl3
          by_cases hql : q < L
          · obtain ⟨j, hj⟩ : ∃ j : Nat, L - 1 - q = j := ⟨_, rfl⟩
            have hz : (L : Int) - 1 - (q : Int) = (j : Int) := by omega
            have hz2 : (L : Int) - 1 - ((q + 1 : Nat) : Int) = (j : Int) - 1 := by omega
            have hjl : j < L := by omega
            rw [hz]
            obtain ⟨rb, rfl, hrb0⟩ := HRS.out j (by rw [HLL.out]; exact hjl)
            have HRB := Lib.hid hrb0
            obtain ⟨sj, hsj⟩ : ∃ sj, nm row j = sj := ⟨_, rfl⟩
            have htw : twF row (q + 1) = twF row q ++ [sj] ++ [sj] := by simp only [twF]; rw [HLL.out, hj, hsj]
            have hrc := (HT3.out.bel.cell (World.block_lt_of_cell? w _ HRC.out)).trans HRC.out
            have hrb := (HT3.out.bel.cell (World.block_lt_of_cell? w _ hrb0)).trans hrb0
            rw [hsj] at hrb
            have HTW := Lib.hid htw
            have HSJ := Lib.hid hsj
            have HZ2 := Lib.hid hz2
            have HJ := Lib.hid hj
            clear hrb0 htw hz hz2 hsj hj
            go_wp2_with (at_builtin; refine app_one 22 9 (.string ⟨#[]⟩) 16 Try.underlying22 info9 rfl (by decide) rfl (.tmp 35) (.tmp 43) rfl w.heap.size _ _ _ _ (.string sj) rfl rfl HT3.out.r rfl ?b1 ?b2 ?next)
            case b1 => exact HRL3.out
            case b2 => exact HT3.out.bel.size
            case next =>
              intro g cap w2 h1 h2 h3
              have hT4 := HT3.out.str h1 h2 h3
              obtain ⟨r1, hr1⟩ : ∃ r1, twF row q ++ [sj] = r1 := ⟨_, rfl⟩
              rw [hr1] at hT4
              have HT4 := Lib.hid hT4
              have HR1 := Lib.hid hr1
              have hrc := (HT4.out.bel.cell (World.block_lt_of_cell? w _ HRC.out)).trans HRC.out
              have hrb := (HT4.out.bel.cell (World.block_lt_of_cell? w _ HRB.out)).trans HRB.out
              rw [HSJ.out] at hrb
              have hrl4 : r1.length ≤ 1000 := by rw [← hr1, List.length_append, twF_length]; simp; omega
              have HRL4 := Lib.hid hrl4
              obtain ⟨u, hu⟩ : ∃ u, (twF row q).length = u := ⟨_, rfl⟩
              have HR4 := Lib.hid HT4.out.r
              rw [hu]
              rw [hu] at HT4 HR4
              have HU := Lib.hid hu
              clear h1 h2 h3 HT3 hrl4 hu hT4 hr1
              go_wp2_with (at_builtin; refine app_one 22 9 (.string ⟨#[]⟩) 16 Try.underlying22 info9 rfl (by decide) rfl (.tmp 45) (.tmp 53) rfl w.heap.size _ _ _ _ (.string sj) rfl rfl HR4.out rfl ?c1 ?c2 ?next2)
              case c1 => exact HRL4.out
              case c2 => exact HT4.out.bel.size
              case next2 =>
                intro g2 cap2 w3 h1 h2 h3
                have HT5 := Lib.hid (HT4.out.str h1 h2 h3)
                clear h1 h2 h3 HT4 HR4 hrc hrb
                go_wp2_with fail
                go_roundw
                case rel => exact ⟨q + 1, by omega, by rw [HZ2.out], by rw [HTW.out, HR1.out]; exact HT5.out⟩
                case measure => simp [intOf]
          · have hqL : q = L := by omega
            subst hqL
            have hz : (q : Int) - 1 - (q : Int) = -1 := by omega
            rw [hz]
            obtain ⟨rp2, rc2, rfl, _, _, _⟩ := own_sr HT3.out.r
            have hcl : tk.length ≤ 1000 := by rw [HTL.out]; omega
            have HCL := Lib.hid hcl
            clear hz hcl hql
            go_wp2_with (at_builtin; refine app_one 23 22 (.slice none 0 0) 24 Try.underlying23 info22 rfl (by decide) rfl (.tmp 55) (.tmp 57) rfl w.heap.size _ _ _ _ (.slice rp2 (twF row q).length rc2) rfl rfl HT3.out.t rfl ?b1 ?b2 ?next)
            case b1 => exact HCL.out
            case b2 => exact HT3.out.bel.size
            case next =>
              intro g cap w2 h1 h2 h3
              have hT6 := HT3.out.row h1 h2 h3
              have htk : (nss.map tw).take (i + 1) = tk ++ [twF row q] := by
                rw [← HTK.out]
                have hi' : i < (nss.map tw).length := by have := HM.out; simp; omega
                rw [List.take_succ_eq_append_getElem hi']
                have h5 := HROW.out
                rw [List.getD_eq_getElem?_getD, List.getElem?_eq_getElem (show i < nss.length by simpa using hi')] at h5
                simp at h5
                simp [h5, tw, HLL.out]
              rw [← htk] at hT6
              have HT6 := Lib.hid hT6
              clear h1 h2 h3 hT6 htk HT3
              go_wp2_with fail
              go_roundw
              case rel => exact ⟨i + 1, by omega, by go_num, _, HT6.out⟩
              case measure => simp [intOf]; omega
      · have him : i = m := by omega
        obtain ⟨cs, hT⟩ := HT.out
        rw [him, List.take_of_length_le (by have := HM.out; simp; omega)] at hT
        obtain ⟨tp, tq, rfl, hnr⟩ := hT.nr
        have HT7 := Lib.hid hT
        have HNR := Lib.hid hnr
        have HB := Lib.hid hT.bel
        have htl : (nss.map tw).length = m := by have := HM.out; simpa using this
        have hO2 := HO2.out
        rw [htl] at hO2 ⊢
        have HO2 := Lib.hid hO2
        clear hT hnr HT HT7 htl hO2 hlt hi
        obtain rfl : m = i := him.symm
        clear him
        go_wp2_with fail
        refine (HO1.out wr HB.out).mono ?_
        rintro e w1 ⟨v, base, rfl, h1, h2, h3⟩
        obtain ⟨p, q, rfl, _, h4⟩ := own_ir h3
        have HB1 := Lib.hid (HB.out.trans (h1.mono HB.out.size))
        have H4 := Lib.hid h4
        have HN1 := Lib.hid (HNR.out.below h1)
        have hol := ord_len ns nss
        have HTW := Lib.hid (ord_tw ns nss)
        have hO3 := HO2.out w1 tp tq HB1.out HN1.out
        unfold OrdPost at hO3
        rw [HTW.out] at hO3
        obtain ⟨xs, hxs⟩ : ∃ xs, (ordF ns nss).1 = xs := ⟨_, rfl⟩
        obtain ⟨at', hat⟩ : ∃ x, (ordF ns nss).2.1 = x := ⟨_, rfl⟩
        obtain ⟨why, hwhy⟩ : ∃ x, (ordF ns nss).2.2 = x := ⟨_, rfl⟩
        rw [hxs] at hol H4
        rw [hxs, hat, hwhy] at hO3 ⊢
        rw [HN.out] at hol
        have HO4 := Lib.hid hO3
        have HOL := Lib.hid hol
        clear h1 h2 h3 h4 hol hO3 hxs hat hwhy HO1 HO2 HTW
        go_wp2_with fail
        refine HO4.out.mono ?_
        rintro e w2 ⟨v, base2, rfl, h1, h2, h3⟩
        obtain ⟨p2, q2, rfl, _, h5⟩ := own_ir h3
        have HB2 := Lib.hid (HB1.out.trans (h1.mono HB1.out.size))
        have H5 := Lib.hid h5
        have H6 := Lib.hid (H4.out.below h1)
        clear h1 h2 h3 h5
        go_wp2_with fail
        refine (same_any p p2 q q2 xs w2 H6.out H5.out (by have := HOL.out; omega)).mono ?_
        rintro e w3 ⟨rfl, h7⟩
        have HB3 := Lib.hid (HB2.out.trans (h7.bel.mono HB2.out.size))
        clear h7
        have hatt : (at' == at') = true := beq_self_eq_true _
        have hwhyy : (why == why) = true := beq_self_eq_true _
        go_wp2_with fail
        refine (num_any why w3).mono ?_
        rintro e w4 ⟨rfl, rfl⟩
        go_wp2_with fail
        refine (num_any why _).mono ?_
        rintro e w5 ⟨rfl, rfl⟩
        go_wp2_with fail
        refine (awake_any _).mono ?_
        rintro e w6 ⟨rfl, h8⟩
        have HB4 := Lib.hid (HB3.out.trans (h8.mono HB3.out.size))
        clear h8
        go_wp2_with fail
        go_ret
        exact ⟨rfl, HB4.out⟩
end Go.Proofs.Ytbpaadigojfkjaa
