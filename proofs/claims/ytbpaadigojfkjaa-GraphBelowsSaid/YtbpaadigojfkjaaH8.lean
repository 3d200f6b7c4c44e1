/- The reference's Order walked. -/
import Derived.Test.YtbpaadigojfkjaaGq
import Derived.Test.YtbpaadigojfkjaaGs
namespace Go.Proofs.Ytbpaadigojfkjaa
open Go.RowKit

theorem of_fix (b : Option Addr) (d : Nat) (nss : List (List ByteArray)) (k : Nat) (w : World) (h : NR w b nss) :
    ∃ p q, (nss.getD k []).length ≤ q ∧ SR w p (nss.getD k []) ∧ ∀ w', Below w.heap.size w w' → Calls Try.prog 24 #[.slice b nss.length d, .int .i64 k] w' fun e w'' => e = .returned (.slice p (nss.getD k []).length q) ∧ w'' = w' := by
  obtain ⟨m, hmm⟩ : ∃ m, nss.length = m := ⟨_, rfl⟩
  by_cases hk : k < m
  · obtain ⟨ad, p, q, rfl, hc, hl, hs⟩ := h k (by rw [hmm]; exact hk)
    refine ⟨p, q, hl, hs, fun w' hb => ?_⟩
    have hc2 := (hb.cell (World.block_lt_of_cell? w _ hc)).trans hc
    obtain ⟨L, hL⟩ : ∃ L, (nss.getD k []).length = L := ⟨_, rfl⟩
    rw [hL] at hc2 hl
    rw [hmm, hL]
    clear hs hL hmm h hc hb
    go_enter Try.func24, Try.ntmps24
    go_wp2_with fail
    go_ret
    exact ⟨rfl, rfl⟩
  · have hr := getD_row (nss := nss) (i := k) (by omega)
    rw [hmm, hr]
    refine ⟨none, 0, Nat.le_refl _, SR.nil, fun w' _ => ?_⟩
    have hd : decide ((k : Int) < (m : Int)) = false := decide_eq_false (by omega)
    clear hr hmm h
    go_enter Try.func24, Try.ntmps24
    go_wp2_with fail
    go_ret
    exact ⟨rfl, rfl⟩

set_option maxHeartbeats 40000000 in
set_option maxRecDepth 1000000 in
theorem ref_any (a b : Option Addr) (c d : Nat) (ns : List ByteArray) (nss : List (List ByteArray)) (w : World) (hs : SR w a ns) (hn : ns.length ≤ 1000) (hc : ns.length ≤ c) (hr : NR w b nss) (hmm : ∀ i, (nss.getD i []).length ≤ 1000) :
    Calls Try.prog 11 #[.slice a ns.length c, .slice b nss.length d] w (OrdPost ns nss w) := by
  have HPL : Hid (∀ w', Below w.heap.size w w' → ∀ s, Calls Try.prog 23 #[.slice a ns.length c, .string s] w' fun e w'' => e = .returned (.int .i64 (idx ns s)) ∧ w' = w'') := fun w' hb s => place_any a c ns s w' (hs.below hb) hn
  have HOF : Hid (∀ w', Below w.heap.size w w' → ∀ k : Nat, Calls Try.prog 24 #[.slice b nss.length d, .int .i64 k] w' fun e w'' => ∃ p q, e = .returned (.slice p (nss.getD k []).length q) ∧ (nss.getD k []).length ≤ q ∧ SR w' p (nss.getD k []) ∧ w' = w'') := fun w' hb k => of_any b d nss k w' (hr.below hb)
  have HOX : Hid (∀ k, ∃ p q, (nss.getD k []).length ≤ q ∧ SR w p (nss.getD k []) ∧ ∀ w', Below w.heap.size w w' → Calls Try.prog 24 #[.slice b nss.length d, .int .i64 k] w' fun e w'' => e = .returned (.slice p (nss.getD k []).length q) ∧ w'' = w') := fun k => of_fix b d nss k w hr
  obtain ⟨n, hnn⟩ : ∃ n, ns.length = n := ⟨_, rfl⟩
  obtain ⟨m, hm'⟩ : ∃ m, nss.length = m := ⟨_, rfl⟩
  have HS := Lib.hid hs
  have HMM := Lib.hid hmm
  have HIX : Hid (∀ s, -1 ≤ idx ns s ∧ idx ns s < (n : Int)) := fun s => by
    have := ix_range (pS s ns) ns.length 0
    unfold idx
    omega
  rw [hnn] at hn hc HPL ⊢
  rw [hm'] at HOF HOX ⊢
  have HN := Lib.hid hnn
  have HM := Lib.hid hm'
  clear hs hr hmm hnn hm'
  rcases Nat.lt_or_ge 8 n with h8 | h8
  · go_enter Try.func11, Try.ntmps11
    go_wp2_with fail
    go_ret3
    refine ordPost_none ?_ (Below.refl _ _)
    unfold ordF
    rw [HN.out, if_pos h8]
  · go_enter Try.func11, Try.ntmps11
    go_wp2_with fail
    go_loop [7] (fun t => ∃ k : Nat, k ≤ n ∧ t = .int .i64 (k : Int) ∧ Hid (twiceF ns = ix (twiceP ns) (n - k) k)) (fun t => n - (intOf t).toNat)
    case atStart => exact ⟨0, Nat.zero_le _, rfl, (show Hid _ from by show twiceF ns = _; unfold twiceF; rw [HN.out]; rfl)⟩
    case round =>
      obtain ⟨k, hk, rfl, HK⟩ := hrel
      by_cases hlt : k < n
      · obtain ⟨ad, rfl, hck⟩ := HS.out k (by rw [HN.out]; exact hlt)
        have hkc : k ≤ c := by omega
        have hpl := HPL.out w (Below.refl _ _) (nm ns k)
        have hti := twice_idx (ns := ns) (i := k) (by rw [HN.out]; exact hlt)
        obtain ⟨z, hz⟩ : ∃ z, idx ns (nm ns k) = z := ⟨_, rfl⟩
        rw [hz] at hti hpl
        have HP1 := Lib.hid hpl
        clear hpl hz
        cases ht : twiceP ns k with
        | true =>
          rw [ht] at hti
          have HTT := Lib.hid ht
          clear ht
          go_wp2_with fail
          refine HP1.out.mono ?_
          rintro e w' ⟨rfl, rfl⟩
          go_wp2_with fail
          go_ret3
          refine ordPost_none ?_ (Below.refl _ _)
          have : twiceF ns = (k : Int) := by
            rw [HK.out, show n - k = (n - k - 1) + 1 from by omega]
            simp only [ix]
            rw [if_pos HTT.out]
          unfold ordF
          rw [HN.out, if_neg (by omega), this, if_pos (by omega)]
        | false =>
          rw [ht] at hti
          have HTT := Lib.hid ht
          clear ht
          go_wp2_with fail
          refine HP1.out.mono ?_
          rintro e w' ⟨rfl, rfl⟩
          go_wp2_with fail
          go_round
          case rel =>
            refine ⟨k + 1, by omega, by go_num, ?_⟩
            have hk := HK.out
            rw [show n - k = (n - (k + 1)) + 1 from by omega] at hk
            simp only [ix] at hk
            rw [if_neg (by rw [HTT.out]; simp)] at hk
            exact hk
          case measure => simp [intOf]; omega
      · have hkn : k = n := by omega
        have hT : twiceF ns = -1 := by rw [HK.out, hkn, Nat.sub_self]; rfl
        have HTW := Lib.hid hT
        clear hT HK hlt hk
        obtain rfl : n = k := hkn.symm
        clear hkn
        go_wp2_with fail
        go_loop [8] (fun t => ∃ k : Nat, k ≤ n ∧ t = .int .i64 (k : Int) ∧ Hid (badF ns nss = ix (badP ns nss) (n - k) k)) (fun t => n - (intOf t).toNat)
        case atStart => exact ⟨0, Nat.zero_le _, rfl, (show Hid _ from by show badF ns nss = _; rw [bad_min, HN.out]; rfl)⟩
        case round =>
          obtain ⟨k, hk, rfl, HK⟩ := hrel
          by_cases hlt : k < n
          · obtain ⟨row, hrow⟩ : ∃ row, nss.getD k [] = row := ⟨_, rfl⟩
            obtain ⟨L, hL⟩ : ∃ L, row.length = L := ⟨_, rfl⟩
            have hof := HOF.out w (Below.refl _ _) k
            rw [hrow, hL] at hof
            have hL1 : L ≤ 1000 := by rw [← hL, ← hrow]; exact HMM.out k
            have HOF1 := Lib.hid hof
            have HROW := Lib.hid hrow
            have HL := Lib.hid hL
            clear hof hrow hL
            go_wp2_with fail
            refine HOF1.out.mono ?_
            rintro e w' ⟨p, q, rfl, hLq, hrs, rfl⟩
            have HRS := Lib.hid hrs
            clear hrs
            go_wp2_with fail
            go_loop [10] (fun t => ∃ j : Nat, j ≤ L ∧ t = .int .i64 (j : Int) ∧ Hid (∀ i, i < j → 0 ≤ idx ns (nm row i))) (fun t => L - (intOf t).toNat)
            case atStart => exact ⟨0, Nat.zero_le _, rfl, (show Hid _ from fun i hi => by omega)⟩
            case round =>
              obtain ⟨j, hj, rfl, HJ⟩ := hrel
              by_cases hjl : j < L
              · obtain ⟨rd, rfl, hrc⟩ := HRS.out j (by rw [HL.out]; exact hjl)
                have hpl := HPL.out w (Below.refl _ _) (nm row j)
                obtain ⟨z, hz⟩ : ∃ z, idx ns (nm row j) = z := ⟨_, rfl⟩
                rw [hz] at hpl
                have HP1 := Lib.hid hpl
                have HZ := Lib.hid hz
                clear hpl hz
                rcases Int.lt_or_le z 0 with hneg | hpos
                · have hd0 : decide (z < 0) = true := decide_eq_true hneg
                  go_wp2_with fail
                  refine HP1.out.mono ?_
                  rintro e w' ⟨rfl, rfl⟩
                  go_wp2_with fail
                  go_ret3
                  refine ordPost_none ?_ (Below.refl _ _)
                  have hbp : badP ns nss k = true := by
                    unfold badP
                    rw [HROW.out, List.any_eq_true]
                    exact ⟨nm row j, nm_mem (by rw [HL.out]; exact hjl), decide_eq_true (by rw [HZ.out]; exact hneg)⟩
                  have hbd : badF ns nss = (k : Int) := by
                    rw [HK.out, show n - k = (n - k - 1) + 1 from by omega]
                    simp only [ix]
                    rw [if_pos hbp]
                  unfold ordF
                  rw [HN.out, if_neg (by omega), HTW.out, hbd, if_neg (by omega), if_pos (by omega)]
                · have hd0 : decide (z < 0) = false := decide_eq_false (by omega)
                  go_wp2_with fail
                  refine HP1.out.mono ?_
                  rintro e w' ⟨rfl, rfl⟩
                  go_wp2_with fail
                  go_round
                  case rel =>
                    refine ⟨j + 1, by omega, by go_num, (show Hid _ from fun i hi => ?_)⟩
                    by_cases e : i = j
                    · rw [e, HZ.out]; exact hpos
                    · exact HJ.out i (by omega)
                  case measure => simp [intOf]; omega
              · have hjL : j = L := by omega
                have hbp : badP ns nss k = false := by
                  unfold badP
                  rw [HROW.out, List.any_eq_false]
                  intro s hs
                  obtain ⟨i, hi, e⟩ := List.mem_iff_getElem.1 hs
                  have h1 := HJ.out i (by rw [hjL, ← HL.out]; exact hi)
                  have e2 : nm row i = s := by
                    unfold nm
                    rw [List.getD_eq_getElem?_getD, List.getElem?_eq_getElem hi]
                    simpa using e
                  rw [e2] at h1
                  simp only [decide_eq_true_eq]
                  omega
                have HBP := Lib.hid hbp
                have hjd : decide ((j : Int) < (L : Int)) = false := decide_eq_false (by omega)
                clear hbp HJ hjL
                go_wp2_with fail
                go_round
                case rel =>
                  refine ⟨k + 1, by omega, by go_num, ?_⟩
                  have hk := HK.out
                  rw [show n - k = (n - (k + 1)) + 1 from by omega] at hk
                  simp only [ix] at hk
                  rw [if_neg (by rw [HBP.out]; simp)] at hk
                  exact hk
                case measure => simp [intOf]; omega
          · have hkn : k = n := by omega
            have hB : badF ns nss = -1 := by rw [HK.out, hkn, Nat.sub_self]; rfl
            have HBD := Lib.hid hB
            clear hB HK hlt hk
            obtain rfl : n = k := hkn.symm
            clear hkn
            have hmk := make_bools n hn
            have HST := Lib.hid (Dn.init w n)
            go_wp2_with fail
            obtain ⟨bl, hbl⟩ : ∃ bl, w.heap.size = bl := ⟨_, rfl⟩
            have hst := HST.out
            generalize w.alloc (.cells (madeCells #[.bool false] n) 4) = w2 at hst ⊢
            rw [hbl]
            rw [hbl] at hst
            have HS2 := Lib.hid hst
            clear hst HST hmk hbl
            go_loopg [11] (n + 1) (fun gk t wr => Hid (∃ out : List Nat, n + 1 ≤ gk + out.length ∧ GS n (lts ns) (rowsF ns nss) out ∧ Dn w wr bl n out t out))
            case atStart => exact ⟨[], by simp, .nil, HS2.out⟩
            case round =>
              clear HS2
              obtain ⟨out, hgk, hgs, hdn⟩ := hrel.out
              clear hrel
              obtain ⟨vb, vc, rfl, _, _⟩ := own_ir hdn.own
              obtain ⟨u, hu⟩ : ∃ u, out.length = u := ⟨_, rfl⟩
              have hun := hgs.length_le
              rw [hu] at hgk hun hdn ⊢
              have HG := Lib.hid hgs
              have HU := Lib.hid hu
              have HD := Lib.hid hdn
              have hgk' := Lib.hid hgk
              clear hgs hu hdn hgk
              by_cases hlt : u < n
              · have hud : decide ((u : Int) < (n : Int)) = true := decide_eq_true (by omega)
                go_wp2_with fail
                obtain ⟨wo, rfl⟩ : ∃ wo : World, wo = wr := ⟨_, rfl⟩
                go_loopw [13, 14] (fun bv t wr => ∃ (k : Nat) (z : Int), k ≤ n ∧ bv = .int .i64 z ∧ t = .int .i64 (k : Int) ∧ Hid (Bst (lts ns) (rdB ns nss out) k z ∧ Dn w wr bl n out (.slice vb u vc) out)) (fun _ t _ => n - (intOf t).toNat)
                case atStart => exact ⟨0, -1, Nat.zero_le _, rfl, rfl, Bst.start, HD.out⟩
                case round =>
                  clear HD
                  obtain ⟨k, z, hk, rfl, rfl, HQ⟩ := hrel
                  by_cases hkn : k < n
                  · obtain ⟨hbst, hdn⟩ := HQ.out
                    have HBST := Lib.hid hbst
                    have HDN := Lib.hid hdn
                    obtain ⟨ad, rfl, hak⟩ := (HS.out.below hdn.bel) k (by rw [HN.out]; exact hkn)
                    have hbc : wr.cell? ⟨bl, k, none⟩ = some (.bool (out.contains k)) := (hdn.br k hkn).1
                    have hki : (k : Int) < (n : Int) := by omega
                    have hkd : decide ((k : Int) < (n : Int)) = true := decide_eq_true hki
                    clear HQ hbst hdn
                    cases hv : out.contains k with
                    | true =>
                      rw [hv] at hbc
                      have HR : Hid (rdB ns nss out k = false) := (show _ = _ from by unfold rdB; rw [hv]; rfl)
                      clear hv hak
                      go_wp2_with fail
                      go_quiet (fail)
                      go_wp2_with fail
                      go_roundw
                      case rel => exact ⟨k + 1, z, by omega, rfl, by go_num, HBST.out.pass HR.out, HDN.out.still ((Ch.refl _ _).drewN _)⟩
                      case measure => simp [intOf]; omega
                    | false =>
                      rw [hv] at hbc
                      obtain ⟨row, hrow⟩ : ∃ row, nss.getD k [] = row := ⟨_, rfl⟩
                      obtain ⟨L, hL⟩ : ∃ L, row.length = L := ⟨_, rfl⟩
                      obtain ⟨rb, rq, hLq, hrs, hof⟩ := HOX.out k
                      have hL1 : L ≤ 1000 := by rw [← hL, ← hrow]; exact HMM.out k
                      have HRDY : Hid (∀ q, Calls Try.prog 25 #[.slice (some ad) n c, .slice rb L rq, .slice (some ⟨bl, 0, none⟩) n n] (wr.drewN q) fun e w' => e = .returned (.bool (rdB ns nss out k)) ∧ w' = wr.drewN q) := fun q => by
                        have hd := HDN.out.still ((Ch.refl _ wr).drewN q)
                        have h1 := ready_any (some ad) rb c rq n bl n ns row (fun i => out.contains i) (wr.drewN q) (HS.out.below hd.bel) HN.out hn (hrow ▸ hrs.below hd.bel) (by rw [hL]; exact hL1) hd.br (fun i hi => by
                          rw [← hrow] at hi ⊢
                          obtain ⟨y, _, h4, _⟩ := row_idx (by rw [HBD.out]; decide) (by rw [HN.out]; exact hkn) hi
                          rw [h4]; omega)
                        rw [hL] at h1
                        refine h1.mono ?_
                        rintro e w' ⟨rfl, rfl⟩
                        refine ⟨?_, rfl⟩
                        unfold rdB
                        rw [hv, hrow, hL]
                        rfl
                      have HOF1 : Hid (∀ q, Calls Try.prog 24 #[.slice b m d, .int .i64 k] (wr.drewN q) fun e w'' => e = .returned (.slice rb L rq) ∧ w'' = wr.drewN q) := fun q => by
                        have := hof (wr.drewN q) (HDN.out.still ((Ch.refl _ wr).drewN q)).bel
                        rw [hrow, hL] at this
                        exact this
                      clear hv hrow hL hLq hrs hof hL1
                      obtain ⟨R, hR⟩ : ∃ R, rdB ns nss out k = R := ⟨_, rfl⟩
                      have HRY : Hid (∀ q, Calls Try.prog 25 #[.slice (some ad) n c, .slice rb L rq, .slice (some ⟨bl, 0, none⟩) n n] (wr.drewN q) fun e w' => e = .returned (.bool R) ∧ w' = wr.drewN q) := fun q => by
                        have := HRDY.out q
                        rw [hR] at this
                        exact this
                      have HR := Lib.hid hR
                      clear HRDY hR
                      cases R with
                      | false =>
                        clear hak
                        go_wp2_with fail
                        go_quiet ((first | (go_at_call 24; exact Calls.quiet_of_same (HOF1.out _)) | (go_at_call 25; exact Calls.quiet_of_same (HRY.out _))))
                        go_wp2_with fail
                        go_roundw
                        case rel => exact ⟨k + 1, z, by omega, rfl, by go_num, HBST.out.pass HR.out, HDN.out.still ((Ch.refl _ _).drewN _)⟩
                        case measure => simp [intOf]; omega
                      | true =>
                        by_cases hz : z = -1
                        · subst hz
                          clear hak
                          go_wp2_with fail
                          go_quiet ((first | (go_at_call 24; exact Calls.quiet_of_same (HOF1.out _)) | (go_at_call 25; exact Calls.quiet_of_same (HRY.out _))))
                          go_wp2_with fail
                          go_roundw
                          case rel => exact ⟨k + 1, (k : Int), by omega, rfl, by go_num, HBST.out.first (lts_swo ns) HR.out, HDN.out.still ((Ch.refl _ _).drewN _)⟩
                          case measure => simp [intOf]; omega
                        · obtain ⟨x, rfl, hxk⟩ : ∃ x : Nat, z = (x : Int) ∧ x < k := by
                            rcases HBST.out with ⟨h, _⟩ | ⟨x, h1, h2, _⟩
                            · exact absurd h hz
                            · exact ⟨x, h1, h2⟩
                          clear hz
                          have hxn : x < n := by omega
                          have hxi : (x : Int) < (n : Int) := by omega
                          have hx0 : decide ((x : Int) < 0) = false := decide_eq_false (by omega)
                          obtain ⟨ad2, e2, hax⟩ := (HS.out.below HDN.out.bel) x (by rw [HN.out]; exact hxn)
                          injection e2 with e2
                          subst e2
                          obtain ⟨sk, hsk⟩ : ∃ s, nm ns k = s := ⟨_, rfl⟩
                          obtain ⟨sx, hsx⟩ : ∃ s, nm ns x = s := ⟨_, rfl⟩
                          rw [hsk] at hak
                          rw [hsx] at hax
                          obtain ⟨V, hV⟩ : ∃ V, Op.bytesLess sk.toList sx.toList = V := ⟨_, rfl⟩
                          have HLT : Hid (lts ns k x = V) := (show _ = _ from by unfold lts; rw [hsk, hsx, hV])
                          clear hsk hsx
                          cases V with
                          | true =>
                            go_wp2_with fail
                            go_quiet ((first | (go_at_call 24; exact Calls.quiet_of_same (HOF1.out _)) | (go_at_call 25; exact Calls.quiet_of_same (HRY.out _))))
                            go_wp2_with fail
                            go_roundw
                            case rel => exact ⟨k + 1, (k : Int), by omega, rfl, by go_num, HBST.out.turn (lts_swo ns) HR.out HLT.out, HDN.out.still ((Ch.refl _ _).drewN _)⟩
                            case measure => simp [intOf]; omega
                          | false =>
                            go_wp2_with fail
                            go_quiet ((first | (go_at_call 24; exact Calls.quiet_of_same (HOF1.out _)) | (go_at_call 25; exact Calls.quiet_of_same (HRY.out _))))
                            go_wp2_with fail
                            go_roundw
                            case rel => exact ⟨k + 1, (x : Int), by omega, rfl, by go_num, HBST.out.keep HLT.out, HDN.out.still ((Ch.refl _ _).drewN _)⟩
                            case measure => simp [intOf]; omega
                  · have hkn : k = n := by omega
                    obtain ⟨hbst, hdn⟩ := HQ.out
                    rw [hkn] at hbst
                    have HD := Lib.hid hdn
                    clear HQ hdn hk
                    obtain rfl : n = k := hkn.symm
                    clear hkn
                    rcases hbst with ⟨rfl, hnone⟩ | ⟨x, rfl, hxn, hrx, hmin⟩
                    · have hrd : rdy n (rowsF ns nss) out = [] := by
                        rw [List.eq_nil_iff_forall_not_mem]
                        intro y hy
                        have hyn := (mem_rdy.1 hy).1
                        rw [← HN.out] at hy
                        have h1 := (rdB_rdy (by rw [HBD.out]; decide) (by rw [HN.out]; exact hyn)).2 hy
                        rw [hnone y hyn] at h1
                        cases h1
                      have HRD := Lib.hid hrd
                      clear hnone hrd
                      go_wp2_with fail
                      have hout : outF ns nss = out := by
                        unfold outF
                        rw [HN.out]
                        exact (gr_of (lts_swo ns) (by rw [← HN.out]; exact lts_tot ns HTW.out) HG.out HRD.out).symm
                      have HOUT := Lib.hid hout
                      clear hout
                      go_loop [15] (fun t => ∃ k : Nat, k ≤ n ∧ t = .int .i64 (k : Int) ∧ Hid (ix (lackP out) n 0 = ix (lackP out) (n - k) k)) (fun t => n - (intOf t).toNat)
                      case atStart => exact ⟨0, Nat.zero_le _, rfl, rfl⟩
                      case round =>
                        obtain ⟨k, hk, rfl, HK⟩ := hrel
                        have HBEL := Lib.hid HD.out.bel
                        by_cases hlt : k < n
                        · have hbc : wr.cell? ⟨bl, k, none⟩ = some (.bool (out.contains k)) := (HD.out.br k hlt).1
                          cases hv : out.contains k with
                          | true =>
                            rw [hv] at hbc
                            have HV := Lib.hid (show lackP out k = false from by unfold lackP; rw [hv]; rfl)
                            clear hv
                            go_wp2_with fail
                            have hfin : Hid (ix (lackP out) n 0 = ix (lackP out) (n - (k + 1)) (k + 1)) := by
                              have hk := HK.out
                              rw [show n - k = (n - (k + 1)) + 1 from by omega] at hk
                              simp only [ix] at hk
                              rw [if_neg (by rw [HV.out]; simp)] at hk
                              exact hk
                            go_round
                            case rel => exact ⟨k + 1, by omega, by go_num, hfin⟩
                            case measure => simp [intOf]; omega
                          | false =>
                            rw [hv] at hbc
                            have HV := Lib.hid (show lackP out k = true from by unfold lackP; rw [hv]; rfl)
                            clear hv
                            go_wp2_with fail
                            go_ret3
                            refine ordPost_none ?_ HBEL.out
                            have hix : ix (lackP out) n 0 = (k : Int) := by
                              rw [HK.out, show n - k = (n - k - 1) + 1 from by omega]
                              simp only [ix]
                              rw [if_pos HV.out]
                            have h1 := HBD.out
                            have h2 := HTW.out
                            have h3 := HOUT.out
                            unfold ordF
                            rw [HN.out, if_neg (by omega), h2, h1, if_neg (by omega), if_neg (by omega), h3, hix, if_pos (by omega)]
                        · have hkn : k = n := by omega
                          have hix : ix (lackP out) n 0 = -1 := by rw [HK.out, hkn, Nat.sub_self]; rfl
                          have h1 := HBD.out
                          have h2 := HTW.out
                          have h3 := HOUT.out
                          have ho : ordF ns nss = (out, 0, 0) := by
                            unfold ordF
                            rw [HN.out, if_neg (by omega), h2, h1, if_neg (by omega), if_neg (by omega), h3, hix, if_neg (by omega)]
                          have HOF2 := Lib.hid ho
                          clear ho hix h1 h2 h3 HK hlt hk
                          obtain rfl : n = k := hkn.symm
                          clear hkn
                          go_wp2_with fail
                          go_ret3
                          exact ⟨_, w.heap.size, by rw [HOF2.out]; rfl, HBEL.out, Nat.le_refl _, by rw [HOF2.out]; exact HD.out.own⟩
                    · have hx1 : x ∈ rdy n (rowsF ns nss) out := by
                        have := (rdB_rdy (by rw [HBD.out]; decide) (by rw [HN.out]; exact hxn)).1 hrx
                        rw [HN.out] at this
                        exact this
                      have hgs2 : GS n (lts ns) (rowsF ns nss) (out ++ [x]) := .snoc out x HG.out hx1 (fun y hy => hmin y (mem_rdy.1 hy).1 ((rdB_rdy (by rw [HBD.out]; decide) (by rw [HN.out]; exact (mem_rdy.1 hy).1)).2 (by rw [HN.out]; exact hy)))
                      have HG2 := Lib.hid hgs2
                      have hbc : wr.cell? ⟨bl, x, none⟩ = some (.bool (out.contains x)) := (HD.out.br x hxn).1
                      have hbf : wr.frozen? ⟨bl, x, none⟩ = false := (HD.out.br x hxn).2
                      have hset := HD.out.set x
                      have HSET := Lib.hid hset
                      have HOWN : Hid ((wr.setCell ⟨bl, x, none⟩ (.bool true)).ownsRow w.heap.size 3 1 (.slice vb u vc) u (vs out)) := by
                        have := hset.own
                        rw [HU.out] at this
                        exact this
                      have hx0 : decide ((x : Int) < 0) = false := decide_eq_false (by omega)
                      clear hx1 hgs2 hrx hmin hset
                      go_wp2_with (at_builtin; refine app_one 26 3 (.int .i64 0) 8 Try.underlying26 info3 rfl (by decide) rfl (.tmp 105) (.tmp 107) rfl w.heap.size _ _ _ _ (.int .i64 x) rfl ?b0 HOWN.out rfl ?b1 ?b2 ?next)
                      case b0 =>
                        show Value.slice (some ⟨wr.heap.size, 0, none⟩) 1 1 = _
                        rw [show (wr.setCell ⟨bl, x, none⟩ (.bool true)).heap.size = wr.heap.size from by simp [World.setCell]]
                      case b1 => omega
                      case b2 => exact HSET.out.bel.size
                      case next =>
                        intro g cap w4 h1 h2 h3
                        have HD4 : Hid (Dn w w4 bl n (out ++ [x]) (.slice (some ⟨g, 0, none⟩) (u + 1) cap) (out ++ [x])) := by
                          have := HSET.out.grown (g := g) (cap := cap) (x := x) (by rw [HU.out]; exact h1) h2 (by rw [show (wr.setCell ⟨bl, x, none⟩ (.bool true)).heap.size = wr.heap.size from by simp [World.setCell]]; exact h3)
                          rw [HU.out] at this
                          exact this
                        clear h1 h2 h3
                        go_wp2_with fail
                        have hg1 := hgk'.out
                        obtain ⟨gk, rfl⟩ : ∃ q, gk = q + 1 := ⟨gk - 1, by omega⟩
                        go_roundg gk
                        case measure => omega
                        case rel => exact ⟨out ++ [x], by have := HU.out; simp; omega, HG2.out, HD4.out⟩
              · have hud : decide ((u : Int) < (n : Int)) = false := decide_eq_false (by omega)
                have hrd : rdy n (rowsF ns nss) out = [] := by
                  rw [List.eq_nil_iff_forall_not_mem]
                  intro y hy
                  obtain ⟨hyn, hyo, _⟩ := mem_rdy.1 hy
                  have h1 := nodup_le n (out ++ [y]) (by
                    rw [List.nodup_append]
                    exact ⟨HG.out.nodup, by simp, fun p hp q hq => by simp at hq; rintro rfl; exact hyo (hq ▸ hp)⟩) (fun q hq => by
                    rcases List.mem_append.1 hq with hq | hq
                    · exact HG.out.lt_n q hq
                    · simp at hq; omega)
                  have h2 := HU.out
                  simp at h1
                  omega
                have HRD := Lib.hid hrd
                clear hrd
                go_wp2_with fail
                have hout : outF ns nss = out := by
                  unfold outF
                  rw [HN.out]
                  exact (gr_of (lts_swo ns) (by rw [← HN.out]; exact lts_tot ns HTW.out) HG.out HRD.out).symm
                have HOUT := Lib.hid hout
                clear hout
                go_loop [15] (fun t => ∃ k : Nat, k ≤ n ∧ t = .int .i64 (k : Int) ∧ Hid (ix (lackP out) n 0 = ix (lackP out) (n - k) k)) (fun t => n - (intOf t).toNat)
                case atStart => exact ⟨0, Nat.zero_le _, rfl, rfl⟩
                case round =>
                  obtain ⟨k, hk, rfl, HK⟩ := hrel
                  have HBEL := Lib.hid HD.out.bel
                  by_cases hlt : k < n
                  · have hbc : wr.cell? ⟨bl, k, none⟩ = some (.bool (out.contains k)) := (HD.out.br k hlt).1
                    cases hv : out.contains k with
                    | true =>
                      rw [hv] at hbc
                      have HV := Lib.hid (show lackP out k = false from by unfold lackP; rw [hv]; rfl)
                      clear hv
                      go_wp2_with fail
                      have hfin : Hid (ix (lackP out) n 0 = ix (lackP out) (n - (k + 1)) (k + 1)) := by
                        have hk := HK.out
                        rw [show n - k = (n - (k + 1)) + 1 from by omega] at hk
                        simp only [ix] at hk
                        rw [if_neg (by rw [HV.out]; simp)] at hk
                        exact hk
                      go_round
                      case rel => exact ⟨k + 1, by omega, by go_num, hfin⟩
                      case measure => simp [intOf]; omega
                    | false =>
                      rw [hv] at hbc
                      have HV := Lib.hid (show lackP out k = true from by unfold lackP; rw [hv]; rfl)
                      clear hv
                      go_wp2_with fail
                      go_ret3
                      refine ordPost_none ?_ HBEL.out
                      have hix : ix (lackP out) n 0 = (k : Int) := by
                        rw [HK.out, show n - k = (n - k - 1) + 1 from by omega]
                        simp only [ix]
                        rw [if_pos HV.out]
                      have h1 := HBD.out
                      have h2 := HTW.out
                      have h3 := HOUT.out
                      unfold ordF
                      rw [HN.out, if_neg (by omega), h2, h1, if_neg (by omega), if_neg (by omega), h3, hix, if_pos (by omega)]
                  · have hkn : k = n := by omega
                    have hix : ix (lackP out) n 0 = -1 := by rw [HK.out, hkn, Nat.sub_self]; rfl
                    have h1 := HBD.out
                    have h2 := HTW.out
                    have h3 := HOUT.out
                    have ho : ordF ns nss = (out, 0, 0) := by
                      unfold ordF
                      rw [HN.out, if_neg (by omega), h2, h1, if_neg (by omega), if_neg (by omega), h3, hix, if_neg (by omega)]
                    have HOF2 := Lib.hid ho
                    clear ho hix h1 h2 h3 HK hlt hk
                    obtain rfl : n = k := hkn.symm
                    clear hkn
                    go_wp2_with fail
                    go_ret3
                    exact ⟨_, w.heap.size, by rw [HOF2.out]; rfl, HBEL.out, Nat.le_refl _, by rw [HOF2.out]; exact HD.out.own⟩
end Go.Proofs.Ytbpaadigojfkjaa
