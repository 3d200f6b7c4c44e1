/- graph.Order walked, over what edges answers. -/
import Derived.Test.YtbpaadigojfkjaaGl
namespace Go.Proofs.Ytbpaadigojfkjaa
open Go.RowKit

def OrdPost (ns : List ByteArray) (nss : List (List ByteArray)) (w : World) (e : Ending) (w' : World) : Prop :=
  ∃ v base, e = .returned (.tuple #[v, .int .i64 (ordF ns nss).2.1, .int .i64 (ordF ns nss).2.2]) ∧ Below w.heap.size w w' ∧ w.heap.size ≤ base ∧ w'.ownsRow base 3 1 v (ordF ns nss).1.length (vs (ordF ns nss).1)
theorem ordPost_none {ns : List ByteArray} {nss : List (List ByteArray)} {w w' : World} {x y : Int} (h : ordF ns nss = ([], x, y)) (hb : Below w.heap.size w w') : OrdPost ns nss w (.returned (.tuple #[.slice none 0 0, .int .i64 x, .int .i64 y])) w' :=
  ⟨.slice none 0 0, w.heap.size, by rw [h], hb, Nat.le_refl _, by rw [h]; exact World.ownsRow_nil _ _ _ _⟩

set_option maxHeartbeats 40000000 in
set_option maxRecDepth 1000000 in
theorem order_any (hE : EdgesSaid) (hsw : ∀ ns, SWO (lts ns)) (htot : ∀ ns, twiceF ns = -1 → ∀ x y, x < ns.length → y < ns.length → lts ns x y = false → lts ns y x = false → x = y) (a b : Option Addr) (c d : Nat) (ns : List ByteArray) (nss : List (List ByteArray)) (w : World) (hs : SR w a ns) (hn : ns.length ≤ 1000) (hc : ns.length ≤ c) (hr : NR w b nss) (hm : nss.length ≤ 1000) (hmm : ∀ i, (nss.getD i []).length ≤ 1000) :
    Calls Try.prog 10 #[.slice a ns.length c, .slice b nss.length d] w (OrdPost ns nss w) := by
  obtain ⟨n, hnn⟩ : ∃ n, ns.length = n := ⟨_, rfl⟩
  have HS := Lib.hid hs
  have HEE : 8 < n ∨ Hid (∃ m, nss.length = m ∧ Calls Try.prog 18 #[.slice a n c, .slice b m d] w fun e w' => ∃ v, e = .returned (.tuple #[v, .int .i64 (badF ns nss)]) ∧ Below w.heap.size w w' ∧
    (badF ns nss < 0 → ∃ p q, v = .slice p n q ∧ RR w' p n (rowsF ns nss))) := by
    rcases Nat.lt_or_ge 8 n with h | h
    · exact .inl h
    · have := hE a b c d ns nss w hs (by omega) hc hr hm hmm
      rw [hnn] at this
      exact .inr ⟨nss.length, rfl, this⟩
  rw [hnn] at hn hc ⊢
  have HN := Lib.hid hnn
  have hsz : ∀ m, nss.length = m → Hid (nss.length = m) := fun m h => h
  obtain ⟨mm, hmm'⟩ : ∃ m, nss.length = m := ⟨_, rfl⟩
  rw [hmm'] at hm ⊢
  have HM := hsz mm hmm'
  clear hE hs hr hmm hnn hsz hmm'
  rcases Nat.lt_or_ge 8 n with h8 | h8
  · go_enter Try.func10, Try.ntmps10
    go_wp2_with fail
    go_ret3
    refine ordPost_none ?_ (Below.refl _ _)
    unfold ordF
    rw [HN.out, if_pos h8]
  · have HE := HEE.resolve_left (by omega)
    clear HEE
    go_enter Try.func10, Try.ntmps10
    go_wp2_with fail
    go_loop [23] (fun t => ∃ k : Nat, k ≤ n ∧ t = .int .i64 (k : Int) ∧ Hid (twiceF ns = ix (twiceP ns) (n - k) k)) (fun t => n - (intOf t).toNat)
    case atStart => exact ⟨0, Nat.zero_le _, rfl, (show Hid _ from by show twiceF ns = _; unfold twiceF; rw [HN.out]; rfl)⟩
    case round =>
      obtain ⟨k, hk, rfl, HK⟩ := hrel
      by_cases hlt : k < n
      · obtain ⟨ad, rfl, hck⟩ := HS.out k (by rw [HN.out]; exact hlt)
        have HT := Lib.hid (twice_any (c := c) HS.out k (by rw [HN.out]; exact hk) (by rw [HN.out]; exact hn))
        have hkc : k ≤ c := by omega
        cases ht : twiceP ns k with
        | true =>
          have hT := HT.out
          rw [ht] at hT
          have HT2 := Lib.hid hT
          have HTT := Lib.hid ht
          clear hT ht
          go_wp2_with fail
          refine HT2.out.mono ?_
          rintro e w' ⟨rfl, rfl⟩
          go_wp2_with fail
          go_ret3
          refine ordPost_none ?_ (Below.refl _ _)
          have : twiceF ns = (k : Int) := by
            rw [HK.out, show n - k = (n - k - 1) + 1 from by omega]
            simp only [ix]
            rw [if_pos HTT.out]
          unfold ordF
          rw [HN.out, if_neg (by omega), this, if_pos (by omega)]
        | false =>
          have hT := HT.out
          rw [ht] at hT
          have HT2 := Lib.hid hT
          have HTT := Lib.hid ht
          clear hT ht
          go_wp2_with fail
          refine HT2.out.mono ?_
          rintro e w' ⟨rfl, rfl⟩
          go_wp2_with fail
          go_round
          case rel =>
            refine ⟨k + 1, by omega, by go_num, ?_⟩
            have hk := HK.out
            rw [show n - k = (n - (k + 1)) + 1 from by omega] at hk
            simp only [ix] at hk
            rw [if_neg (by rw [HTT.out]; simp)] at hk
            exact hk
          case measure => simp [intOf]; omega
      · have hkn : k = n := by omega
        have hT : twiceF ns = -1 := by rw [HK.out, hkn, Nat.sub_self]; rfl
        have HTW := Lib.hid hT
        clear hT HK hlt hk
        obtain rfl : n = k := hkn.symm
        clear hkn
        go_wp2_with fail
        obtain ⟨m', h1, h2⟩ := HE.out
        have := h1.symm.trans HM.out
        subst this
        obtain ⟨bd, hbd⟩ : ∃ bd, badF ns nss = bd := ⟨_, rfl⟩
        rw [hbd] at h2
        have HBD := Lib.hid hbd
        refine h2.mono ?_
        clear h2 h1 HE hbd
        rintro e w1 ⟨v, rfl, hb1, hres⟩
        have HB1 := Lib.hid hb1
        have HRES := Lib.hid hres
        clear hb1 hres
        rcases Int.lt_or_le bd 0 with hneg | hpos
        · obtain ⟨p, q, rfl, hrr⟩ := HRES.out hneg
          have HRR := Lib.hid hrr
          clear hrr HRES
          have hmk := make_ints n hn
          have HST := Lib.hid (St.init w1 a n n c)
          go_wp2_with fail
          obtain ⟨bl, hbl⟩ : ∃ bl, w1.heap.size = bl := ⟨_, rfl⟩
          obtain ⟨g, hg⟩ : ∃ g, w1.heap.size + 1 = g := ⟨_, rfl⟩
          have hst := HST.out
          rw [hg, hbl] at hst
          rw [hg, hbl]
          generalize (w1.alloc (.cells (madeCells #[.int .i64 0] n) 3)).alloc (.cells #[.slice none 0 0, .slice a n c] 44) = w2 at hst ⊢
          have HS2 := Lib.hid hst
          clear hst HST hmk hbl hg
          go_loopw [52] (fun t wr => ∃ k : Nat, k ≤ n ∧ t = .int .i64 (k : Int) ∧ Hid (∃ lacks xs v, InvS n (lts ns) (rowsF ns nss) k lacks xs ∧ St w1 a n c bl g wr lacks xs v)) (fun t _ => n - (intOf t).toNat)
          case atStart => exact ⟨0, Nat.zero_le _, rfl, _, _, _, InvS.start (by simp), HS2.out⟩
          case round =>
            obtain ⟨k, hk, rfl, HK⟩ := hrel
            by_cases hlt : k < n
            · obtain ⟨lacks, xs, v, hI, hSt⟩ := HK.out
              obtain ⟨ad, b2, c2, rfl, hcell, _⟩ := (HRR.out.below (w1 := wr) hSt.bel) k hlt
              obtain ⟨L, hL⟩ : ∃ L, (rowsF ns nss k).length = L := ⟨_, rfl⟩
              obtain ⟨z, hz⟩ : ∃ z, lacks.getD k 0 = z := ⟨_, rfl⟩
              obtain ⟨hlc, hlf⟩ := hSt.lk_at k (by rw [hI.len]; exact hlt)
              rw [hL] at hcell
              rw [hz] at hlc
              have hset := hSt.set k L
              have hbd := hI.bound
              by_cases h0 : L = 0
              · have HQ := Lib.hid (And.intro hL (And.intro hI hset))
                have hpu := hset.push_any HN.out (HS.out.below HB1.out) k (fun y hy => by
                  rcases List.mem_append.1 hy with hy | hy
                  · exact hbd.2 y hy
                  · simp at hy; omega) (by omega)
                have HPU := Lib.hid hpu
                have hL0 : ((L : Int) == 0) = true := beq_iff_eq.2 (by omega)
                have H0 := Lib.hid h0
                clear hL hz hI hSt hset hpu hbd h0 HK
                go_wp2_with fail
                refine HPU.out.mono ?_
                rintro e w3 ⟨rfl, v', q1, q2, q3⟩
                have Q1 := Lib.hid q1
                clear q1 q2 q3
                go_wp2_with fail
                go_roundw
                case rel =>
                  obtain ⟨hL, hI, _⟩ := HQ.out
                  refine ⟨k + 1, by omega, by go_num, _, _, v', hI.push (hsw ns) hlt (by rw [hL]; exact H0.out), ?_⟩
                  rw [hL]
                  exact Q1.out
                case measure => simp [intOf]; omega
              · have HQ := Lib.hid (And.intro hL (And.intro hI hset))
                have hL0 : ((L : Int) == 0) = false := beq_eq_false_iff_ne.2 (by omega)
                have H0 := Lib.hid h0
                clear hL hz hI hSt hset hbd h0 HK
                go_wp2_with fail
                go_roundw
                case rel =>
                  obtain ⟨hL, hI, hset⟩ := HQ.out
                  refine ⟨k + 1, by omega, by go_num, _, _, v, hI.pass hlt (by rw [hL]; exact H0.out), ?_⟩
                  rw [hL]
                  exact hset
                case measure => simp [intOf]; omega
            · have hkn : k = n := by omega
              obtain ⟨lacks, xs, v, hI, hSt⟩ := HK.out
              rw [hkn] at hI
              have HI := Lib.hid hI.done
              have HSt := Lib.hid hSt
              clear hI hSt HK hlt hk
              obtain rfl : n = k := hkn.symm
              clear hkn
              have hty := fun x : Nat => typeAssert_int (x : Int)
              go_wp2_with fail
              obtain ⟨wo, rfl⟩ : ∃ wo : World, wo = wr := ⟨_, rfl⟩
              go_loopg [14] (n + 1) (fun gk t wr => Hid (∃ (out lacks xs : List Nat) (v : Value), n + 1 ≤ gk + out.length ∧ Inv n (lts ns) (rowsF ns nss) out lacks xs ∧ St w1 a n c bl g wr lacks xs v ∧ Orow w1 bl g v wr t out))
              case atStart => exact ⟨[], lacks, xs, v, by simp, HI.out, HSt.out, Orow.nil⟩
              case round =>
                clear HI HSt
                obtain ⟨out, lacks, xs, v, hgk, hI, hSt, hO⟩ := hrel.out
                clear hrel
                have hol := hI.gs.length_le
                obtain ⟨xb, xc, rfl⟩ := hSt.rs.slice
                have hc0 := hSt.rs.c0
                rcases Nat.eq_zero_or_pos xs.length with hx0 | hxp
                · obtain rfl := List.length_eq_zero_iff.1 hx0
                  have HLE := Lib.hid (len_any g xb 0 xc _ hc0)
                  have HA := Lib.hid (And.intro hI (And.intro hSt hO))
                  clear hI hSt hO hx0 hc0 hgk hol
                  go_wp2_with fail
                  refine HLE.out.mono ?_
                  rintro e w' ⟨rfl, rfl⟩
                  have hout : outF ns nss = out := by
                    unfold outF
                    rw [HN.out]
                    exact (gr_of (hsw ns) (by rw [← HN.out]; exact htot ns HTW.out) HA.out.1.gs HA.out.1.over).symm
                  have HOUT := Lib.hid hout
                  clear hout
                  go_wp2_with fail
                  go_loop [115] (fun t => ∃ k : Nat, k ≤ n ∧ t = .int .i64 (k : Int) ∧ Hid (ix (lackP out) n 0 = ix (lackP out) (n - k) k)) (fun t => n - (intOf t).toNat)
                  case atStart => exact ⟨0, Nat.zero_le _, rfl, rfl⟩
                  case round =>
                    obtain ⟨k, hk, rfl, HK⟩ := hrel
                    have hbelow := HB1.out.trans (HA.out.2.1.bel.mono HB1.out.size)
                    have HBEL := Lib.hid hbelow
                    clear hbelow
                    by_cases hlt : k < n
                    · obtain ⟨z, hz⟩ : ∃ z, lacks.getD k 0 = z := ⟨_, rfl⟩
                      obtain ⟨hlc, hlf⟩ := HA.out.2.1.lk_at k (by rw [HA.out.1.len]; exact hlt)
                      have hlk := HA.out.1.lacking hlt
                      rw [hz] at hlc hlk
                      rcases Nat.eq_zero_or_pos z with h0 | h0
                      · have hd0 : z < 1 := by omega
                        have hp : lackP out k = false := by
                          have : ¬ k ∉ out := fun h => by have := hlk.2 h; omega
                          unfold lackP
                          simpa using this
                        have HP := Lib.hid hp
                        clear hz hlk hp h0 hlf
                        go_wp2_with fail
                        have hfin : Hid (ix (lackP out) n 0 = ix (lackP out) (n - (k + 1)) (k + 1)) := by
                          have hk := HK.out
                          rw [show n - k = (n - (k + 1)) + 1 from by omega] at hk
                          simp only [ix] at hk
                          rw [if_neg (by rw [HP.out]; simp)] at hk
                          exact hk
                        go_round
                        case rel => exact ⟨k + 1, by omega, by go_num, hfin⟩
                        case measure => simp [intOf]; omega
                      · have hd0 : decide (0 < (z : Int)) = true := decide_eq_true (by omega)
                        have hp : lackP out k = true := by
                          have := hlk.1 h0
                          unfold lackP
                          simpa using this
                        have HP := Lib.hid hp
                        clear hz hlk hp hlf
                        go_wp2_with fail
                        go_ret3
                        refine ordPost_none ?_ HBEL.out
                        have hix : ix (lackP out) n 0 = (k : Int) := by
                          rw [HK.out, show n - k = (n - k - 1) + 1 from by omega]
                          simp only [ix]
                          rw [if_pos HP.out]
                        have h1 := HBD.out
                        have h2 := HTW.out
                        have h3 := HOUT.out
                        unfold ordF
                        rw [HN.out, if_neg (by omega), h2, h1, if_neg (by omega), if_neg (by omega), h3, hix, if_pos (by omega)]
                    · have hkn : k = n := by omega
                      have hix : ix (lackP out) n 0 = -1 := by rw [HK.out, hkn, Nat.sub_self]; rfl
                      have h1 := HBD.out
                      have h2 := HTW.out
                      have h3 := HOUT.out
                      have ho : ordF ns nss = (out, 0, 0) := by
                        unfold ordF
                        rw [HN.out, if_neg (by omega), h2, h1, if_neg (by omega), if_neg (by omega), h3, hix, if_neg (by omega)]
                      have HOF := Lib.hid ho
                      have HOO := Lib.hid HA.out.2.2
                      have HSZ := Lib.hid HB1.out.size
                      clear ho hix h1 h2 h3 HK hlt hk HA HOUT
                      obtain rfl : n = k := hkn.symm
                      clear hkn
                      go_wp2_with fail
                      go_ret3
                      exact ⟨_, w1.heap.size, by rw [HOF.out]; rfl, HBEL.out, HSZ.out, by rw [HOF.out]; exact HOO.out.own⟩
                · obtain ⟨m, hm1⟩ : ∃ m, xs.length = m + 1 := ⟨xs.length - 1, by omega⟩
                  rw [hm1] at hc0
                  have hbnd := hI.bound
                  have HLE := Lib.hid (len_any g xb (m + 1) xc _ hc0)
                  have hpop := hSt.pop_any HN.out (HS.out.below HB1.out) m hm1 hbnd.2 (by omega)
                  have hK := hI.pop (hsw ns) hm1
                  obtain ⟨x, hx⟩ : ∃ x, (downF (lts ns) m (m + 1) (swp xs 0 m) 0).getD m 0 = x := ⟨_, rfl⟩
                  obtain ⟨ys, hys⟩ : ∃ ys, (downF (lts ns) m (m + 1) (swp xs 0 m) 0).take m = ys := ⟨_, rfl⟩
                  rw [hx, hys] at hK
                  rw [hx, hys] at hpop
                  have HPOP := Lib.hid hpop
                  have HKK := Lib.hid hK
                  have HO := Lib.hid hO
                  have HG := Lib.hid (And.intro hgk hol)
                  clear hI hSt hO hm1 hc0 hbnd hpop hK hx hys hxp hgk hol
                  go_wp2_with fail
                  refine HLE.out.mono ?_
                  rintro e w' ⟨rfl, rfl⟩
                  go_wp2_with fail
                  refine HPOP.out.mono ?_
                  rintro e w3 ⟨rfl, v', q1, q2, q3⟩
                  have HS3 := Lib.hid q1
                  have HO3 := Lib.hid (HO.out.turned q2 q3)
                  clear q1 q2 q3 HPOP HO HLE
                  go_wp2_with (at_builtin; refine app_int rfl (.tmp 81) (.tmp 83) rfl w1.heap.size _ _ out x rfl rfl HO3.out.own ?b1 ?b2 ?next)
                  case b1 => have := HG.out.2; omega
                  case b2 => exact HS3.out.bel.size
                  case next =>
                    intro g' cap' w4 h1 h2 h3
                    have HS4 := Lib.hid (HS3.out.grown HO3.out h2)
                    have HO4 := Lib.hid (Orow.grown HS3.out HO3.out h1 h3)
                    clear h1 h2 h3 HS3 HO3
                    go_wp2_with fail
                    go_loopw [87] (fun t wr => ∃ k : Nat, k ≤ n ∧ t = .int .i64 (k : Int) ∧ Hid (∃ (lacks xs : List Nat) (v : Value), InvK n (lts ns) (rowsF ns nss) out x k lacks xs ∧ St w1 a n c bl g wr lacks xs v ∧ Orow w1 bl g v wr (.slice (some ⟨g', 0, none⟩) (out.length + 1) cap') (out ++ [x]))) (fun t _ => n - (intOf t).toNat)
                    case atStart => exact ⟨0, Nat.zero_le _, rfl, _, _, _, HKK.out, HS4.out, HO4.out⟩
                    case round =>
                      clear HKK HS4 HO4
                      obtain ⟨k, hk, rfl, HK⟩ := hrel
                      by_cases hlt : k < n
                      · obtain ⟨lacks2, xs2, v2, hI, hSt, hO⟩ := HK.out
                        obtain ⟨ad, b2, c2, rfl, hcell, hIR⟩ := (HRR.out.below (w1 := wr) hSt.bel) k hlt
                        obtain ⟨L, hL⟩ : ∃ L, (rowsF ns nss k).length = L := ⟨_, rfl⟩
                        have hLn := rowsF_len ns nss k
                        rw [HN.out] at hLn
                        have hh := has_any (c := c2) (s := x) hIR (by omega)
                        rw [hL] at hh hcell
                        have hnd := rowsF_nodup ns nss k
                        have hbd := hI.bound
                        cases hb : hasB x (rowsF ns nss k) with
                        | false =>
                          rw [hb] at hh
                          have HH := Lib.hid hh
                          have HQ := Lib.hid (And.intro (hI.pass hnd (by unfold hasB at hb; exact of_decide_eq_false hb)) (And.intro hSt hO))
                          clear hI hSt hO hIR hL hLn hh hnd hbd hb HK
                          go_wp2_with fail
                          refine HH.out.mono ?_
                          rintro e w' ⟨rfl, rfl⟩
                          go_wp2_with fail
                          go_roundw
                          case rel => exact ⟨k + 1, by omega, by go_num, _, _, _, HQ.out⟩
                          case measure => simp [intOf]; omega
                        | true =>
                          rw [hb] at hh
                          have hmem : x ∈ rowsF ns nss k := by unfold hasB at hb; exact of_decide_eq_true hb
                          obtain ⟨q, hq⟩ : ∃ q, lacks2.getD k 0 = q + 1 := ⟨_, hI.lacks_pos hlt hnd hmem⟩
                          have hq1 : lacks2.getD k 0 - 1 = q := by omega
                          obtain ⟨hlc, hlf⟩ := hSt.lk_at k (by rw [hI.len]; exact hlt)
                          rw [hq, show ((q + 1 : Nat) : Int) = (q : Int) + 1 from by omega] at hlc
                          have hqb : q ≤ 1000 := by
                            have h1 := hI.lacks_pos hlt hnd hmem
                            have h2 : need (rowsF ns nss) (out ++ [x]) k ≤ (rowsF ns nss k).length := List.length_filter_le _ _
                            omega
                          have hset := hSt.set k q
                          have HH := Lib.hid hh
                          by_cases h0 : q = 0
                          · have hpu := hset.push_any HN.out (HS.out.below HB1.out) k (fun y hy => by
                              rcases List.mem_append.1 hy with hy | hy
                              · exact hbd.2 y hy
                              · simp at hy; omega) (by omega)
                            have HPU := Lib.hid hpu
                            have hq0 : ((q : Int) == 0) = true := beq_iff_eq.2 (by omega)
                            have hin := hI.push (hsw ns) hlt hnd hmem (by omega)
                            rw [hq1] at hin
                            have HQ := Lib.hid (And.intro hin (hO.set k (.int .i64 q)))
                            clear hI hSt hO hIR hL hLn hh hnd hbd hb HK hset hpu hin hmem hq hq1 h0
                            go_wp2_with fail
                            refine HH.out.mono ?_
                            rintro e w' ⟨rfl, rfl⟩
                            go_wp2_with fail
                            refine HPU.out.mono ?_
                            rintro e w5 ⟨rfl, v', q1, q2, q3⟩
                            have HS5 := Lib.hid q1
                            have HO5 := Lib.hid (HQ.out.2.turned q2 q3)
                            clear q1 q2 q3
                            go_wp2_with fail
                            go_roundw
                            case rel => exact ⟨k + 1, by omega, by go_num, _, _, _, HQ.out.1, HS5.out, HO5.out⟩
                            case measure => simp [intOf]; omega
                          · have hq0 : ((q : Int) == 0) = false := beq_eq_false_iff_ne.2 (by omega)
                            have hin := hI.less hlt hnd hmem (by omega)
                            rw [hq1] at hin
                            have HQ := Lib.hid (And.intro hin (And.intro hset (hO.set k (.int .i64 q))))
                            clear hI hSt hO hIR hL hLn hh hnd hbd hb HK hset hin hmem hq hq1 h0
                            go_wp2_with fail
                            refine HH.out.mono ?_
                            rintro e w' ⟨rfl, rfl⟩
                            go_wp2_with fail
                            go_roundw
                            case rel => exact ⟨k + 1, by omega, by go_num, _, _, _, HQ.out⟩
                            case measure => simp [intOf]; omega
                      · have hkn : k = n := by omega
                        obtain ⟨lacks2, xs2, v2, hI, hSt, hO⟩ := HK.out
                        rw [hkn] at hI
                        have HQ := Lib.hid (And.intro hI.start (And.intro hSt hO))
                        clear hI hSt hO HK hlt hk
                        obtain rfl : n = k := hkn.symm
                        clear hkn
                        go_wp2_with fail
                        obtain ⟨hg1, hg2⟩ := HG.out
                        have hlen := HQ.out.1.gs.length_le
                        simp only [List.length_append, List.length_cons, List.length_nil] at hlen
                        obtain ⟨gk, rfl⟩ : ∃ q, gk = q + 1 := ⟨gk - 1, by omega⟩
                        go_roundg gk
                        case measure => omega
                        case rel => exact ⟨out ++ [x], _, _, _, by simp; omega, HQ.out⟩
        · go_wp2_with fail
          go_ret3
          refine ordPost_none ?_ HB1.out
          have h1 := HBD.out
          have h2 := HTW.out
          unfold ordF
          rw [HN.out, if_neg (by omega), h2, h1, if_neg (by omega), if_pos hpos]
end Go.Proofs.Ytbpaadigojfkjaa
