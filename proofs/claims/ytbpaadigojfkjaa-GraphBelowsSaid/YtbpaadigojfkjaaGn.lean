/- graph.edges walked: what it answers. -/
import Derived.Test.YtbpaadigojfkjaaGm
namespace Go.Proofs.Ytbpaadigojfkjaa
open Go.RowKit

set_option maxHeartbeats 40000000 in
set_option maxRecDepth 1000000 in
theorem edges_said : EdgesSaid := by
  intro a b c d ns nss w hs hn8 hnc hr hm hmm
  obtain ⟨n, hnn⟩ : ∃ n, ns.length = n := ⟨_, rfl⟩
  obtain ⟨m, hm1⟩ : ∃ m, nss.length = m := ⟨_, rfl⟩
  rw [hnn] at hn8 hnc ⊢
  rw [hm1] at hm ⊢
  have HS := Lib.hid hs
  have HR := Lib.hid hr
  have HN := Lib.hid hnn
  have HM := Lib.hid hm1
  have HMM := Lib.hid hmm
  clear hs hr hnn hm1 hmm
  have hn : n ≤ 1000 := by omega
  have hmk := make_rows n hn
  have HE0 := Lib.hid (Eo.init w n (rowsF ns nss))
  go_enter Try.func18, Try.ntmps18
  go_wp2_with fail
  obtain ⟨bo, hbo⟩ : ∃ bo, w.heap.size = bo := ⟨_, rfl⟩
  have he0 := HE0.out
  rw [hbo] at he0
  rw [hbo]
  generalize w.alloc (.cells (madeCells #[.slice none 0 0] n) 26) = w2 at he0 ⊢
  have HE2 := Lib.hid he0
  clear he0 HE0 hmk hbo
  go_loopw [16] (fun t wr => ∃ i : Nat, i ≤ n ∧ t = .int .i64 (i : Int) ∧ Hid (i ≤ m ∧ badF ns nss = ix (badP ns nss) (min n m - i) i ∧ ∃ vals, Eo w wr bo n (rowsF ns nss) i vals)) (fun t _ => n - (intOf t).toNat)
  case atStart => exact ⟨0, Nat.zero_le _, rfl, Nat.zero_le _, (by show badF ns nss = _; unfold badF; rw [HN.out, HM.out]; rfl), _, HE2.out⟩
  case round =>
    clear HE2
    obtain ⟨i, hi, rfl, HI⟩ := hrel
    have hfin : ∀ (wr : World), (n ≤ i ∨ m ≤ i) → (i ≤ m ∧ badF ns nss = ix (badP ns nss) (min n m - i) i ∧ ∃ vals, Eo w wr bo n (rowsF ns nss) i vals) → Below w.heap.size w wr ∧ badF ns nss = -1 ∧ RR wr (some ⟨bo, 0, none⟩) n (rowsF ns nss) := by
      rintro wr hor ⟨h1, h2, vals, h3⟩
      refine ⟨h3.bel, ?_, h3.reads (fun j hj hjn => nil_row (by rw [HM.out]; omega))⟩
      rw [h2, show min n m - i = 0 from by omega]
      rfl
    have HFIN := Lib.hid hfin
    clear hfin
    by_cases hlt : i < n
    · by_cases hlm : i < m
      · obtain ⟨h1, h2, vals, h3⟩ := HI.out
        obtain ⟨ad, b2, c2, rfl, hcell0, hlc, hsr⟩ := HR.out i (by rw [HM.out]; exact hlm)
        have hcell := (h3.bel.cell (World.block_lt_of_cell? w _ hcell0)).trans hcell0
        obtain ⟨l, hl⟩ : ∃ l, nss.getD i [] = l := ⟨_, rfl⟩
        have hl1000 := HMM.out i
        rw [hl] at hcell hlc hsr hl1000
        clear hcell0
        obtain ⟨L, hL⟩ : ∃ L, l.length = L := ⟨_, rfl⟩
        rw [hL] at hcell hlc hl1000
        have hEi := Ei.start h3 hlt
        have HQ := Lib.hid (And.intro h1 (And.intro h2 h3))
        have HEI := Lib.hid hEi
        have HSR := Lib.hid hsr
        have HL := Lib.hid (And.intro hl hL)
        clear h1 h2 h3 hsr hl hL hEi HI
        have hdm : decide (m ≤ i) = false := decide_eq_false (by omega)
        go_wp2_with fail
        obtain ⟨wi, hwi⟩ : ∃ wi : World, wi = wr := ⟨_, rfl⟩
        have HQ2 := HQ
        rw [← hwi] at HQ2
        have HEI2 : Hid (Ei wi wr bo i vals (.slice none 0 0) []) := by rw [← hwi]; rw [← hwi] at HEI; exact HEI
        clear HQ HEI hcell hwi
        go_loopw [28] (fun t wr => ∃ k : Nat, k ≤ L ∧ t = .int .i64 (k : Int) ∧ Hid (∃ vi, Ei wi wr bo i vals vi ((l.take k).map fun s => (idx ns s).toNat) ∧ ∀ s ∈ l.take k, 0 ≤ idx ns s)) (fun t _ => L - (intOf t).toNat)
        case atStart => exact ⟨0, Nat.zero_le _, rfl, _, HEI2.out, fun s hs => by simp at hs⟩
        case round =>
          clear HEI2
          obtain ⟨k, hk, rfl, HK⟩ := hrel
          obtain ⟨vi, hE, hall⟩ := HK.out
          have hbel := hE.ch.below HQ2.out.2.2.bel (fun k hk => by rw [hk]; exact HQ2.out.2.2.bb) HQ2.out.2.2.bel.size
          obtain ⟨hci, hfi⟩ := hE.cell (by rw [HQ2.out.2.2.len]; exact hlt)
          have hSRw := HSR.out.below hbel
          have hIX := indexS_any a c ns (nm l k) wr (HS.out.below hbel) (by rw [HN.out]; exact hn)
          rw [HN.out] at hIX
          by_cases hkl : k < L
          · obtain ⟨ad2, rfl, hck⟩ := hSRw k (by rw [HL.out.2]; exact hkl)
            have hmem : nm l k ∈ l := by
              unfold nm
              simp [List.getD_eq_getElem?_getD, show k < l.length by rw [HL.out.2]; exact hkl]
            obtain ⟨r, hr⟩ : ∃ r, idx ns (nm l k) = r := ⟨_, rfl⟩
            have hr' : ix (pS (nm l k) ns) n 0 = r := by rw [← hr]; unfold idx; rw [HN.out]
            rw [hr'] at hIX
            obtain ⟨ks, hks⟩ : ∃ ks, ((l.take k).map fun s => (idx ns s).toNat) = ks := ⟨_, rfl⟩
            rw [hks] at hE
            have hkl2 : ks.length = k := by rw [← hks]; simp [HL.out.2]; omega
            have HKS := Lib.hid (And.intro hks hkl2)
            clear hks hkl2
            have HIX := Lib.hid hIX
            have HR2 := Lib.hid (And.intro hr hmem)
            have HE3 := Lib.hid (And.intro hE (And.intro hall hbel))
            clear hIX hr hr' hmem hE hall hbel hSRw HK
            rcases Int.lt_or_le r 0 with hneg | hpos
            · go_wp2_with fail
              refine HIX.out.mono ?_
              rintro e w' ⟨rfl, rfl⟩
              go_wp2_with fail
              go_ret2
              have hbad : badF ns nss = (i : Int) := by
                rw [HQ2.out.2.1, show min n m - i = (min n m - i - 1) + 1 from by omega]
                simp only [ix]
                rw [if_pos]
                unfold badP
                rw [HL.out.1]
                exact List.any_eq_true.2 ⟨_, HR2.out.2, by rw [HR2.out.1]; exact decide_eq_true hneg⟩
              exact ⟨_, by rw [hbad]; rfl, HE3.out.2.2, fun h => by rw [hbad] at h; omega⟩
            · obtain ⟨x, rfl⟩ := Int.eq_ofNat_of_zero_le hpos
              go_wp2_with fail
              refine HIX.out.mono ?_
              rintro e w' ⟨rfl, rfl⟩
              go_wp2_with (at_builtin; refine app_int rfl (.tmp 43) (.tmp 45) rfl wi.heap.size _ _ ks x rfl rfl HE3.out.1.own ?b1 ?b2 ?next)
              case b1 => rw [HKS.out.2]; omega
              case b2 => exact HE3.out.1.ch.size
              case next =>
                intro g' cap' w' h1 h2 h3
                have hb := HQ2.out.2.2.bo_lt
                obtain ⟨k1, k2⟩ := HE3.out.1.keep hb h2
                rw [HKS.out.2] at h1 ⊢
                have ho : w'.ownsRow wi.heap.size 3 1 (.slice (some ⟨g', 0, none⟩) (k + 1) cap') ((l.take (k + 1)).map fun s => (idx ns s).toNat).length (vs ((l.take (k + 1)).map fun s => (idx ns s).toNat)) := by
                  have e : l.take (k + 1) = l.take k ++ [nm l k] := by
                    unfold nm
                    rw [List.take_add_one]
                    simp [List.getD_eq_getElem?_getD, show k < l.length by rw [HL.out.2]; exact hkl]
                  have e2 : ((l.take (k + 1)).map fun s => (idx ns s).toNat) = ks ++ [x] := by
                    rw [e, List.map_append, HKS.out.1]
                    simp [HR2.out.1]
                  rw [e2]
                  have e3 : (ks ++ [x]).length = k + 1 := by rw [List.length_append, HKS.out.2]; rfl
                  rw [e3]
                  simpa [vs] using h1
                have hce : w'.cell? ⟨bo, i, none⟩ = some vi := by rw [cell_blk k1]; simp [HQ2.out.2.2.len, hlt]
                have hfe := free_blk k1 i
                have HST := Lib.hid (Ei.stored hb k1 k2 ho)
                clear h1 h2 h3 k1 k2 ho hb
                go_wp2_with fail
                go_roundw
                case rel =>
                  have hfin : ∀ s ∈ l.take (k + 1), 0 ≤ idx ns s := by
                    intro s hs
                    have e : l.take (k + 1) = l.take k ++ [nm l k] := by
                      unfold nm
                      rw [List.take_add_one]
                      simp [List.getD_eq_getElem?_getD, show k < l.length by rw [HL.out.2]; exact hkl]
                    rw [e] at hs
                    rcases List.mem_append.1 hs with hs | hs
                    · exact HE3.out.2.1 s hs
                    · simp at hs
                      rw [hs, HR2.out.1]
                      omega
                  exact ⟨k + 1, by omega, by go_num, _, HST.out, hfin⟩
                case measure => simp [intOf]; omega
          · have hkL : k = L := by omega
            have htk : l.take k = l := List.take_of_length_le (by rw [HL.out.2]; omega)
            rw [htk] at hE hall
            have hbp : badP ns nss i = false := by
              unfold badP
              rw [HL.out.1]
              refine List.any_eq_false.2 (fun s hs => ?_)
              have := hall s hs
              simp
              omega
            have hrow := row_is hbp
            rw [HL.out.1] at hrow
            obtain ⟨zs, hzs⟩ : ∃ zs : List Int, ((l.map fun s => (idx ns s).toNat).map fun j : Nat => (j : Int)) = zs := ⟨_, rfl⟩
            have hzl : zs.length = L := by rw [← hzs]; simp [HL.out.2]
            have ho : wr.ownsRow wi.heap.size 3 1 vi zs.length (vz zs) := by
              rw [← hzs, vz_vs]
              simpa using hE.own
            rw [hzs] at hrow
            obtain ⟨vb, vc, rfl⟩ : ∃ vb vc, vi = .slice vb zs.length vc := by
              rcases ho.2 with ⟨h1, h2⟩ | ⟨b', cap', cur, h1, _⟩
              · exact ⟨none, 0, by rw [h1, h2]⟩
              · exact ⟨_, cap', h1⟩
            have HSO := Lib.hid (sort_own ho (by rw [hzl]; exact hl1000))
            have HE3 := Lib.hid hE
            have HRW := Lib.hid (And.intro hrow (And.intro hzl hbp))
            clear hE hall hbel hSRw hIX hrow hzl ho hbp hzs htk HK
            go_wp2_with fail
            refine HSO.out.mono ?_
            rintro e w3 ⟨rfl, o3, g3⟩
            have hb := HQ2.out.2.2.bo_lt
            obtain ⟨k1, k2⟩ := HE3.out.keep hb g3
            have hce : w3.cell? ⟨bo, i, none⟩ = some (.slice vb zs.length vc) := by rw [cell_blk k1]; simp [HQ2.out.2.2.len, hlt]
            obtain ⟨ys, hys⟩ : ∃ ys, (zs.mergeSort fun x y => decide (x ≤ y)) = ys := ⟨_, rfl⟩
            have hyl : ys.length = zs.length := by rw [← hys, List.length_mergeSort]
            rw [hys, ← hyl] at o3
            have hco := compact_own o3 (by rw [hyl, HRW.out.2.1]; exact hl1000)
            have HCO := Lib.hid hco
            have HK3 := Lib.hid (And.intro k1 k2)
            have HYS := Lib.hid hys
            rw [hyl] at HCO
            clear hco k1 k2 hys hyl o3 g3 hb HSO
            go_wp2_with fail
            refine HCO.out.mono ?_
            rintro e w4 ⟨v', rfl, o4, g4, hvo⟩
            have hb := HQ2.out.2.2.bo_lt
            have hlt3 := HE3.out.lt hb
            have k3 := (Ch.of_grown g4).blk HK3.out.1 (fun e => (hlt3 bo e.symm).1 rfl)
            have k4 := HK3.out.2.trans (Ch.of_grown g4) (fun k hk => .inr (hlt3 k hk.symm).2)
            have hrw := HRW.out.1
            rw [HYS.out] at hrw
            rw [hrw, vz_vs, List.length_map] at o4
            obtain ⟨wb, wc, rfl⟩ : ∃ wb wc, v' = .slice wb (rowsF ns nss i).length wc := by
              rcases o4.2 with ⟨h1, h2⟩ | ⟨b', cap', cur, h1, _⟩
              · exact ⟨none, 0, by rw [h1, h2]⟩
              · exact ⟨_, cap', h1⟩
            have hce4 : w4.cell? ⟨bo, i, none⟩ = some (.slice vb zs.length vc) := by rw [cell_blk k3]; simp [HQ2.out.2.2.len, hlt]
            have hfe4 := free_blk k3 i
            have HST := Lib.hid (HQ2.out.2.2.next hlt (Ei.stored hb k3 k4 o4))
            clear hb hlt3 k3 k4 hrw o4 g4 hvo HCO hce
            go_wp2_with fail
            go_roundw
            case rel =>
              refine ⟨i + 1, by omega, by go_num, by omega, ?_, _, HST.out⟩
              have h2 := HQ2.out.2.1
              rw [show min n m - i = (min n m - (i + 1)) + 1 from by omega] at h2
              simp only [ix] at h2
              rw [if_neg (by rw [HRW.out.2.2]; simp)] at h2
              exact h2
            case measure => simp [intOf]; omega
      · have him : m ≤ i := by omega
        have HF := Lib.hid (HFIN.out wr (.inr him) HI.out)
        clear HI HFIN
        go_wp2_with fail
        go_ret2
        obtain ⟨h1, h2, h3⟩ := HF.out
        exact ⟨_, by rw [h2]; rfl, h1, fun _ => ⟨_, _, rfl, h3⟩⟩
    · have hin : n ≤ i := by omega
      have HF := Lib.hid (HFIN.out wr (.inl hin) HI.out)
      clear HI HFIN
      go_wp2_with fail
      go_ret2
      obtain ⟨h1, h2, h3⟩ := HF.out
      exact ⟨_, by rw [h2]; rfl, h1, fun _ => ⟨_, _, rfl, h3⟩⟩
end Go.Proofs.Ytbpaadigojfkjaa
