/- GraphRings walked. -/
import Derived.Test.YtbpaadigojfkjaaK2
import Derived.Deep.RegionHeld3
namespace Go.Proofs.Ytbpaadigojfkjaa
open Go.RowKit

theorem nmsL_succ (k f i : Nat) : nmsL k f (i + 1) = nmsL k f i ++ [wd ((i + f) % k)] := by simp [nmsL, List.range_succ]
theorem rngL_succ (k f i : Nat) : rngL k f (i + 1) = rngL k f i ++ [[wd ((i + f + 1) % k)]] := by simp [rngL, List.range_succ]
theorem chnL_end {k f i : Nat} (h : (i + f) % k = k - 1) : chnL k f (i + 1) = chnL k f i ++ [[]] := by simp [chnL, List.range_succ, h]
theorem chnL_on {k f i : Nat} (h : (i + f) % k ≠ k - 1) : chnL k f (i + 1) = chnL k f i ++ [[wd ((i + f + 1) % k)]] := by simp [chnL, List.range_succ, h]
theorem nmsL_len (k f i : Nat) : (nmsL k f i).length = i := by simp [nmsL]
theorem rngL_len (k f i : Nat) : (rngL k f i).length = i := by simp [rngL]
theorem chnL_len (k f i : Nat) : (chnL k f i).length = i := by simp [chnL]

set_option maxHeartbeats 40000000 in
set_option maxRecDepth 1000000 in
theorem rings_any (n0 f : Nat) (hn : n0 < 256) (hf : f < 256) (w : World) :
    Calls Try.prog 6 #[.int .u8 (n0 : Int), .int .u8 (f : Int)] w fun e w' => e = .returned (.bool true) ∧ Below w.heap.size w w' := by
  obtain ⟨k, hk⟩ : ∃ k, 1 + n0 % 8 = k := ⟨_, rfl⟩
  have hki : 1 + (n0 : Int) % 8 = (k : Int) := by omega
  have hk1 : 1 ≤ k := by omega
  have hk8 : k ≤ 8 := by omega
  clear hk
  go_enter Try.func6, Try.ntmps6
  go_wp2_with fail
  clear hki
  go_loopw [6, 7, 8, 9] (fun N T1 T2 t wr => ∃ i : Nat, i ≤ k ∧ t = .int .i64 (i : Int) ∧ Hid (∃ cs1 cs2, Rg w wr N (nmsL k f i) T1 cs1 (rngL k f i) T2 cs2 (chnL k f i))) (fun _ _ _ t _ => k - (intOf t).toNat)
  case atStart => exact ⟨0, Nat.zero_le _, rfl, [], [], Rg.nil w⟩
  case round =>
    obtain ⟨i, hi, rfl, HR⟩ := hrel
    by_cases hlt : i < k
    · obtain ⟨cs1, cs2, hR⟩ := HR.out
      have HR0 := Lib.hid hR
      obtain ⟨x, hx⟩ : ∃ x, (i + f) % k = x := ⟨_, rfl⟩
      obtain ⟨y, hy⟩ : ∃ y, (i + f + 1) % k = y := ⟨_, rfl⟩
      have hxk : x < k := by rw [← hx]; exact Nat.mod_lt _ (by omega)
      have hyk : y < k := by rw [← hy]; exact Nat.mod_lt _ (by omega)
      have hxi : ((i : Int) + (f : Int)) % (k : Int) = (x : Int) := by rw [← hx]; push_cast; rfl
      have hyi : ((i : Int) + (f : Int) + 1) % (k : Int) = (y : Int) := by rw [← hy]; push_cast; rfl
      have HX := Lib.hid hx
      have HY := Lib.hid hy
      clear HR hR hx hy
      go_wp2_with fail
      refine (word_any _ x rfl (by omega) _).mono ?_
      rintro e w1 ⟨rfl, h1⟩
      have HR1 := Lib.hid (HR0.out.still (Ch.of_below h1))
      clear h1 HR0
      go_wp2_with (at_builtin; refine app_one 22 9 (.string ⟨#[]⟩) 16 Try.underlying22 info9 rfl (by decide) rfl (.tmp 26) (.tmp 34) rfl w.heap.size _ _ _ _ (.string (wd x)) rfl rfl HR1.out.n rfl ?b1 ?b2 ?next)
      case b1 => rw [nmsL_len]; omega
      case b2 => exact HR1.out.bel.size
      case next =>
        intro g cap w2 h1 h2 h3
        have HR2 := Lib.hid (HR1.out.name h1 h2 h3)
        clear h1 h2 h3 HR1
        go_wp2_with fail
        refine (word_any _ y rfl (by omega) _).mono ?_
        rintro e w3 ⟨rfl, h1⟩
        have HR3 := Lib.hid (HR2.out.still (Ch.of_below h1))
        have HR3a := Lib.hid (HR3.out.still ((Ch.refl _ w3).alloc (.cells #[.string (wd y)] 9)))
        clear h1 HR2
        go_wp2_with (at_builtin; refine app_one 23 22 (.slice none 0 0) 24 Try.underlying23 info22 rfl (by decide) rfl (.tmp 36) (.tmp 46) rfl w.heap.size _ _ _ _ (.slice (some ⟨w3.heap.size, 0, none⟩) 1 1) rfl ?d0 HR3a.out.r1.t rfl ?d1 ?d2 ?next2)
        case d0 =>
          show Value.slice (some ⟨w3.heap.size + 1, 0, none⟩) 1 1 = _
          rw [World.size_alloc]
        case d1 => rw [rngL_len]; omega
        case d2 => exact HR3a.out.bel.size
        case next2 =>
          intro g2 cap2 w4 h1 h2 h3
          have HR4 := Lib.hid (HR3.out.one h1 h2 (by rw [World.size_alloc]; exact h3))
          clear h1 h2 h3 HR3 HR3a
          by_cases hxe : x = k - 1
          · have hte : ((x : Int) == (k : Int) - 1) = true := by rw [beq_iff_eq]; omega
            go_wp2_with (at_builtin; refine app_one 23 22 (.slice none 0 0) 24 Try.underlying23 info22 rfl (by decide) rfl (.tmp 57) (.tmp 58) rfl w.heap.size _ _ _ _ (.slice none 0 0) rfl rfl HR4.out.r2.t rfl ?e1 ?e2 ?next3)
            case e1 => rw [chnL_len]; omega
            case e2 => exact HR4.out.bel.size
            case next3 =>
              intro g3 cap3 w5 h1 h2 h3
              have HR5 := Lib.hid (HR4.out.swap.none_ h1 h2 h3).swap
              clear h1 h2 h3 HR4
              go_wp2_with fail
              go_roundw
              case rel =>
                refine ⟨i + 1, by omega, by go_num, ?_⟩
                rw [nmsL_succ, rngL_succ, chnL_end (by rw [HX.out]; exact hxe), HX.out, HY.out]
                exact ⟨_, _, HR5.out⟩
              case measure => simp [intOf]; omega
          · have hte : ((x : Int) == (k : Int) - 1) = false := by rw [beq_eq_false_iff_ne]; omega
            go_wp2_with fail
            refine (word_any _ y rfl (by omega) _).mono ?_
            rintro e w5 ⟨rfl, h1⟩
            have HR5 := Lib.hid (HR4.out.still (Ch.of_below h1))
            have HR5a := Lib.hid (HR5.out.still ((Ch.refl _ w5).alloc (.cells #[.string (wd y)] 9)))
            clear h1 HR4
            go_wp2_with (at_builtin; refine app_one 23 22 (.slice none 0 0) 24 Try.underlying23 info22 rfl (by decide) rfl (.tmp 60) (.tmp 70) rfl w.heap.size _ _ _ _ (.slice (some ⟨w5.heap.size, 0, none⟩) 1 1) rfl ?f0 HR5a.out.r2.t rfl ?f1 ?f2 ?next4)
            case f0 =>
              show Value.slice (some ⟨w5.heap.size + 1, 0, none⟩) 1 1 = _
              rw [World.size_alloc]
            case f1 => rw [chnL_len]; omega
            case f2 => exact HR5a.out.bel.size
            case next4 =>
              intro g3 cap3 w6 h1 h2 h3
              have HR6 := Lib.hid (HR5.out.swap.one h1 h2 (by rw [World.size_alloc]; exact h3)).swap
              clear h1 h2 h3 HR5 HR5a
              go_wp2_with fail
              go_roundw
              case rel =>
                refine ⟨i + 1, by omega, by go_num, ?_⟩
                rw [nmsL_succ, rngL_succ, chnL_on (by rw [HX.out]; exact hxe), HX.out, HY.out]
                exact ⟨_, _, HR6.out⟩
              case measure => simp [intOf]; omega
    · have hik : i = k := by omega
      clear hlt hi
      obtain rfl : k = i := hik.symm
      clear hik
      obtain ⟨cs1, cs2, hR⟩ := HR.out
      obtain ⟨pN, cN, rfl, hcN, hsN, _⟩ := own_sr hR.n
      obtain ⟨p1, c1, rfl, _, hn1⟩ := hR.r1.nr
      obtain ⟨p2, c2, rfl, _, hn2⟩ := hR.r2.nr
      have HB0 := Lib.hid hR.bel
      have hO1 := order_said pN p1 cN c1 (nmsL k f k) (rngL k f k) wr hsN (by rw [nmsL_len]; omega) hcN hn1 (by rw [rngL_len]; omega) (fun i => by
        rw [List.getD_eq_getElem?_getD]
        by_cases h : i < (rngL k f k).length
        · rw [List.getElem?_eq_getElem h]; simp [rngL]
        · rw [List.getElem?_eq_none (by omega)]; simp)
      have hO2 : ∀ w', Below wr.heap.size wr w' → Calls Try.prog 10 #[.slice pN (nmsL k f k).length cN, .slice p2 (chnL k f k).length c2] w' (OrdPost (nmsL k f k) (chnL k f k) w') := fun w' hb =>
        order_said pN p2 cN c2 (nmsL k f k) (chnL k f k) w' (hsN.below hb) (by rw [nmsL_len]; omega) hcN (hn2.below hb) (by rw [chnL_len]; omega) (fun i => by
          rw [List.getD_eq_getElem?_getD]
          by_cases h : i < (chnL k f k).length
          · rw [List.getElem?_eq_getElem h]
            simp only [chnL, List.getElem_map, List.getElem_range, Option.getD_some]
            split <;> simp
          · rw [List.getElem?_eq_none (by omega)]; simp)
      unfold OrdPost at hO1
      rw [ring_ord hk1 hk8] at hO1
      have HCH := Lib.hid (chain_ord hk1 hk8 f)
      have HO1 := Lib.hid hO1
      have HO2 := Lib.hid hO2
      have HSN := Lib.hid hsN
      clear hO1 hO2 hR HR hn1 hn2 hsN hcN
      go_wp2_with fail
      refine HO1.out.mono ?_
      rintro e w1 ⟨v, base, rfl, h1, h2, h3⟩
      obtain ⟨pl, cl, rfl, _, _⟩ := own_ir h3
      have HB1 := Lib.hid h1
      have hO3 := HO2.out w1 h1
      unfold OrdPost at hO3
      obtain ⟨o, ho⟩ : ∃ o, ordF (nmsL k f k) (chnL k f k) = o := ⟨_, rfl⟩
      rw [ho] at hO3 HCH
      rw [HCH.out.ok] at hO3
      have HO3 := Lib.hid hO3
      clear h1 h2 h3 hO3 HO1 HO2 ho
      go_wp2_with fail
      refine HO3.out.mono ?_
      rintro e w2 ⟨v, base2, rfl, h1, h2, h3⟩
      obtain ⟨pm, cm, rfl, _, h4⟩ := own_ir h3
      have HIR := Lib.hid h4
      have HB2 := Lib.hid (HB1.out.trans (h1.mono HB1.out.size))
      have HBW := Lib.hid (HB0.out.trans (HB2.out.mono HB0.out.size))
      have HSN2 := Lib.hid (HSN.out.below HB2.out)
      rw [HCH.out.len]
      obtain ⟨z, hz⟩ : ∃ z, o.2.1 = z := ⟨_, rfl⟩
      rw [hz]
      have hkk : ((k : Int) != (k : Int)) = false := by simp
      clear h1 h2 h3 h4 HO3 hz HSN HB1 HB0
      go_wp2_with fail
      refine (num_any 9 _).mono ?_
      rintro e w3 ⟨rfl, rfl⟩
      go_wp2_with fail
      refine (num_any 0 _).mono ?_
      rintro e w3 ⟨rfl, rfl⟩
      go_wp2_with fail
      clear hkk
      go_loopw [16] (fun t wr => ∃ i : Nat, i ≤ k ∧ t = .int .i64 (i : Int) ∧ Hid (Below w2.heap.size w2 wr)) (fun t _ => k - (intOf t).toNat)
      case atStart => exact ⟨0, Nat.zero_le _, rfl, Below.refl _ _⟩
      case round =>
        obtain ⟨i, hi, rfl, HB⟩ := hrel
        by_cases hlt : i < k
        · obtain ⟨hx1, hx2⟩ := HCH.out.at_ i hlt
          obtain ⟨x, hx⟩ : ∃ x, o.1.getD i 0 = x := ⟨_, rfl⟩
          obtain ⟨ad, rfl, hcm⟩ := (HIR.out.below HB.out) i (by rw [HCH.out.len]; exact hlt)
          rw [hx] at hx1 hx2 hcm
          obtain ⟨bd, rfl, hcn⟩ := (HSN2.out.below HB.out) x (by rw [nmsL_len]; exact hx1)
          obtain ⟨sx, hsx⟩ : ∃ s, nm (nmsL k f k) x = s := ⟨_, rfl⟩
          rw [hsx] at hx2 hcn
          obtain ⟨j, hj⟩ : ∃ j, k - 1 - i = j := ⟨_, rfl⟩
          rw [hj] at hx2
          have hzj : (k : Int) - 1 - (i : Int) = (j : Int) := by omega
          have hjk : j ≤ 100 := by omega
          have heq : (sx.toList == (wd j).toList) = true := hx2
          have hne : (sx.toList != (wd j).toList) = false := by rw [bne, heq]; rfl
          have hii : (i : Int) < (k : Int) := by omega
          have hxx : (x : Int) < (k : Int) := by omega
          have hln : (nmsL k f k).length = k := nmsL_len _ _ _
          rw [hln]
          clear hx2 hj hx hsx hln
          have HWR : Hid (IntKind.i64.wrap (IntKind.i64.wrap ((k : Int) - 1) - (i : Int)) = (j : Int)) := (show _ = _ from by
            rw [IntWalk.i64_in ((k : Int) - 1) (by omega), IntWalk.i64_in _ (by omega)]; exact hzj)
          have hb1 := World.block_lt_of_cell? wr _ hcm
          have hb2 := World.block_lt_of_cell? wr _ hcn
          go_wp2_with fail
          go_region_held3 (fun w' => w'.cell? (ad.add i) = some (.int .i64 (x : Int)) ∧ w'.cell? (bd.add x) = some (.string sx))
            (first | go_keep | (exact ⟨(hb3.cell (by simpa using hb1)).trans (by assumption), (hb3.cell (by simpa using hb2)).trans (by assumption)⟩))
            (first | (go_at_call 14; refine (word_any _ j ?_ hjk _).mono ?_; (first | rfl | exact HWR.out); rintro e w' ⟨rfl, hb3⟩))
          rename_i w3 _
          have HB9 := Lib.hid (HB.out.drew.trans (hb3.mono HB.out.size))
          clear hb3
          go_wp2_with fail
          go_roundw
          case rel => exact ⟨i + 1, by omega, by go_num, HB9.out⟩
          case measure => simp [intOf]; omega
        · have hik : i = k := by omega
          clear hlt hi
          obtain rfl : k = i := hik.symm
          clear hik
          go_wp2_with fail
          refine (awake_any _).mono ?_
          rintro e w6 ⟨rfl, h8⟩
          have HBE := Lib.hid (HBW.out.trans ((HB.out.trans (h8.mono HB.out.size)).mono HBW.out.size))
          clear h8
          go_wp2_with fail
          go_ret
          exact ⟨rfl, HBE.out⟩
end Go.Proofs.Ytbpaadigojfkjaa
