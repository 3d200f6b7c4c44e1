/- graph.Below walked. -/
import Derived.Test.YtbpaadigojfkjaaK7
namespace Go.Proofs.Ytbpaadigojfkjaa
open Go.RowKit Go.Shelf

attribute [local go_sem] Oper.semAt_some

/-- What lies where the loop over the order begins. -/
theorem lay_loop (w2 : World) (v1 v2 : Value) (x : Nat) : ∀ WL, WL = ((w2.alloc (.cells #[v1] 39)).alloc (.cells ([Value.bool false, Value.bool false, Value.bool false, Value.bool false, Value.bool false, Value.bool false, Value.bool false, Value.bool false].set x (.bool true)).toArray 54)).alloc (.cells #[v2] 26) →
    Mid w2 WL WL w2.heap.size (w2.heap.size + 1) v1 (fun y => y == x) ∧ WL.cell? ⟨w2.heap.size + 2, 0, none⟩ = some v2 ∧ WL.heap.size = w2.heap.size + 3 := by
  rintro WL rfl
  rw [ba_one]
  refine ⟨⟨?_, ?_, (((Below.refl _ _).alloc (Nat.le_refl _) _).alloc (by simp) _).alloc (by simp; omega) _, Nat.le_refl _⟩, ?_, by simp⟩
  · unfold BA
    rw [Below.heap_alloc _ _ _ (by simp)]
    have := heap_alloc_new (w2.alloc (.cells #[v1] 39)) (.cells (ba (fun y => y == x)).toArray 54)
    simpa using this
  · rw [Below.heap_alloc _ _ _ (by simp; omega), Below.heap_alloc _ _ _ (by simp)]
    exact heap_alloc_new w2 _
  · have := heap_alloc_new ((w2.alloc (.cells #[v1] 39)).alloc (.cells (ba (fun y => y == x)).toArray 54)) (.cells #[v2] 26)
    have h := cell_blk this 0
    simpa using h

set_option maxHeartbeats 40000000 in
set_option maxRecDepth 1000000 in
theorem below_any (a b : Option Addr) (c d : Nat) (at' : Int) (ns : List ByteArray) (nss : List (List ByteArray)) (w : World) (hs : SR w a ns) (hn : ns.length ≤ 1000) (hc : ns.length ≤ c) (hr : NR w b nss) (hm : nss.length ≤ 1000) (hmm : ∀ i, (nss.getD i []).length ≤ 1000) :
    Calls Try.prog 15 #[.slice a ns.length c, .slice b nss.length d, .int .i64 at'] w (BelPost ns nss at' w) := by
  have HO := Lib.hid (order_said a b c d ns nss w hs hn hc hr hm hmm)
  have HE : Hid (ns.length ≤ 8 → ∀ w', Below w.heap.size w w' → Calls Try.prog 18 #[.slice a ns.length c, .slice b nss.length d] w' fun e w'' => ∃ v, e = .returned (.tuple #[v, .int .i64 (badF ns nss)]) ∧ Below w'.heap.size w' w'' ∧
    (badF ns nss < 0 → ∃ p q, v = .slice p ns.length q ∧ RR w'' p ns.length (rowsF ns nss))) := fun h8 w' hb => edges_said a b c d ns nss w' (hs.below hb) h8 hc (hr.below hb) hm hmm
  obtain ⟨n, hnn⟩ : ∃ n, ns.length = n := ⟨_, rfl⟩
  obtain ⟨m, hm'⟩ : ∃ m, nss.length = m := ⟨_, rfl⟩
  rw [hnn] at hn
  rw [hnn, hm'] at HO HE ⊢
  have HN := Lib.hid hnn
  clear hs hr hmm hnn hm' hc
  refine (callsIn_wide (n := 6)).1 ?_
  refine callsIn_of_wp_marks Try.func15 rfl trivial ?_ rfl
  simp only [Try.ntmps15, List.size_toArray, List.length_cons, List.length_nil, Nat.reduceAdd, Nat.reduceSub, Array.replicate_succ, Array.replicate_zero, List.push_toArray, List.append_toArray, List.nil_append, List.cons_append]
  gi_wp2_with fail
  refine ⟨trivial, (callsIn_wide.2 HO.out).mono ?_⟩
  rintro e w1 ⟨v0, base0, rfl, hb1, hbs, hown⟩
  have HB1 := Lib.hid hb1
  have HOWN := Lib.hid hown
  obtain ⟨z1, hz1⟩ : ∃ z, (ordF ns nss).2.1 = z := ⟨_, rfl⟩
  obtain ⟨why, hwhy⟩ : ∃ z, (ordF ns nss).2.2 = z := ⟨_, rfl⟩
  rw [hz1, hwhy]
  have HW := Lib.hid hwhy
  clear hz1 hwhy hb1 hown hbs HO
  by_cases hw0 : why = 0
  · rcases Int.lt_or_le at' 0 with hat | hat
    · have hd : decide (at' < 0) = true := decide_eq_true hat
      subst hw0
      gi_wp2_with fail
      exact ⟨_, results_tmp rfl _ _ _, belPost_none (bel_none (.inr (.inl hat))) HB1.out⟩
    · obtain ⟨x, rfl⟩ : ∃ x : Nat, at' = (x : Int) := ⟨at'.toNat, by omega⟩
      rcases Nat.lt_or_ge x n with hxn | hxn
      · subst hw0
        have hcs : ordF ns nss = (outF ns nss, 0, 0) ∧ ns.length ≤ 8 ∧ badF ns nss = -1 := by
          rcases ord_cases ns nss with ⟨h, _⟩ | ⟨h1, h2, _, h, _⟩
          · exact absurd HW.out h
          · exact ⟨h1, h2, ix_neg h⟩
        have HCS := Lib.hid hcs
        have hn8 : n ≤ 8 := by rw [← HN.out]; exact hcs.2.1
        have hol : (outF ns nss).length = n := by rw [← HN.out]; exact (ord_held HW.out).2.len
        have HOL := Lib.hid hol
        obtain ⟨out, hout⟩ : ∃ o, outF ns nss = o := ⟨_, rfl⟩
        have hown := HOWN.out
        rw [hcs.1] at hown
        dsimp only at hown
        rw [hout] at hown HOL
        obtain ⟨po, qo, rfl, _, hio⟩ := own_ir hown
        have HIO := Lib.hid hio
        have hE := HE.out hn8 w1 HB1.out
        rw [hcs.2.2] at hE
        have HE1 := Lib.hid hE
        have HOUT := Lib.hid hout
        rw [HOL.out]
        have hd : decide ((x : Int) < 0) = false := decide_eq_false (by omega)
        have hd2 : decide (n ≤ x) = false := decide_eq_false (by omega)
        have hx8 : (x : Int) < 8 := by omega
        clear hcs hol hown hio hE hout HE HOWN
        gi_wp2_with fail
        refine ⟨trivial, (callsIn_wide.2 HE1.out).mono ?_⟩
        rintro e w2 ⟨v1, rfl, hb2, hv⟩
        obtain ⟨pe, qe, rfl, hrr⟩ := hv (by decide)
        have HB2 := Lib.hid hb2
        have HRR := Lib.hid hrr
        have hce := eight_false x (by omega)
        clear hb2 hv hrr HE1
        gi_wp2_with fail
        refine ⟨trivial, (backward_in Fence.wide _ trivial rfl _ _ _ _).mono ?_⟩
        rintro e w' ⟨rfl, rfl⟩
        gi_wp2_with fail
        have HL0 := Lib.hid (lay_loop w2 (.slice pe n qe) (.slice po n qo) x _ rfl)
        generalize ((w2.alloc (.cells #[.slice pe n qe] 39)).alloc (.cells ([Value.bool false, Value.bool false, Value.bool false, Value.bool false, Value.bool false, Value.bool false, Value.bool false, Value.bool false].set x (.bool true)).toArray 54)).alloc (.cells #[.slice po n qo] 26) = WL at HL0 ⊢
        have hHD : Held ns nss out := by rw [← HOUT.out]; exact (ord_held HW.out).2
        have HHD := Lib.hid hHD
        have HLT : Hid (∀ xx : Fin out.length, ov out xx.1 < n) := fun xx => by
          have h1 := xx.2
          have h2 := HHD.out.lt xx.1 (by rw [HN.out, ← HOL.out]; exact h1)
          rw [HN.out] at h2
          exact h2
        have hsz : WL.heap.size = w2.heap.size + 3 := HL0.out.2.2
        have HSZ := Lib.hid hsz
        clear hsz hHD hce
        have HPO : Hid (∀ ad, po = some ad → ad.block < WL.heap.size ∧ ad.block ≠ w2.heap.size + 1) := fun ad e => by
          obtain ⟨ad', e2, h⟩ := HIO.out 0 (by rw [HOL.out]; omega)
          rw [e] at e2
          injection e2 with e2
          subst e2
          have h3 := World.block_lt_of_cell? w1 _ h
          have h4 : (ad.add 0).block = ad.block := by unfold Addr.add; split <;> rfl
          have h5 := HB2.out.size
          have h6 := HSZ.out
          omega
        refine wpIn_rangeFunc_ownG rfl (by omega) (gf := 33) (lb := #[.pointer (some ⟨w2.heap.size + 2, 0, none⟩)]) rfl trivial (enters_of Try.func33 (by kernel_rfl) rfl)
          (bw_stops' Fence.wide 5 trivial rfl (by omega) (w2.heap.size + 2) WL.heap.size (w2.heap.size + 1) po qo out (by rw [HOL.out]; omega) (by rw [HSZ.out]; omega) (by omega) HPO.out WL (by rw [HOL.out]; exact HL0.out.2.1) ((HIO.out.below HB2.out).below HL0.out.1.bel))
          (fun h k => kq_t h k) (kq_b (Nat.le_refl _)) (Below.refl _ _) (fun _ => rfl)
          (fun pre W => Mid w2 WL W w2.heap.size (w2.heap.size + 1) (.slice pe n qe) (runS (rowsF ns nss) (fun y => y == x) (pre.map (fun j => ov out j.1))))
          (fun _ _ _ => False)
          (Mid.ownFrom _ (by rw [HSZ.out]; omega) (by rw [HSZ.out]; omega) (by rw [HSZ.out]; omega))
          (fun _ _ _ _ _ hs _ _ => hs)
          HL0.out.1
          (fun xx => { tmps := #[.slice a n c, .slice b m d, .int .i64 (x : Int), undef, undef, undef, .slice none 0 0, .slice po n qo, .int .i64 z1, .int .i64 0,
            .pointer (some ⟨w2.heap.size, 0, none⟩), .int .i64 (-1), .pointer (some ⟨w2.heap.size + 1, 0, none⟩), undef, .int .i64 (ov out xx.1 : Nat), undef, undef, undef, undef,
            .tuple #[.slice po n qo, .int .i64 z1, .int .i64 0], .slice a n c, .slice b m d, .tuple #[.slice po n qo, .int .i64 z1, .int .i64 0], .slice po n qo, .int .i64 z1, .int .i64 0, .int .i64 0,
            .bool false, .bool false, .int .i64 (x : Int), .bool false, .bool false, .bool false, .int .i64 (x : Int), .slice a n c, .int .i64 (n : Int), .bool false, .bool false,
            .tuple #[.slice pe n qe, .int .i64 (-1)], .slice a n c, .slice b m d, .tuple #[.slice pe n qe, .int .i64 (-1)], .slice pe n qe, .int .i64 (-1), .int .i64 (x : Int),
            .pointer (some ⟨w2.heap.size + 1, x, none⟩), .slice po n qo, .func (.func 33) #[] #[.pointer (some ⟨w2.heap.size + 2, 0, none⟩)], .int .i64 (xx.1 : Int), .int .i64 (ov out xx.1 : Nat),
            undef, undef, undef, undef, undef, undef, undef, undef, undef, undef, undef, undef, undef, undef, undef, undef, undef,
            undef, undef, undef, undef, undef, undef, undef, undef, undef, undef, undef, undef, undef, undef, undef, undef, undef], defers := [] }) ?assign ?body ?done ?stop
        case assign =>
          intro l xx W K hK
          gi_wp2
          exact hK
        case body =>
          rintro l pre xx W hM _
          have hvn := HLT.out xx
          obtain ⟨S, hS⟩ : ∃ S, runS (rowsF ns nss) (fun y => y == x) (pre.map (fun j => ov out j.1)) = S := ⟨_, rfl⟩
          have hnx := runS_val (rowsF ns nss) (fun y => y == x) (fun j : Fin out.length => ov out j.1) pre xx
          rw [hS] at hM hnx
          obtain ⟨v, hv⟩ : ∃ v, ov out xx.1 = v := ⟨_, rfl⟩
          rw [hv] at hvn hnx
          rw [hv]
          obtain ⟨ad, rb, rc, rfl, hrc0, hri0⟩ := HRR.out v hvn
          obtain ⟨rv, hrv⟩ : ∃ rv, rowsF ns nss v = rv := ⟨_, rfl⟩
          rw [hrv] at hrc0 hri0 hnx
          obtain ⟨L, hL⟩ : ∃ L, rv.length = L := ⟨_, rfl⟩
          have hL1 : L ≤ 1000 := by
            rw [← hL, ← hrv]
            unfold rowsF
            have h1 := List.length_filter_le (fun j : Nat => (nss.getD v []).any fun s => decide (idx ns s = (j : Int))) (List.range ns.length)
            have h2 := HN.out
            rw [List.length_range] at h1
            omega
          rw [hL] at hrc0
          have htc : W.cell? ⟨w2.heap.size, 0, none⟩ = some (.slice (some ad) n qe) := cell_blk hM.to 0
          have hrc := (hM.bel.cell (World.block_lt_of_cell? w2 _ hrc0)).trans hrc0
          have hvi : (v : Int) < (n : Int) := by omega
          have HM := Lib.hid hM
          have HNX := Lib.hid hnx
          have HRI := Lib.hid hri0
          have HRV := Lib.hid hrv
          have HL := Lib.hid hL
          clear hM hnx hri0 hrv hL hrc0 hv hS
          gi_wp2_with fail
          clear htc hrc
          gi_loopw [55] (fun t wr => ∃ j : Nat, j ≤ L ∧ t = .int .i64 (j : Int) ∧ Hid (BA wr (w2.heap.size + 1) (stp S v (rv.take j)) ∧ Ch (fun k => k = w2.heap.size + 1) W wr)) (fun t _ => L - (intOf t).toNat)
          case atStart => exact ⟨0, Nat.zero_le _, rfl, by rw [List.take_zero, stp_nil]; exact HM.out.arr, Ch.refl _ _⟩
          case round =>
            obtain ⟨j, hj, rfl, HQ⟩ := hrel
            have HMM := Lib.hid (HM.out.ch HQ.out.2 (by omega) (by omega) HQ.out.1)
            by_cases hjl : j < L
            · obtain ⟨rd, rfl, hkc⟩ := (HRI.out.below HMM.out.bel) j (by rw [HL.out]; exact hjl)
              obtain ⟨k, hk⟩ : ∃ k, rv.getD j 0 = k := ⟨_, rfl⟩
              rw [hk] at hkc
              have hkn : k < n := by
                have h1 : k ∈ rv := by rw [← hk]; exact getD_mem (by rw [HL.out]; exact hjl)
                rw [← HRV.out] at h1
                have := rows_lt h1
                rw [HN.out] at this
                exact this
              have hk8 : (k : Int) < 8 := by omega
              have hv8 : (v : Int) < 8 := by omega
              have hji : (j : Int) < (L : Int) := by omega
              have hst : stp S v (rv.take (j + 1)) = fun y => if y = k then (stp S v (rv.take j) k || stp S v (rv.take j) v) else stp S v (rv.take j) y := by
                funext y
                rw [List.take_succ_eq_append_getElem (by rw [HL.out]; exact hjl)]
                have e : rv[j]'(by rw [HL.out]; exact hjl) = k := by
                  rw [← hk, List.getD_eq_getElem?_getD, List.getElem?_eq_getElem (by rw [HL.out]; exact hjl)]; rfl
                rw [e]
                exact stp_snoc _ _ _ _ _
              have HST := Lib.hid hst
              obtain ⟨T, hT⟩ : ∃ T, stp S v (rv.take j) = T := ⟨_, rfl⟩
              rw [hT] at HQ HST HMM
              have hck : wr.cell? ⟨w2.heap.size + 1, k, none⟩ = some (.bool (T k)) := (HQ.out.1.cell k (by omega)).1
              have hfk : wr.frozen? ⟨w2.heap.size + 1, k, none⟩ = false := (HQ.out.1.cell k (by omega)).2
              have hcv : wr.cell? ⟨w2.heap.size + 1, v, none⟩ = some (.bool (T v)) := (HQ.out.1.cell v (by omega)).1
              clear hk hst hT
              cases hu : T k with
              | true =>
                rw [hu] at hck
                have HU := Lib.hid hu
                clear hu hcv
                gi_wp2_with fail
                go_roundw
                case rel =>
                  refine ⟨j + 1, by omega, by go_num, ?_, HQ.out.2.setCell (p := ⟨w2.heap.size + 1, k, none⟩) (.inl rfl) _⟩
                  rw [HST.out, HU.out]
                  exact HQ.out.1.set k true
                case measure => simp [intOf]; omega
              | false =>
                rw [hu] at hck
                have HU := Lib.hid hu
                clear hu
                obtain ⟨u, hu2⟩ : ∃ u, T v = u := ⟨_, rfl⟩
                rw [hu2] at hcv
                have HU2 := Lib.hid hu2
                clear hu2
                gi_wp2_with fail
                go_roundw
                case rel =>
                  refine ⟨j + 1, by omega, by go_num, ?_, HQ.out.2.setCell (p := ⟨w2.heap.size + 1, k, none⟩) (.inl rfl) _⟩
                  rw [HST.out, HU.out, HU2.out]
                  exact HQ.out.1.set k u
                case measure => simp [intOf]; omega
            · have hjL : j = L := by omega
              have htk : rv.take j = rv := List.take_of_length_le (by rw [HL.out]; omega)
              have hbe := HQ.out.1
              rw [htk] at hbe
              have HBE := Lib.hid hbe
              clear hjl hj htk hbe
              obtain rfl : L = j := hjL.symm
              clear hjL
              gi_wp2_with fail
              refine ⟨ch_from HQ.out.2 (by rw [HSZ.out]; omega), ch_kq HQ.out.2 HM.out.size, ?_⟩
              dsimp only
              rw [HNX.out]
              exact HM.out.ch HQ.out.2 (by omega) (by omega) HBE.out
        case done =>
          rintro D ys W hD hys hM hK
          have hSf : Shut ns.length (rowsF ns nss) x (runS (rowsF ns nss) (fun y => y == x) (ys.map (fun j => ov out j.1))) := by
            rw [hys, ← HOUT.out]
            exact run_shut HW.out
          obtain ⟨S, hS⟩ : ∃ S, runS (rowsF ns nss) (fun y => y == x) (ys.map (fun j => ov out j.1)) = S := ⟨_, rfl⟩
          rw [hS] at hM hSf
          have HSF := Lib.hid hSf
          have HST := Lib.hid (Bw.start hM hK)
          have HD := Lib.hid hD
          clear hS hSf hM hK hys hD
          gi_wp2_with fail
          gi_loopw [17, 72] (fun vo t wr => ∃ i : Nat, i ≤ n ∧ t = .int .i64 (i : Int) ∧ Hid (Bw w2 wr (w2.heap.size + 1) D S vo (fs S i))) (fun _ t _ => n - (intOf t).toNat)
          case atStart => exact ⟨0, Nat.zero_le _, rfl, HST.out⟩
          case round =>
            clear HST
            obtain ⟨i, hi, rfl, HB⟩ := hrel
            by_cases hin : i < n
            · have hci : wr.cell? ⟨w2.heap.size + 1, i, none⟩ = some (.bool (S i)) := (HB.out.arr.cell i (by omega)).1
              have hii : (i : Int) < (n : Int) := by omega
              have hi8 : (i : Int) < 8 := by omega
              cases hv : S i with
              | false =>
                rw [hv] at hci
                have HV := Lib.hid (fs_off hv)
                clear hv
                gi_wp2_with fail
                go_roundw
                case rel => exact ⟨i + 1, by omega, by go_num, by rw [HV.out]; exact HB.out⟩
                case measure => simp [intOf]; omega
              | true =>
                rw [hv] at hci
                have HV := Lib.hid (fs_on hv)
                have HFL := Lib.hid (fs_le S i)
                clear hv
                gi_wp2_with (gi_at_builtin; refine app_oneIn 26 3 (.int .i64 0) 8 Try.underlying26 info3 rfl (by decide) rfl (.tmp 78) (.tmp 80) rfl w2.heap.size _ _ _ _ (.int .i64 i) rfl rfl HB.out.own rfl ?b1 ?b2 ?next)
                case b1 => have := HFL.out; omega
                case b2 => exact HB.out.bel.size
                case next =>
                  intro g cap w4 h1 h2 h3
                  have HD4 := Lib.hid (HB.out.grown h1 h2 h3)
                  clear h1 h2 h3 HB
                  gi_wp2_with fail
                  go_roundw
                  case rel => exact ⟨i + 1, by omega, by go_num, by rw [HV.out]; exact HD4.out⟩
                  case measure => simp [intOf]; omega
            · have hin' : i = n := by omega
              clear hin hi
              obtain rfl : n = i := hin'.symm
              clear hin'
              gi_wp2_with fail
              refine ⟨by simp, .inl ⟨_, _, rfl, run_takeDeferred HB.out.mark, ?_⟩⟩
              have hb : belF ns nss (x : Int) = fs S n := by
                have h1 := HN.out
                have h2 := bel_some HW.out (a := x) (by rw [h1]; exact hxn) HSF.out
                rw [h1] at h2
                exact h2
              refine ⟨_, results_tmp rfl _ _ _, _, w2.heap.size, rfl, ?_, ?_, ?_⟩
              · exact (HB1.out.trans (HB2.out.mono HB1.out.size)).trans ((HB.out.bel.mono (Nat.le_trans HB1.out.size HB2.out.size)).trans (belowK_b (w := WL) (by have h1 := HB1.out.size; have h2 := HB2.out.size; have h3 := HSZ.out; omega) _ D _ _ HD.out HB.out.mark rfl rfl))
              · exact Nat.le_trans HB1.out.size HB2.out.size
              · rw [hb]; exact ownsRow_putObj HB.out.own _ HB.out.mark rfl
        case stop =>
          rintro D c pre W _ _ h _
          exact h.elim
      · subst hw0
        have hd : decide ((x : Int) < 0) = false := decide_eq_false (by omega)
        have hd2 : decide (n ≤ x) = true := decide_eq_true (by omega)
        gi_wp2_with fail
        refine ⟨_, results_tmp rfl _ _ _, belPost_none (bel_none (.inr (.inr ?_))) HB1.out⟩
        have := HN.out
        omega
  · have hww : (why != 0) = true := by rw [bne_iff_ne]; exact hw0
    have HW0 := Lib.hid hw0
    clear hw0
    gi_wp2_with fail
    exact ⟨_, results_tmp rfl _ _ _, belPost_none (bel_none (.inl (by rw [HW.out]; exact HW0.out))) HB1.out⟩
end Go.Proofs.Ytbpaadigojfkjaa
