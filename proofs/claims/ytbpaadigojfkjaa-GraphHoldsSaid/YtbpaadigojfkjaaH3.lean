/- GraphHolds walked. -/
import Derived.Test.YtbpaadigojfkjaaH2
import Derived.Test.YtbpaadigojfkjaaP6
namespace Go.Proofs.Ytbpaadigojfkjaa
open Go.RowKit

/-- Is the j-th name of row x among the first k that come? -/
def fndP (ns : List ByteArray) (nss : List (List ByteArray)) (out : List Nat) (x j : Nat) (q : Nat) : Bool := seq (nm ns (out.getD q 0)) (nm (nss.getD x []) j)
def fnd (ns : List ByteArray) (nss : List (List ByteArray)) (out : List Nat) (x j : Nat) : Nat → Bool
  | 0 => false
  | k + 1 => fnd ns nss out x j k || fndP ns nss out x j k
theorem fnd_true {ns : List ByteArray} {nss : List (List ByteArray)} {out : List Nat} {x j i k : Nat} (hk : k < i) (h : fndP ns nss out x j k = true) : fnd ns nss out x j i = true := by
  induction i with
  | zero => omega
  | succ i ih =>
    simp only [fnd]
    by_cases e : k = i
    · subst e; simp [h]
    · rw [ih (by omega)]; rfl

set_option maxHeartbeats 40000000 in
set_option maxRecDepth 1000000 in
theorem holds_any (a b : Option Addr) (c d : Nat) (ns : List ByteArray) (nss : List (List ByteArray)) (w : World) (hs : SR w a ns) (hc : ns.length ≤ c) (hr : NR w b nss) :
    Calls Try.prog 4 #[.slice a ns.length c, .slice b nss.length d] w fun e w' => e = .returned (.bool true) ∧ Below w.heap.size w w' := by
  have HH := Lib.hid (heavy_any a b c d ns nss w hr)
  have HS := Lib.hid hs
  have HR := Lib.hid hr
  have HO : Hid (light ns nss → Calls Try.prog 10 #[.slice a ns.length c, .slice b nss.length d] w (OrdPost ns nss w)) := fun hl => order_said a b c d ns nss w hs (by have := hl.1; omega) hc hr (by have := hl.2.1; omega) (fun i => by have := hl.2.2 i; omega)
  obtain ⟨n, hnn⟩ : ∃ n, ns.length = n := ⟨_, rfl⟩
  obtain ⟨m, hmm⟩ : ∃ m, nss.length = m := ⟨_, rfl⟩
  rw [hnn] at hc
  rw [hnn, hmm] at HH HO ⊢
  have HN := Lib.hid hnn
  have HM := Lib.hid hmm
  clear hs hr hnn hmm
  go_enter Try.func4, Try.ntmps4
  go_wp2_with fail
  refine HH.out.mono ?_
  rintro e w' ⟨v, rfl, rfl, hl⟩
  have HL := Lib.hid hl
  clear hl HH
  cases v with
  | true =>
    go_wp2_with fail
    refine (awake_any w).mono ?_
    rintro e w1 ⟨rfl, h1⟩
    have H1 := Lib.hid h1
    clear h1
    go_wp2_with fail
    go_ret
    exact ⟨rfl, H1.out⟩
  | false =>
    have hl := HL.out rfl
    have hn : n ≤ 12 := by have := hl.1; rw [HN.out] at this; exact this
    have hm : m ≤ 20 := by have := hl.2.1; rw [HM.out] at this; exact this
    have HL2 := Lib.hid hl.2.2
    have HO2 := Lib.hid (HO.out hl)
    clear hl HL HO
    go_wp2_with fail
    refine HO2.out.mono ?_
    rintro e w1 ⟨v, base, rfl, h1, h2, h3⟩
    obtain ⟨p, q, rfl, _, h4⟩ := own_ir h3
    obtain ⟨why, hw⟩ : ∃ why, (ordF ns nss).2.2 = why := ⟨_, rfl⟩
    generalize hat : (ordF ns nss).2.1 = at'
    obtain ⟨L, hL⟩ : ∃ L, (ordF ns nss).1.length = L := ⟨_, rfl⟩
    rw [hw, hL]
    have H1 := Lib.hid h1
    have H4 := Lib.hid h4
    have HW := Lib.hid hw
    have HLL := Lib.hid hL
    clear h1 h2 h3 h4 HO2 hw hL hat
    go_wp2_with fail
    refine (num_any why w1).mono ?_
    rintro e w2 ⟨rfl, rfl⟩
    by_cases hz : why = 0
    · subst hz
      obtain ⟨ho, hh⟩ := ord_held HW.out
      have hL2 := HLL.out
      have h4 := H4.out
      rw [ho] at hL2 h4
      simp only [] at hL2 h4
      generalize outF ns nss = out at hh hL2 h4
      rw [hh.len, HN.out] at hL2
      subst hL2
      have HD := Lib.hid hh
      have HP := Lib.hid h4
      have HS1 := Lib.hid (HS.out.below H1.out)
      have HR1 := Lib.hid (HR.out.below H1.out)
      clear ho hh h4 H4 HW HLL HS HR
      have hne : ((n : Int) == (n : Int)) = true := beq_self_eq_true _
      go_wp2_with fail
      go_loopw [8] (fun t wr => ∃ i : Nat, i ≤ n ∧ t = .int .i64 (i : Int) ∧ Hid (Ch (fun _ => False) w1 wr)) (fun t _ => n - (intOf t).toNat)
      case atStart => exact ⟨0, Nat.zero_le _, rfl, Ch.refl _ _⟩
      case round =>
        obtain ⟨i, hi, rfl, HC⟩ := hrel
        by_cases hlt : i < n
        · obtain ⟨x, hx⟩ : ∃ x, out.getD i 0 = x := ⟨_, rfl⟩
          have hxn : x < n := by rw [← hx, ← HN.out]; exact HD.out.lt i (by rw [HN.out]; exact hlt)
          obtain ⟨pa, rfl, hpc⟩ := HP.out i (by rw [HD.out.len, HN.out]; exact hlt)
          rw [hx] at hpc
          have HPC := Lib.hid hpc
          have HX := Lib.hid hx
          have hpcr := (show ∀ wr, Ch (fun _ => False) w1 wr → wr.cell? (pa.add i) = some (.int .i64 x) from fun wr h => (h.bel.cell (World.block_lt_of_cell? w1 _ hpc)).trans hpc) wr HC.out
          clear hpc hx
          have hg1 : decide ((x : Int) < 0) = false := decide_eq_false (by omega)
          have hg2 : decide ((n : Int) ≤ (x : Int)) = false := decide_eq_false (by omega)
          go_wp2_with fail
          obtain ⟨wo, rfl⟩ : ∃ wo : World, wo = wr := ⟨_, rfl⟩
          go_loopw [9] (fun t wr => ∃ j : Nat, j ≤ i ∧ t = .int .i64 (j : Int) ∧ Hid (Ch (fun _ => False) w1 wr)) (fun t _ => i - (intOf t).toNat)
          case atStart => exact ⟨0, Nat.zero_le _, rfl, HC.out⟩
          case round =>
            clear hpcr HC
            obtain ⟨j, hj, rfl, HC⟩ := hrel
            have hpcr := (HC.out.bel.cell (World.block_lt_of_cell? w1 _ HPC.out)).trans HPC.out
            by_cases hjl : j < i
            · obtain ⟨y, hy⟩ : ∃ y, out.getD j 0 = y := ⟨_, rfl⟩
              obtain ⟨pb, hpe, hpy⟩ := (HP.out.below HC.out.bel) j (by rw [HD.out.len, HN.out]; omega)
              injection hpe with hpe
              subst hpe
              rw [hy] at hpy
              have hyx : ((y : Int) == (x : Int)) = false := beq_eq_false_iff_ne.2 (by
                have := HD.out.ne i j hjl (by rw [HN.out]; exact hlt)
                rw [hy, HX.out] at this
                omega)
              clear hy
              go_wp2_with fail
              go_quiet (fail)
              go_wp2_with fail
              go_roundw
              case rel => exact ⟨j + 1, by omega, by go_num, HC.out.drewN _⟩
              case measure => simp [intOf]; omega
            · have hji : decide ((j : Int) < (i : Int)) = false := decide_eq_false (by omega)
              clear hpcr
              go_wp2_with fail
              clear hji hjl hj
              obtain ⟨wo2, rfl⟩ : ∃ wo2 : World, wo2 = wr := ⟨_, rfl⟩
              obtain ⟨Lx, hLx⟩ : ∃ Lx, (nss.getD x []).length = Lx := ⟨_, rfl⟩
              have HLX := Lib.hid hLx
              have hL40 : Lx ≤ 40 := by rw [← hLx]; exact HL2.out x
              clear hLx
              go_loopw [10] (fun t wr => ∃ j : Nat, j ≤ Lx ∧ t = .int .i64 (j : Int) ∧ Hid (Ch (fun _ => False) w1 wr)) (fun t _ => Lx - (intOf t).toNat)
              case atStart => exact ⟨0, Nat.zero_le _, rfl, HC.out⟩
              case round =>
                clear HC
                obtain ⟨j, hj, rfl, HC⟩ := hrel
                have hpcr := (HC.out.bel.cell (World.block_lt_of_cell? w1 _ HPC.out)).trans HPC.out
                by_cases hxm : x < m
                · have hdm : decide ((x : Int) < (m : Int)) = true := decide_eq_true (by omega)
                  obtain ⟨ra, rp, rc, rfl, hrc, _, hrs⟩ := (HR1.out.below HC.out.bel) x (by rw [HM.out]; exact hxm)
                  rw [HLX.out] at hrc
                  have HRS := Lib.hid hrs
                  clear hrs
                  by_cases hjl : j < Lx
                  · have hjd : decide ((j : Int) < (Lx : Int)) = true := decide_eq_true (by omega)
                    obtain ⟨k0, hk0, hsq⟩ := HD.out.ahead i j (by rw [HN.out]; exact hlt) (by rw [HX.out, HLX.out]; exact hjl)
                    have hfin : fnd ns nss out x j i = true := fnd_true hk0 (by rw [HX.out] at hsq; exact hsq)
                    have HF := Lib.hid hfin
                    clear hsq hk0 hfin
                    have HRC := Lib.hid hrc
                    go_wp2_with fail
                    clear hpcr hrc
                    obtain ⟨wo3, rfl⟩ : ∃ wo3 : World, wo3 = wr := ⟨_, rfl⟩
                    go_loopw [11, 12] (fun f t wr => ∃ k : Nat, k ≤ i ∧ f = .bool (fnd ns nss out x j k) ∧ t = .int .i64 (k : Int) ∧ Hid (Ch (fun _ => False) wo3 wr)) (fun _ t _ => i - (intOf t).toNat)
                    case atStart => exact ⟨0, Nat.zero_le _, rfl, rfl, Ch.refl _ _⟩
                    case round =>
                      obtain ⟨k, hk, rfl, rfl, HC2⟩ := hrel
                      have hc13 := HC.out.bel.trans (HC2.out.bel.mono HC.out.size)
                      have hpcr := (hc13.cell (World.block_lt_of_cell? w1 _ HPC.out)).trans HPC.out
                      have hrc := (HC2.out.bel.cell (World.block_lt_of_cell? wo3 _ HRC.out)).trans HRC.out
                      obtain ⟨fb, hfb⟩ : ∃ fb, fnd ns nss out x j k = fb := ⟨_, rfl⟩
                      rw [hfb]
                      by_cases hkl : k < i
                      · cases fb with
                        | true =>
                          have hnx : fnd ns nss out x j (k + 1) = true := by simp only [fnd]; rw [hfb]; rfl
                          have HNX := Lib.hid hnx
                          clear hfb hnx hc13
                          go_wp2_with fail
                          go_quiet (fail)
                          go_wp2_with fail
                          go_roundw
                          case rel => exact ⟨k + 1, by omega, by rw [HNX.out], by go_num, HC2.out.drewN _⟩
                          case measure => simp [intOf]; omega
                        | false =>
                          obtain ⟨y, hy⟩ : ∃ y, out.getD k 0 = y := ⟨_, rfl⟩
                          obtain ⟨pb, hpe, hpy⟩ := (HP.out.below hc13) k (by rw [HD.out.len, HN.out]; omega)
                          injection hpe with hpe
                          subst hpe
                          rw [hy] at hpy
                          have hyn : y < n := by rw [← hy, ← HN.out]; exact HD.out.lt k (by rw [HN.out]; omega)
                          have hyc : y < c := by omega
                          obtain ⟨na, rfl, hnc⟩ := (HS1.out.below hc13) y (by rw [HN.out]; exact hyn)
                          obtain ⟨rb, rfl, hrj⟩ := (HRS.out.below HC2.out.bel) j (by rw [HLX.out]; exact hjl)
                          obtain ⟨bb, hbb⟩ : ∃ bb, fndP ns nss out x j k = bb := ⟨_, rfl⟩
                          have hnx : fnd ns nss out x j (k + 1) = bb := by simp only [fnd]; rw [hfb, hbb]; rfl
                          have HNX := Lib.hid hnx
                          unfold fndP seq at hbb
                          obtain ⟨sy, hsy⟩ : ∃ sy, nm ns y = sy := ⟨_, rfl⟩
                          obtain ⟨sj, hsj⟩ : ∃ sj, nm (nss.getD x []) j = sj := ⟨_, rfl⟩
                          rw [hy, hsy, hsj] at hbb
                          rw [hsy] at hnc
                          rw [hsj] at hrj
                          clear hfb hnx hc13 hy hsy hsj
                          cases bb with
                          | true =>
                            go_wp2_with fail
                            go_quiet (fail)
                            go_wp2_with fail
                            go_roundw
                            case rel => exact ⟨k + 1, by omega, by rw [HNX.out], by go_num, HC2.out.drewN _⟩
                            case measure => simp [intOf]; omega
                          | false =>
                            go_wp2_with fail
                            go_quiet (fail)
                            go_wp2_with fail
                            go_roundw
                            case rel => exact ⟨k + 1, by omega, by rw [HNX.out], by go_num, HC2.out.drewN _⟩
                            case measure => simp [intOf]; omega
                      · have hki : k = i := by omega
                        have hfb2 : fb = true := by rw [← hfb, hki]; exact HF.out
                        subst hfb2
                        have hkd : decide ((k : Int) < (i : Int)) = false := decide_eq_false (by omega)
                        have HC3 : Hid (Ch (fun _ => False) w1 wr) := ⟨HC2.out.os.trans HC.out.os, HC2.out.tape.trans HC.out.tape, HC2.out.output.trans HC.out.output, Nat.le_trans HC.out.size HC2.out.size, fun k hk hn => (HC2.out.block k (Nat.lt_of_lt_of_le hk HC.out.size) hn).trans (HC.out.block k hk hn)⟩
                        clear hfb hpcr hrc hc13 hki
                        go_wp2_with fail
                        go_roundw
                        case rel => exact ⟨j + 1, by omega, by go_num, HC3.out⟩
                        case measure => simp [intOf]; omega
                  · have hjd : decide ((j : Int) < (Lx : Int)) = false := decide_eq_false (by omega)
                    go_wp2_with fail
                    go_roundw
                    case rel => exact ⟨i + 1, by omega, by go_num, HC.out⟩
                    case measure => simp [intOf]; omega
                · have hdm : decide ((x : Int) < (m : Int)) = false := decide_eq_false (by omega)
                  go_wp2_with fail
                  go_roundw
                  case rel => exact ⟨i + 1, by omega, by go_num, HC.out⟩
                  case measure => simp [intOf]; omega
        · have hid : decide ((i : Int) < (n : Int)) = false := decide_eq_false (by omega)
          go_wp2_with fail
          have hb2 := H1.out.trans (HC.out.bel.mono H1.out.size)
          have HB2 := Lib.hid hb2
          refine (awake_any wr).mono ?_
          rintro e w5 ⟨rfl, h5⟩
          have H5 := Lib.hid (HB2.out.trans (h5.mono HB2.out.size))
          clear h5 hb2
          go_wp2_with fail
          go_ret
          exact ⟨rfl, H5.out⟩
    · have hzd : (why == 0) = false := beq_eq_false_iff_ne.2 hz
      have hL0 : L = 0 := by
        rcases ord_cases ns nss with ⟨_, h⟩ | ⟨h, _⟩
        · have := HLL.out; rw [h] at this; simp at this; exact this.symm
        · have := HW.out; rw [h] at this; exact absurd this.symm hz
      subst hL0
      clear hz
      go_wp2_with fail
      refine (awake_any w1).mono ?_
      rintro e w5 ⟨rfl, h5⟩
      have H5 := Lib.hid (H1.out.trans (h5.mono H1.out.size))
      clear h5
      go_wp2_with fail
      go_ret
      exact ⟨rfl, H5.out⟩
end Go.Proofs.Ytbpaadigojfkjaa
