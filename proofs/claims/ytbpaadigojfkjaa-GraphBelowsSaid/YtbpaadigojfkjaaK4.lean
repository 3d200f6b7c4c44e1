/- The reference's Below walked. -/
import Derived.Test.YtbpaadigojfkjaaH8
import Derived.Test.YtbpaadigojfkjaaQ3
namespace Go.Proofs.Ytbpaadigojfkjaa
open Go.RowKit

def BelPost (ns : List ByteArray) (nss : List (List ByteArray)) (at' : Int) (w : World) (e : Ending) (w' : World) : Prop :=
  ∃ v base, e = .returned v ∧ Below w.heap.size w w' ∧ w.heap.size ≤ base ∧ w'.ownsRow base 3 1 v (belF ns nss at').length (vs (belF ns nss at'))
theorem belPost_none {ns : List ByteArray} {nss : List (List ByteArray)} {at' : Int} {w w' : World} (h : belF ns nss at' = []) (hb : Below w.heap.size w w') : BelPost ns nss at' w (.returned (.slice none 0 0)) w' :=
  ⟨.slice none 0 0, w.heap.size, rfl, hb, Nat.le_refl _, by rw [h]; exact World.ownsRow_nil _ _ _ _⟩
def fl (done : List Nat) (i : Nat) : List Nat := (List.range i).filter fun y => done.contains y
theorem fl_on {done : List Nat} {i : Nat} (h : done.contains i = true) : fl done (i + 1) = fl done i ++ [i] := by unfold fl; rw [List.range_succ, List.filter_append]; simp only [List.filter_cons, List.filter_nil, h, if_true]
theorem fl_off {done : List Nat} {i : Nat} (h : done.contains i = false) : fl done (i + 1) = fl done i := by unfold fl; rw [List.range_succ, List.filter_append]; simp only [List.filter_cons, List.filter_nil, h]; simp
theorem fl_le (done : List Nat) (i : Nat) : (fl done i).length ≤ i := by unfold fl; have := List.length_filter_le (fun y => done.contains y) (List.range i); simpa using this

theorem Dn.init1 (w0 : World) {n x : Nat} : Dn w0 (w0.alloc (.cells ((madeCells #[Value.bool false] n).setIfInBounds x (.bool true)) 4)) w0.heap.size n [x] (.slice none 0 0) [] := by
  refine ⟨?_, World.ownsRow_nil _ _ _ _, by simp [Value.ownBlock], (Below.refl _ _).alloc (Nat.le_refl _) _, Nat.le_refl _⟩
  rw [heap_alloc_new, made_dcs]
  congr 2
  apply Array.ext'
  apply List.ext_getElem
  · simp [dcs]
  · intro i h1 h2
    by_cases e : x = i
    · subst e; simp [dcs]
    · have : ¬ i = x := fun e2 => e e2.symm
      simp [dcs, e, this]

set_option maxHeartbeats 40000000 in
set_option maxRecDepth 1000000 in
theorem refbel_any (a b : Option Addr) (c d : Nat) (at' : Int) (ns : List ByteArray) (nss : List (List ByteArray)) (w : World) (hs : SR w a ns) (hn : ns.length ≤ 1000) (hc : ns.length ≤ c) (hr : NR w b nss) (hmm : ∀ i, (nss.getD i []).length ≤ 1000) :
    Calls Try.prog 16 #[.slice a ns.length c, .slice b nss.length d, .int .i64 at'] w (BelPost ns nss at' w) := by
  have HO := Lib.hid (ref_any a b c d ns nss w hs hn hc hr hmm)
  have HPL : Hid (∀ w', Below w.heap.size w w' → ∀ s, Calls Try.prog 23 #[.slice a ns.length c, .string s] w' fun e w'' => e = .returned (.int .i64 (idx ns s)) ∧ w' = w'') := fun w' hb s => place_any a c ns s w' (hs.below hb) hn
  have HOX : Hid (∀ k, ∃ p q, (nss.getD k []).length ≤ q ∧ SR w p (nss.getD k []) ∧ ∀ w', Below w.heap.size w w' → Calls Try.prog 24 #[.slice b nss.length d, .int .i64 k] w' fun e w'' => e = .returned (.slice p (nss.getD k []).length q) ∧ w'' = w') := fun k => of_fix b d nss k w hr
  obtain ⟨n, hnn⟩ : ∃ n, ns.length = n := ⟨_, rfl⟩
  obtain ⟨m, hm'⟩ : ∃ m, nss.length = m := ⟨_, rfl⟩
  have HMM := Lib.hid hmm
  rw [hnn] at hn HPL
  rw [hm'] at HOX
  rw [hnn, hm'] at HO ⊢
  have HN := Lib.hid hnn
  clear hs hr hmm hnn hm' hc
  go_enter Try.func16, Try.ntmps16
  go_wp2_with fail
  refine HO.out.mono ?_
  rintro e w1 ⟨v0, base0, rfl, hb1, _, _⟩
  have HB1 := Lib.hid hb1
  clear hb1 HO
  obtain ⟨z1, hz1⟩ : ∃ z, (ordF ns nss).2.1 = z := ⟨_, rfl⟩
  obtain ⟨why, hwhy⟩ : ∃ z, (ordF ns nss).2.2 = z := ⟨_, rfl⟩
  rw [hz1, hwhy]
  have HW := Lib.hid hwhy
  clear hz1 hwhy
  by_cases hw0 : why = 0
  · rcases Int.lt_or_le at' 0 with hat | hat
    · have hd : decide (at' < 0) = true := decide_eq_true hat
      subst hw0
      go_wp2_with fail
      go_ret
      exact belPost_none (bel_none (.inr (.inl hat))) HB1.out
    · obtain ⟨x, rfl⟩ : ∃ x : Nat, at' = (x : Int) := ⟨at'.toNat, by omega⟩
      rcases Nat.lt_or_ge x n with hxn | hxn
      · subst hw0
        have hmk := make_bools n hn
        have hbad : badF ns nss = -1 := by
          rcases ord_cases ns nss with ⟨h, _⟩ | ⟨_, _, _, h, _⟩
          · exact absurd HW.out h
          · exact ix_neg h
        have HBD := Lib.hid hbad
        have hd : decide ((x : Int) < 0) = false := decide_eq_false (by omega)
        have hd2 : decide (n ≤ x) = false := decide_eq_false (by omega)
        have hce : (madeCells #[Value.bool false] n)[x]? = some (.bool false) := by rw [made_dcs]; simp [dcs, hxn]
        have HST := Lib.hid (Dn.init1 w1 (n := n) (x := x))
        clear hbad
        go_wp2_with fail
        obtain ⟨bl, hbl⟩ : ∃ bl, w1.heap.size = bl := ⟨_, rfl⟩
        have hst := HST.out
        generalize w1.alloc (.cells ((madeCells #[Value.bool false] n).setIfInBounds x (.bool true)) 4) = w2 at hst ⊢
        rw [hbl]
        rw [hbl] at hst
        have HS2 := Lib.hid hst
        have HG0 := Lib.hid (Gr.one (rows := rowsF ns nss) hxn)
        clear hst HST hmk hbl hce
        go_loopg [11] (n + 1) (fun gk t wr => Hid (∃ (mr : Bool) (done : List Nat), t = .bool mr ∧ Dn w1 wr bl n done (.slice none 0 0) [] ∧ Gr n (rowsF ns nss) x done ∧ (mr = true → n + 1 ≤ gk + done.length) ∧ (mr = false → ∀ y ∈ done, ∀ j ∈ rowsF ns nss y, j ∈ done)))
        case atStart => exact ⟨true, [x], rfl, HS2.out, HG0.out, by simp, fun h => by cases h⟩
        case round =>
          clear HS2 HG0
          obtain ⟨mr, done, rfl, hdn, hgr, hmt, hmf⟩ := hrel.out
          clear hrel
          have HDN := Lib.hid hdn
          have HGR := Lib.hid hgr
          cases mr with
          | true =>
            have hgk := hmt rfl
            have HGK := Lib.hid hgk
            have HLE := Lib.hid hgr.le
            clear hmt hmf hdn hgr hgk
            go_wp2_with fail
            obtain ⟨wo, rfl⟩ : ∃ wo : World, wo = wr := ⟨_, rfl⟩
            go_loopw [11, 12] (fun m2 t wr => ∃ (i : Nat) (mb : Bool), i ≤ n ∧ m2 = .bool mb ∧ t = .int .i64 (i : Int) ∧ Hid (∃ dd, Dn w1 wr bl n dd (.slice none 0 0) [] ∧ Gr n (rowsF ns nss) x dd ∧ Md done (rowsF ns nss) i mb dd)) (fun _ t _ => n - (intOf t).toNat)
            case atStart => exact ⟨0, false, Nat.zero_le _, rfl, rfl, done, HDN.out, HGR.out, Md.start _ _⟩
            case round =>
              clear HDN HGR
              obtain ⟨i, mb, hi, rfl, rfl, HQ⟩ := hrel
              by_cases hin : i < n
              · obtain ⟨dd, hdn, hgr, hmd⟩ := HQ.out
                obtain ⟨row, hrow⟩ : ∃ row, nss.getD i [] = row := ⟨_, rfl⟩
                obtain ⟨L, hL⟩ : ∃ L, row.length = L := ⟨_, rfl⟩
                obtain ⟨rb, rq, hLq, hrs, hof⟩ := HOX.out i
                have hL1 : L ≤ 1000 := by rw [← hL, ← hrow]; exact HMM.out i
                have hof := hof wr (HB1.out.trans (hdn.bel.mono HB1.out.size))
                rw [hrow] at hof hrs hLq
                rw [hL] at hof hLq
                have HOF1 := Lib.hid hof
                have HRS := Lib.hid (hrs.below HB1.out)
                have HROW := Lib.hid hrow
                have HL := Lib.hid hL
                have HE := Lib.hid (And.intro hdn (And.intro hgr hmd))
                have hii : (i : Int) < (n : Int) := by omega
                clear HQ hdn hgr hmd hof hrs hrow hL
                go_wp2_with fail
                refine HOF1.out.mono ?_
                rintro e w' ⟨rfl, rfl⟩
                go_wp2_with fail
                obtain ⟨wp, rfl⟩ : ∃ wp : World, wp = w' := ⟨_, rfl⟩
                go_loopw [11, 14] (fun m3 t wr => ∃ (k : Nat) (mb : Bool), k ≤ L ∧ m3 = .bool mb ∧ t = .int .i64 (k : Int) ∧ Hid (∃ dd, Dn w1 wr bl n dd (.slice none 0 0) [] ∧ Gr n (rowsF ns nss) x dd ∧ Mi done ns row (rowsF ns nss) i k mb dd)) (fun _ t _ => L - (intOf t).toNat)
                case atStart => exact ⟨0, mb, Nat.zero_le _, rfl, rfl, dd, HE.out.1, HE.out.2.1, HE.out.2.2.enter⟩
                case round =>
                  clear HE
                  obtain ⟨k, mb, hk, rfl, rfl, HQ⟩ := hrel
                  obtain ⟨dd, hdn, hgr, hmi⟩ := HQ.out
                  have HDN := Lib.hid hdn
                  have HGR := Lib.hid hgr
                  have HMI := Lib.hid hmi
                  have hbc : wr.cell? ⟨bl, i, none⟩ = some (.bool (dd.contains i)) := (hdn.br i hin).1
                  clear HQ hdn hgr hmi
                  cases hv : dd.contains i with
                  | false =>
                    rw [hv] at hbc
                    have HV : Hid (i ∉ dd) := (show i ∉ dd from by intro hm; simp [hm] at hv)
                    clear hv
                    go_wp2_with fail
                    go_roundw
                    case rel => exact ⟨i + 1, mb, by omega, rfl, by go_num, dd, HDN.out, HGR.out, HMI.out.out HV.out⟩
                    case measure => simp [intOf]; omega
                  | true =>
                    rw [hv] at hbc
                    have HV : Hid (i ∈ dd) := (show i ∈ dd from by simpa using hv)
                    clear hv
                    by_cases hkl : k < L
                    · obtain ⟨rd, rfl, hrc⟩ := (HRS.out.below HDN.out.bel) k (by rw [HL.out]; exact hkl)
                      obtain ⟨y, hy, hyi, hym, _⟩ := row_idx (ns := ns) (nss := nss) (x := i) (j := k) (by rw [HBD.out]; decide) (by rw [HN.out]; exact hin) (by rw [HROW.out, HL.out]; exact hkl)
                      rw [HROW.out] at hyi
                      rw [HN.out] at hy
                      have hpl := HPL.out wr (HB1.out.trans (HDN.out.bel.mono HB1.out.size)) (nm row k)
                      rw [hyi] at hpl
                      have HP1 := Lib.hid hpl
                      have HYI := Lib.hid hyi
                      have HYM := Lib.hid hym
                      obtain ⟨sk, hsk⟩ : ∃ s, nm row k = s := ⟨_, rfl⟩
                      rw [hsk] at hrc HP1
                      have hyc : wr.cell? ⟨bl, y, none⟩ = some (.bool (dd.contains y)) := (HDN.out.br y hy).1
                      have hyf : wr.frozen? ⟨bl, y, none⟩ = false := (HDN.out.br y hy).2
                      have hyn : (y : Int) < (n : Int) := by omega
                      have hki : (k : Int) < (L : Int) := by omega
                      clear hpl hyi hym hsk
                      cases hu : dd.contains y with
                      | true =>
                        rw [hu] at hyc
                        have HU : Hid (y ∈ dd) := (show y ∈ dd from by simpa using hu)
                        clear hu
                        go_wp2_with fail
                        refine HP1.out.mono ?_
                        rintro e w' ⟨rfl, rfl⟩
                        go_wp2_with fail
                        go_roundw
                        case rel => exact ⟨k + 1, mb, by omega, rfl, by go_num, dd, HDN.out, HGR.out, HMI.out.there HYI.out HU.out⟩
                        case measure => simp [intOf]; omega
                      | false =>
                        rw [hu] at hyc
                        have HU : Hid (y ∉ dd) := (show y ∉ dd from by intro hm; simp [hm] at hu)
                        clear hu
                        go_wp2_with fail
                        refine HP1.out.mono ?_
                        rintro e w' ⟨rfl, rfl⟩
                        go_wp2_with fail
                        go_roundw
                        case rel => exact ⟨k + 1, true, by omega, rfl, by go_num, dd ++ [y], HDN.out.set y, HGR.out.push HV.out hy HYM.out HU.out, HMI.out.new⟩
                        case measure => simp [intOf]; omega
                    · have hkL : k = L := by omega
                      have HMD := Lib.hid (HMI.out.all HROW.out (by rw [HL.out]; exact hkL))
                      clear HMI hkl hk
                      obtain rfl : L = k := hkL.symm
                      clear hkL
                      go_wp2_with fail
                      go_roundw
                      case rel => exact ⟨i + 1, mb, by omega, rfl, by go_num, dd, HDN.out, HGR.out, HMD.out⟩
                      case measure => simp [intOf]; omega
              · have hin' : i = n := by omega
                clear hin hi
                obtain rfl : n = i := hin'.symm
                clear hin'
                go_wp2_with fail
                obtain ⟨dd, hdn, hgr, hmd⟩ := HQ.out
                have hg1 := HGK.out
                have hg2 := HLE.out
                obtain ⟨gk, rfl⟩ : ∃ q, gk = q + 1 := ⟨gk - 1, by omega⟩
                go_roundg gk
                case measure => omega
                case rel => exact ⟨mb, dd, rfl, hdn, hgr, fun e => by have := hmd.t e; omega, fun e y hy j hj => by rw [(hmd.f e).1] at hy ⊢; exact (hmd.f e).2 y (by have := hgr.lt y (by rw [(hmd.f e).1]; exact hy); omega) hy j hj⟩
          | false =>
            have HSH := Lib.hid (hgr.shut (hmf rfl))
            clear hmt hmf hdn hgr HGR
            go_wp2_with fail
            obtain ⟨wo, rfl⟩ : ∃ wo : World, wo = wr := ⟨_, rfl⟩
            go_loopw [16, 17] (fun v t wr => ∃ i : Nat, i ≤ n ∧ t = .int .i64 (i : Int) ∧ Hid (Dn w1 wr bl n done v (fl done i))) (fun _ t _ => n - (intOf t).toNat)
            case atStart => exact ⟨0, Nat.zero_le _, rfl, HDN.out⟩
            case round =>
              clear HDN
              obtain ⟨i, hi, rfl, HD⟩ := hrel
              by_cases hin : i < n
              · have hbc : wr.cell? ⟨bl, i, none⟩ = some (.bool (done.contains i)) := (HD.out.br i hin).1
                have hii : (i : Int) < (n : Int) := by omega
                cases hv : done.contains i with
                | false =>
                  rw [hv] at hbc
                  have HV := Lib.hid (fl_off hv)
                  clear hv
                  go_wp2_with fail
                  go_roundw
                  case rel => exact ⟨i + 1, by omega, by go_num, by rw [HV.out]; exact HD.out⟩
                  case measure => simp [intOf]; omega
                | true =>
                  rw [hv] at hbc
                  have HV := Lib.hid (fl_on hv)
                  have HFL := Lib.hid (fl_le done i)
                  clear hv
                  go_wp2_with (at_builtin; refine app_one 26 3 (.int .i64 0) 8 Try.underlying26 info3 rfl (by decide) rfl (.tmp 89) (.tmp 91) rfl w1.heap.size _ _ _ _ (.int .i64 i) rfl rfl HD.out.own rfl ?b1 ?b2 ?next)
                  case b1 => have := HFL.out; omega
                  case b2 => exact HD.out.bel.size
                  case next =>
                    intro g cap w4 h1 h2 h3
                    have HD4 := Lib.hid (HD.out.grown h1 h2 h3)
                    clear h1 h2 h3 HD
                    go_wp2_with fail
                    go_roundw
                    case rel => exact ⟨i + 1, by omega, by go_num, by rw [HV.out]; exact HD4.out⟩
                    case measure => simp [intOf]; omega
              · have hin' : i = n := by omega
                clear hin hi
                obtain rfl : n = i := hin'.symm
                clear hin'
                go_wp2_with fail
                go_ret
                have hb : belF ns nss (x : Int) = fl done n := by
                  have h1 := HN.out
                  have h2 := bel_some HW.out (a := x) (by rw [h1]; exact hxn) (by rw [h1]; exact HSH.out)
                  rw [h1] at h2
                  exact h2
                exact ⟨_, w1.heap.size, rfl, HB1.out.trans (HD.out.bel.mono HB1.out.size), HB1.out.size, by rw [hb]; exact HD.out.own⟩
      · subst hw0
        have hd : decide ((x : Int) < 0) = false := decide_eq_false (by omega)
        have hd2 : decide (n ≤ x) = true := decide_eq_true (by omega)
        go_wp2_with fail
        go_ret
        refine belPost_none (bel_none (.inr (.inr ?_))) HB1.out
        have := HN.out
        omega
  · have hww : (why != 0) = true := by rw [bne_iff_ne]; exact hw0
    have HW0 := Lib.hid hw0
    clear hw0
    go_wp2_with fail
    go_ret
    exact belPost_none (bel_none (.inl (by rw [HW.out]; exact HW0.out))) HB1.out
end Go.Proofs.Ytbpaadigojfkjaa
