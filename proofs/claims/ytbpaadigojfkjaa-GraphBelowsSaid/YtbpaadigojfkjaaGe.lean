/- container/heap's up walked, over the graph's heap. -/
import Derived.Test.YtbpaadigojfkjaaGd
namespace Go.Proofs.Ytbpaadigojfkjaa
open Go.RowKit

set_option maxHeartbeats 8000000 in
set_option maxRecDepth 1000000 in
theorem up_any (base g : Nat) (A : Option Addr) (d : Nat) (w : World) (v : Value) (xs : List Nat) (ns : List ByteArray) (h : RS base g A ns.length d w v xs) (hN : NS w A ns base) (hx : ∀ x ∈ xs, x < ns.length)
    (j : Nat) (hj : j < xs.length) (hl : xs.length ≤ 1000) :
    Calls Try.prog 30 #[.iface 42 (.pointer (some ⟨g, 0, none⟩)), .int .i64 j] w fun e w' => e = .returned (.tuple #[]) ∧
      RS base g A ns.length d w' v (upF (lts ns) (j + 1) xs j) ∧ Ch (fun k => some k = v.ownBlock) w w' := by
  have hvb : ∀ k, some k = v.ownBlock → base ≤ k := fun k hk => (h.own.lt k hk.symm).1
  have HVB := Lib.hid hvb
  clear hvb
  have H := Lib.hid h
  have HX := Lib.hid hx
  have HN := Lib.hid hN
  clear h hx hN
  go_enter Try.func30, Try.ntmps30
  go_wp2_with fail
  go_loopg [1] (j + 1) (fun gk v1 wr => ∃ (j' : Nat) (ys : List Nat), v1 = .int .i64 (j' : Int) ∧ j' ≤ 1000 ∧ Hid (j' < ys.length ∧ ys.length = xs.length ∧ (∀ y ∈ ys, y < ns.length) ∧ j' + 1 ≤ gk ∧ RS base g A ns.length d wr v ys ∧ Ch (fun k => some k = v.ownBlock) w wr ∧ upF (lts ns) (j + 1) xs j = upF (lts ns) gk ys j'))
  case atStart => exact ⟨j, xs, rfl, by omega, hj, rfl, HX.out, Nat.le_refl _, H.out, Ch.refl _ _, rfl⟩
  case round =>
    obtain ⟨j', ys, rfl, hj1, HR⟩ := hrel
    have ml := method_less ⟨g, 0, none⟩
    have ms := method_swap ⟨g, 0, none⟩
    rcases Nat.eq_zero_or_pos j' with hz | hp
    · subst hz
      go_wp2_with fail
      go_end0
      obtain ⟨h1, h2, h3, h4, h5, h6, h7⟩ := HR.out
      obtain ⟨gk, rfl⟩ : ∃ q, gk = q + 1 := ⟨gk - 1, by omega⟩
      exact ⟨rfl, by rw [h7]; simpa [upF] using h5, h6⟩
    · obtain ⟨i, hi⟩ : ∃ i, (j' - 1) / 2 = i := ⟨_, rfl⟩
      have he : ((j' : Int) - 1) / 2 = (i : Int) := by omega
      have hij : i < j' := by omega
      have hb : ((i : Int) == (j' : Int)) = false := beq_eq_false_iff_ne.2 (by omega)
      have HI := Lib.hid hi
      clear hi
      obtain ⟨h1, h2, h3, h4, h5, h6, h7⟩ := HR.out
      have hil : i < ys.length := by omega
      have hge := h5.own.lt
      cases hlt : lts ns (ys.getD j' 0) (ys.getD i 0) with
      | false =>
        have HT := Lib.hid hlt
        have hless := less_rs h5 (HN.out.keep h6 (fun k hk => HVB.out k hk)) h3 j' i h1 hil
        rw [hlt] at hless
        have HLS := Lib.hid hless
        have HH := Lib.hid (And.intro h2 (And.intro h4 (And.intro h6 h7)))
        clear hlt hless h1 h2 h3 h4 h5 h6 h7 hil hge
        go_wp2_with fail
        refine HLS.out.mono ?_
        rintro e w1 ⟨rfl, q1, q2⟩
        have Q1 := Lib.hid q1
        have Q2 := Lib.hid q2
        clear q1 q2
        go_wp2_with fail
        go_end0
        obtain ⟨h2, h4, h6, h7⟩ := HH.out
        obtain ⟨gk, rfl⟩ : ∃ q, gk = q + 1 := ⟨gk - 1, by omega⟩
        refine ⟨rfl, ?_, h6.trans Q2.out (fun _ hf => hf.elim)⟩
        rw [h7]
        simp only [upF]
        rw [if_neg (by omega), HI.out, HT.out]
        exact Q1.out
      | true =>
        have HT := Lib.hid hlt
        have hless := less_rs h5 (HN.out.keep h6 (fun k hk => HVB.out k hk)) h3 j' i h1 hil
        rw [hlt] at hless
        have HLS := Lib.hid hless
        have HH := Lib.hid (And.intro h1 (And.intro h2 (And.intro h3 (And.intro h4 (And.intro h6 h7)))))
        have HIL := Lib.hid hil
        clear hlt hless h1 h2 h3 h4 h5 h6 h7 hil hge
        go_wp2_with fail
        refine HLS.out.mono ?_
        rintro e w1 ⟨rfl, q1, q2⟩
        have Q1 := Lib.hid q1
        have Q2 := Lib.hid q2
        clear q1 q2
        go_wp2_with fail
        refine (swap_rs Q1.out i j' HIL.out HH.out.1).mono ?_
        rintro e w2 ⟨rfl, q3, q4⟩
        have Q3 := Lib.hid q3
        have Q4 := Lib.hid q4
        clear q3 q4
        go_wp2_with fail
        obtain ⟨h1, h2, h3, h4, h6, h7⟩ := HH.out
        obtain ⟨gk, rfl⟩ : ∃ q, gk = q + 1 := ⟨gk - 1, by omega⟩
        have hil := HIL.out
        go_roundg gk
        case measure => omega
        case rel =>
          refine ⟨i, swp ys i j', rfl, by omega, by rw [swp_length]; exact hil, by rw [swp_length]; exact h2, fun y hy => h3 y (swp_mem hil h1 hy), by omega, Q3.out, (h6.trans Q2.out (fun _ hf => hf.elim)).trans Q4.out (fun _ hk => .inl hk), ?_⟩
          rw [h7]
          simp only [upF]
          rw [if_neg (by omega), HI.out, HT.out, if_pos rfl]
end Go.Proofs.Ytbpaadigojfkjaa
