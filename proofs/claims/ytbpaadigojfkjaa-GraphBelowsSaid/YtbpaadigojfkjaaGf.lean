/- container/heap's down walked, over the graph's heap. -/
import Derived.Test.YtbpaadigojfkjaaGe
namespace Go.Proofs.Ytbpaadigojfkjaa
open Go.RowKit

set_option maxHeartbeats 16000000 in
set_option maxRecDepth 1000000 in
theorem down_any (base g : Nat) (A : Option Addr) (d : Nat) (w : World) (v : Value) (xs : List Nat) (ns : List ByteArray) (h : RS base g A ns.length d w v xs) (hN : NS w A ns base) (hx : ∀ x ∈ xs, x < ns.length)
    (n : Nat) (hn : n ≤ xs.length) (hl : xs.length ≤ 1000) (h0 : 0 < xs.length) :
    Calls Try.prog 31 #[.iface 42 (.pointer (some ⟨g, 0, none⟩)), .int .i64 0, .int .i64 n] w fun e w' => ∃ b, e = .returned (.bool b) ∧
      RS base g A ns.length d w' v (downF (lts ns) n (n + 1) xs 0) ∧ Ch (fun k => some k = v.ownBlock) w w' := by
  have hvb : ∀ k, some k = v.ownBlock → base ≤ k := fun k hk => (h.own.lt k hk.symm).1
  have HVB := Lib.hid hvb
  clear hvb
  have H := Lib.hid h
  have HX := Lib.hid hx
  have HN := Lib.hid hN
  clear h hx hN
  have hn2 : n ≤ 1000 := by omega
  have HL := Lib.hid (And.intro hn (And.intro hl h0))
  clear hn hl h0
  go_enter Try.func31, Try.ntmps31
  go_wp2_with fail
  go_loopg [7] (n + 1) (fun gk v7 wr => ∃ (i : Nat) (ys : List Nat), v7 = .int .i64 (i : Int) ∧ i ≤ 1000 ∧ Hid (i < ys.length ∧ ys.length = xs.length ∧ (∀ y ∈ ys, y < ns.length) ∧ (n + 1 ≤ gk + i ∧ 1 ≤ gk) ∧ RS base g A ns.length d wr v ys ∧ Ch (fun k => some k = v.ownBlock) w wr ∧ downF (lts ns) n (n + 1) xs 0 = downF (lts ns) n gk ys i))
  case atStart => exact ⟨0, xs, rfl, by omega, HL.out.2.2, rfl, HX.out, ⟨by omega, by omega⟩, H.out, Ch.refl _ _, rfl⟩
  case round =>
    obtain ⟨i, ys, rfl, hi1, HR⟩ := hrel
    have ml := method_less ⟨g, 0, none⟩
    have ms := method_swap ⟨g, 0, none⟩
    obtain ⟨c, hc⟩ : ∃ c, 2 * i + 1 = c := ⟨_, rfl⟩
    obtain ⟨c2, hc2⟩ : ∃ c2, 2 * i + 2 = c2 := ⟨_, rfl⟩
    have he1 : 2 * (i : Int) + 1 = (c : Int) := by omega
    have he2 : (c : Int) + 1 = (c2 : Int) := by omega
    have hcb : c ≤ 2001 := by omega
    have hcb2 : c2 ≤ 2002 := by omega
    have hc0 : decide ((c : Int) < 0) = false := decide_eq_false (by omega)
    have HC := Lib.hid (And.intro hc hc2)
    clear hc hc2
    rcases Nat.lt_or_ge c n with hcn | hcn
    · have hd1 : decide (n ≤ c) = false := decide_eq_false (by omega)
      have hd1' : decide ((n : Int) ≤ (c : Int)) = false := decide_eq_false (by omega)
      have HNN := HL.out.1
      obtain ⟨h1, h2, h3, h4, h5, h6, h7⟩ := HR.out
      have hcl : c < ys.length := by omega
      have hcase : (c2 < n ∧ lts ns (ys.getD c2 0) (ys.getD c 0) = true) ∨ (c2 < n ∧ lts ns (ys.getD c2 0) (ys.getD c 0) = false) ∨ n ≤ c2 := by
        rcases Nat.lt_or_ge c2 n with h | h
        · cases hh : lts ns (ys.getD c2 0) (ys.getD c 0)
          · exact .inr (.inl ⟨h, rfl⟩)
          · exact .inl ⟨h, rfl⟩
        · exact .inr (.inr h)
      rcases hcase with ⟨ha, hb⟩ | ⟨ha, hb⟩ | ha
      · cases hlt : lts ns (ys.getD c2 0) (ys.getD i 0) with
        | false =>
          have hjl : c2 < ys.length := by omega
          have hl2 := less_rs h5 (HN.out.keep h6 (fun k hk => HVB.out k hk)) h3 c2 c (by omega) hcl
          rw [hb] at hl2
          have HL2 := Lib.hid hl2
          clear hl2
          have hd2 : decide (c2 < n) = true := decide_eq_true ha
          have hd2' : decide ((c2 : Int) < (n : Int)) = true := decide_eq_true (by omega)
          have HT := Lib.hid hlt
          have HB := Lib.hid (And.intro ha hb)
          have HH := Lib.hid (And.intro h1 (And.intro h2 (And.intro h3 (And.intro h4 (And.intro h6 (And.intro h7 (And.intro hcn hjl)))))))
          have HH5 := Lib.hid h5
          clear hlt hb h1 h2 h3 h4 h5 h6 h7 hcl HNN hcn ha hjl
          go_wp2_with fail
          refine HL2.out.mono ?_
          rintro e w0 ⟨rfl, p1, p2⟩
          have P1 := Lib.hid p1
          have P2 := Lib.hid p2
          clear p1 p2
          go_wp2_with fail
          have hless := less_rs P1.out ((HN.out.keep HH.out.2.2.2.2.1 (fun k hk => HVB.out k hk)).keep P2.out (fun _ hf => hf.elim)) HH.out.2.2.1 c2 i HH.out.2.2.2.2.2.2.2 HH.out.1
          rw [HT.out] at hless
          refine hless.mono ?_
          clear hless
          rintro e w1 ⟨rfl, q1, q2⟩
          have Q1 := Lib.hid q1
          have Q2 := Lib.hid q2
          clear q1 q2
          go_wp2_with fail
          go_ret
          obtain ⟨h1, h2, h3, h4, h6, h7, h8, h9⟩ := HH.out
          obtain ⟨gk, rfl⟩ : ∃ q, gk = q + 1 := ⟨gk - 1, by omega⟩
          refine ⟨_, rfl, ?_, (h6.trans P2.out (fun _ hf => hf.elim)).trans Q2.out (fun _ hf => hf.elim)⟩
          rw [h7]
          simp only [downF]
          have hb := HB.out
          rw [HC.out.1, HC.out.2, if_neg (by omega), if_pos hb, HT.out]
          exact Q1.out
        | true =>
          have hjl : c2 < ys.length := by omega
          have hl2 := less_rs h5 (HN.out.keep h6 (fun k hk => HVB.out k hk)) h3 c2 c (by omega) hcl
          rw [hb] at hl2
          have HL2 := Lib.hid hl2
          clear hl2
          have hd2 : decide (c2 < n) = true := decide_eq_true ha
          have hd2' : decide ((c2 : Int) < (n : Int)) = true := decide_eq_true (by omega)
          have HT := Lib.hid hlt
          have HB := Lib.hid (And.intro ha hb)
          have HH := Lib.hid (And.intro h1 (And.intro h2 (And.intro h3 (And.intro h4 (And.intro h6 (And.intro h7 (And.intro hcn hjl)))))))
          have HH5 := Lib.hid h5
          clear hlt hb h1 h2 h3 h4 h5 h6 h7 hcl HNN hcn ha hjl
          go_wp2_with fail
          refine HL2.out.mono ?_
          rintro e w0 ⟨rfl, p1, p2⟩
          have P1 := Lib.hid p1
          have P2 := Lib.hid p2
          clear p1 p2
          go_wp2_with fail
          have hless := less_rs P1.out ((HN.out.keep HH.out.2.2.2.2.1 (fun k hk => HVB.out k hk)).keep P2.out (fun _ hf => hf.elim)) HH.out.2.2.1 c2 i HH.out.2.2.2.2.2.2.2 HH.out.1
          rw [HT.out] at hless
          refine hless.mono ?_
          clear hless
          rintro e w1 ⟨rfl, q1, q2⟩
          have Q1 := Lib.hid q1
          have Q2 := Lib.hid q2
          clear q1 q2
          go_wp2_with fail
          refine (swap_rs Q1.out i c2 HH.out.1 HH.out.2.2.2.2.2.2.2).mono ?_
          rintro e w2 ⟨rfl, q3, q4⟩
          have Q3 := Lib.hid q3
          have Q4 := Lib.hid q4
          clear q3 q4
          go_wp2_with fail
          obtain ⟨h1, h2, h3, h4, h6, h7, h8, h9⟩ := HH.out
          obtain ⟨gk, rfl⟩ : ∃ q, gk = q + 1 := ⟨gk - 1, by omega⟩
          have hb := HB.out
          have hcc := HC.out
          have hlo := HL.out
          go_roundg gk
          case measure => omega
          case rel =>
            refine ⟨c2, swp ys i c2, by first | rfl | (rw [he1]) | (rw [he1, he2]), by omega, by rw [swp_length]; exact h9, by rw [swp_length]; exact h2, fun y hy => h3 y (swp_mem h1 h9 hy), ⟨by omega, by omega⟩, Q3.out, ((h6.trans P2.out (fun _ hf => hf.elim)).trans Q2.out (fun _ hf => hf.elim)).trans Q4.out (fun _ hk => .inl hk), ?_⟩
            rw [h7]
            simp only [downF]
            rw [hcc.1, hcc.2, if_neg (by omega), if_pos hb, HT.out, if_pos rfl]
      · cases hlt : lts ns (ys.getD c 0) (ys.getD i 0) with
        | false =>
          have hjl : c < ys.length := by omega
          have hl2 := less_rs h5 (HN.out.keep h6 (fun k hk => HVB.out k hk)) h3 c2 c (by omega) hcl
          rw [hb] at hl2
          have HL2 := Lib.hid hl2
          clear hl2
          have hd2 : decide (c2 < n) = true := decide_eq_true ha
          have hd2' : decide ((c2 : Int) < (n : Int)) = true := decide_eq_true (by omega)
          have HT := Lib.hid hlt
          have HB := Lib.hid (And.intro ha hb)
          have HH := Lib.hid (And.intro h1 (And.intro h2 (And.intro h3 (And.intro h4 (And.intro h6 (And.intro h7 (And.intro hcn hjl)))))))
          have HH5 := Lib.hid h5
          clear hlt hb h1 h2 h3 h4 h5 h6 h7 hcl HNN hcn ha hjl
          go_wp2_with fail
          refine HL2.out.mono ?_
          rintro e w0 ⟨rfl, p1, p2⟩
          have P1 := Lib.hid p1
          have P2 := Lib.hid p2
          clear p1 p2
          go_wp2_with fail
          have hless := less_rs P1.out ((HN.out.keep HH.out.2.2.2.2.1 (fun k hk => HVB.out k hk)).keep P2.out (fun _ hf => hf.elim)) HH.out.2.2.1 c i HH.out.2.2.2.2.2.2.2 HH.out.1
          rw [HT.out] at hless
          refine hless.mono ?_
          clear hless
          rintro e w1 ⟨rfl, q1, q2⟩
          have Q1 := Lib.hid q1
          have Q2 := Lib.hid q2
          clear q1 q2
          go_wp2_with fail
          go_ret
          obtain ⟨h1, h2, h3, h4, h6, h7, h8, h9⟩ := HH.out
          obtain ⟨gk, rfl⟩ : ∃ q, gk = q + 1 := ⟨gk - 1, by omega⟩
          refine ⟨_, rfl, ?_, (h6.trans P2.out (fun _ hf => hf.elim)).trans Q2.out (fun _ hf => hf.elim)⟩
          rw [h7]
          simp only [downF]
          have hb := HB.out
          rw [HC.out.1, HC.out.2, if_neg (by omega), if_neg (by rw [hb.2]; simp), HT.out]
          exact Q1.out
        | true =>
          have hjl : c < ys.length := by omega
          have hl2 := less_rs h5 (HN.out.keep h6 (fun k hk => HVB.out k hk)) h3 c2 c (by omega) hcl
          rw [hb] at hl2
          have HL2 := Lib.hid hl2
          clear hl2
          have hd2 : decide (c2 < n) = true := decide_eq_true ha
          have hd2' : decide ((c2 : Int) < (n : Int)) = true := decide_eq_true (by omega)
          have HT := Lib.hid hlt
          have HB := Lib.hid (And.intro ha hb)
          have HH := Lib.hid (And.intro h1 (And.intro h2 (And.intro h3 (And.intro h4 (And.intro h6 (And.intro h7 (And.intro hcn hjl)))))))
          have HH5 := Lib.hid h5
          clear hlt hb h1 h2 h3 h4 h5 h6 h7 hcl HNN hcn ha hjl
          go_wp2_with fail
          refine HL2.out.mono ?_
          rintro e w0 ⟨rfl, p1, p2⟩
          have P1 := Lib.hid p1
          have P2 := Lib.hid p2
          clear p1 p2
          go_wp2_with fail
          have hless := less_rs P1.out ((HN.out.keep HH.out.2.2.2.2.1 (fun k hk => HVB.out k hk)).keep P2.out (fun _ hf => hf.elim)) HH.out.2.2.1 c i HH.out.2.2.2.2.2.2.2 HH.out.1
          rw [HT.out] at hless
          refine hless.mono ?_
          clear hless
          rintro e w1 ⟨rfl, q1, q2⟩
          have Q1 := Lib.hid q1
          have Q2 := Lib.hid q2
          clear q1 q2
          go_wp2_with fail
          refine (swap_rs Q1.out i c HH.out.1 HH.out.2.2.2.2.2.2.2).mono ?_
          rintro e w2 ⟨rfl, q3, q4⟩
          have Q3 := Lib.hid q3
          have Q4 := Lib.hid q4
          clear q3 q4
          go_wp2_with fail
          obtain ⟨h1, h2, h3, h4, h6, h7, h8, h9⟩ := HH.out
          obtain ⟨gk, rfl⟩ : ∃ q, gk = q + 1 := ⟨gk - 1, by omega⟩
          have hb := HB.out
          have hcc := HC.out
          have hlo := HL.out
          go_roundg gk
          case measure => omega
          case rel =>
            refine ⟨c, swp ys i c, by first | rfl | (rw [he1]) | (rw [he1, he2]), by omega, by rw [swp_length]; exact h9, by rw [swp_length]; exact h2, fun y hy => h3 y (swp_mem h1 h9 hy), ⟨by omega, by omega⟩, Q3.out, ((h6.trans P2.out (fun _ hf => hf.elim)).trans Q2.out (fun _ hf => hf.elim)).trans Q4.out (fun _ hk => .inl hk), ?_⟩
            rw [h7]
            simp only [downF]
            rw [hcc.1, hcc.2, if_neg (by omega), if_neg (by rw [hb.2]; simp), HT.out, if_pos rfl]
      · cases hlt : lts ns (ys.getD c 0) (ys.getD i 0) with
        | false =>
          have hjl : c < ys.length := by omega
          have hd2 : decide (c2 < n) = false := decide_eq_false (by omega)
          have hd2' : decide ((c2 : Int) < (n : Int)) = false := decide_eq_false (by omega)
          have HT := Lib.hid hlt
          have HB := Lib.hid ha
          have HH := Lib.hid (And.intro h1 (And.intro h2 (And.intro h3 (And.intro h4 (And.intro h6 (And.intro h7 (And.intro hcn hjl)))))))
          have HH5 := Lib.hid h5
          clear hlt  h1 h2 h3 h4 h5 h6 h7 hcl HNN hcn ha hjl
          go_wp2_with fail
          have P1 := HH5
          have P2 := Lib.hid (Ch.refl (fun _ => False) wr)
          have hless := less_rs P1.out ((HN.out.keep HH.out.2.2.2.2.1 (fun k hk => HVB.out k hk)).keep P2.out (fun _ hf => hf.elim)) HH.out.2.2.1 c i HH.out.2.2.2.2.2.2.2 HH.out.1
          rw [HT.out] at hless
          refine hless.mono ?_
          clear hless
          rintro e w1 ⟨rfl, q1, q2⟩
          have Q1 := Lib.hid q1
          have Q2 := Lib.hid q2
          clear q1 q2
          go_wp2_with fail
          go_ret
          obtain ⟨h1, h2, h3, h4, h6, h7, h8, h9⟩ := HH.out
          obtain ⟨gk, rfl⟩ : ∃ q, gk = q + 1 := ⟨gk - 1, by omega⟩
          refine ⟨_, rfl, ?_, (h6.trans P2.out (fun _ hf => hf.elim)).trans Q2.out (fun _ hf => hf.elim)⟩
          rw [h7]
          simp only [downF]
          have hb := HB.out
          rw [HC.out.1, HC.out.2, if_neg (by omega), if_neg (by omega), HT.out]
          exact Q1.out
        | true =>
          have hjl : c < ys.length := by omega
          have hd2 : decide (c2 < n) = false := decide_eq_false (by omega)
          have hd2' : decide ((c2 : Int) < (n : Int)) = false := decide_eq_false (by omega)
          have HT := Lib.hid hlt
          have HB := Lib.hid ha
          have HH := Lib.hid (And.intro h1 (And.intro h2 (And.intro h3 (And.intro h4 (And.intro h6 (And.intro h7 (And.intro hcn hjl)))))))
          have HH5 := Lib.hid h5
          clear hlt  h1 h2 h3 h4 h5 h6 h7 hcl HNN hcn ha hjl
          go_wp2_with fail
          have P1 := HH5
          have P2 := Lib.hid (Ch.refl (fun _ => False) wr)
          have hless := less_rs P1.out ((HN.out.keep HH.out.2.2.2.2.1 (fun k hk => HVB.out k hk)).keep P2.out (fun _ hf => hf.elim)) HH.out.2.2.1 c i HH.out.2.2.2.2.2.2.2 HH.out.1
          rw [HT.out] at hless
          refine hless.mono ?_
          clear hless
          rintro e w1 ⟨rfl, q1, q2⟩
          have Q1 := Lib.hid q1
          have Q2 := Lib.hid q2
          clear q1 q2
          go_wp2_with fail
          refine (swap_rs Q1.out i c HH.out.1 HH.out.2.2.2.2.2.2.2).mono ?_
          rintro e w2 ⟨rfl, q3, q4⟩
          have Q3 := Lib.hid q3
          have Q4 := Lib.hid q4
          clear q3 q4
          go_wp2_with fail
          obtain ⟨h1, h2, h3, h4, h6, h7, h8, h9⟩ := HH.out
          obtain ⟨gk, rfl⟩ : ∃ q, gk = q + 1 := ⟨gk - 1, by omega⟩
          have hb := HB.out
          have hcc := HC.out
          have hlo := HL.out
          go_roundg gk
          case measure => omega
          case rel =>
            refine ⟨c, swp ys i c, by first | rfl | (rw [he1]) | (rw [he1, he2]), by omega, by rw [swp_length]; exact h9, by rw [swp_length]; exact h2, fun y hy => h3 y (swp_mem h1 h9 hy), ⟨by omega, by omega⟩, Q3.out, ((h6.trans P2.out (fun _ hf => hf.elim)).trans Q2.out (fun _ hf => hf.elim)).trans Q4.out (fun _ hk => .inl hk), ?_⟩
            rw [h7]
            simp only [downF]
            rw [hcc.1, hcc.2, if_neg (by omega), if_neg (by omega), HT.out, if_pos rfl]
    · have hd1 : decide (n ≤ c) = true := decide_eq_true hcn
      have hd1' : decide ((n : Int) ≤ (c : Int)) = true := decide_eq_true (by omega)
      have HH := Lib.hid hcn
      clear hcn
      go_wp2_with fail
      go_ret
      obtain ⟨h1, h2, h3, h4, h5, h6, h7⟩ := HR.out
      obtain ⟨gk, rfl⟩ : ∃ q, gk = q + 1 := ⟨gk - 1, by omega⟩
      have hcn := HH.out
      have hcc := HC.out
      refine ⟨_, rfl, ?_, h6⟩
      rw [h7]
      simp only [downF]
      rw [if_pos (by omega)]
      exact h5
end Go.Proofs.Ytbpaadigojfkjaa
