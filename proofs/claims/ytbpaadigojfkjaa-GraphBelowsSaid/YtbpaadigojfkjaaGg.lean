/- container/heap's Push and Pop walked, over the graph's heap. -/
import Derived.Test.YtbpaadigojfkjaaGf
namespace Go.Proofs.Ytbpaadigojfkjaa
open Go.RowKit

set_option maxHeartbeats 4000000 in
set_option maxRecDepth 1000000 in
theorem hpush_any (base g : Nat) (A : Option Addr) (d : Nat) (w : World) (v : Value) (xs : List Nat) (x : Nat) (ns : List ByteArray) (h : RS base g A ns.length d w v xs) (hN : NS w A ns base) (hx : ∀ y ∈ xs ++ [x], y < ns.length) (hl : xs.length + 1 ≤ 1000) (hgb : base ≤ g) :
    Calls Try.prog 19 #[.iface 42 (.pointer (some ⟨g, 0, none⟩)), .iface 3 (.int .i64 x)] w fun e w' => e = .returned (.tuple #[]) ∧
      ∃ v', RS base g A ns.length d w' v' (upF (lts ns) (xs.length + 1) (xs ++ [x]) xs.length) ∧ Ch (fun k => k = g ∨ some k = v.ownBlock) w w' ∧ (v'.ownBlock = v.ownBlock ∨ ∃ b, v'.ownBlock = some b ∧ w.heap.size ≤ b) := by
  have mp := method_push ⟨g, 0, none⟩
  have ml := method_len ⟨g, 0, none⟩
  have hge := h.own.lt
  have hpush := push_any base g A ns.length d w v xs x h (by omega) (by have := h.lt; omega)
  have HP := Lib.hid hpush
  have hbd : xs.length ≤ 1000 := by omega
  have HK := Lib.hid (And.intro hN (And.intro hx (And.intro hl (And.intro hge hgb))))
  clear hpush h hN hx hl hge hgb
  go_enter Try.func19, Try.ntmps19
  go_wp2_with fail
  refine HP.out.mono ?_
  rintro e w1 ⟨rfl, v1, p1, p2, p3⟩
  obtain ⟨b, cap, rfl, _⟩ := p1.form (by simp)
  have hlen : (xs ++ [x]).length = xs.length + 1 := by simp
  have P1 := Lib.hid p1
  have P2 := Lib.hid p2
  have P3 := Lib.hid p3
  have hc0 := p1.c0
  rw [hlen] at hc0
  have HC := Lib.hid hc0
  clear p1 p2 p3 hc0
  have HLN := Lib.hid hlen
  clear hlen
  go_wp2_with fail
  refine (len_any g _ _ _ w1 HC.out).mono ?_
  rintro e w2 ⟨rfl, rfl⟩
  go_wp2_with fail
  obtain ⟨hN, hx, hl, hge, hgb⟩ := HK.out
  have hup := up_any base g A d w1 _ (xs ++ [x]) ns P1.out (hN.keep P2.out (fun k hk => by rcases hk with hk | hk; omega; exact (hge k hk.symm).1)) hx xs.length (by simp) (by rw [HLN.out]; exact hl)
  refine hup.mono ?_
  rintro e w3 ⟨rfl, q1, q2⟩
  have Q1 := Lib.hid q1
  have Q2 := Lib.hid q2
  clear q1 q2 hup hN hx hl hge hgb
  go_wp2_with fail
  go_end0
  refine ⟨rfl, _, Q1.out, P2.out.trans Q2.out (fun k hk => ?_), P3.out⟩
  rcases P3.out with h | ⟨b', h, hb⟩
  · exact .inl (.inr (hk.trans h))
  · exact .inr (by rw [h] at hk; injection hk with hk; omega)

theorem downF_mem (lt : Nat → Nat → Bool) (n k : Nat) : ∀ (xs : List Nat) (i : Nat), n ≤ xs.length → i < xs.length → ∀ y, y ∈ downF lt n k xs i → y ∈ xs := by
  induction k with
  | zero => intro xs i _ _ y h; exact h
  | succ k ih =>
    intro xs i hn hi y h
    simp only [downF] at h
    split at h
    · exact h
    · rename_i hc
      split at h
      · rename_i hc2
        split at h
        · exact swp_mem hi (by omega) (ih _ _ (by rw [swp_length]; exact hn) (by rw [swp_length]; omega) y h)
        · exact h
      · split at h
        · exact swp_mem hi (by omega) (ih _ _ (by rw [swp_length]; exact hn) (by rw [swp_length]; omega) y h)
        · exact h

set_option maxHeartbeats 4000000 in
set_option maxRecDepth 1000000 in
theorem hpop_any (base g : Nat) (A : Option Addr) (d : Nat) (w : World) (v : Value) (xs : List Nat) (n : Nat) (ns : List ByteArray) (h : RS base g A ns.length d w v xs) (hN : NS w A ns base) (hx : ∀ y ∈ xs, y < ns.length) (hn : xs.length = n + 1) (hl : n + 1 ≤ 1000) (hgb : base ≤ g) :
    Calls Try.prog 21 #[.iface 42 (.pointer (some ⟨g, 0, none⟩))] w fun e w' => e = .returned (.iface 3 (.int .i64 ((downF (lts ns) n (n + 1) (swp xs 0 n) 0).getD n 0 : Nat))) ∧
      ∃ v', RS base g A ns.length d w' v' ((downF (lts ns) n (n + 1) (swp xs 0 n) 0).take n) ∧ Ch (fun k => k = g ∨ some k = v.ownBlock) w w' ∧ v'.ownBlock = v.ownBlock := by
  have ml := method_len ⟨g, 0, none⟩
  have ms := method_swap ⟨g, 0, none⟩
  have mp := method_pop ⟨g, 0, none⟩
  have hge := h.own.lt
  obtain ⟨b, cap, rfl, _⟩ := h.form (by omega)
  have hc0 := h.c0
  rw [hn] at hc0
  have HC := Lib.hid hc0
  have hsw := swap_rs h 0 n (by omega) (by omega)
  have HS := Lib.hid hsw
  have HK := Lib.hid (And.intro h (And.intro hN (And.intro hx (And.intro hn (And.intro hge hgb)))))
  clear hc0 hsw h hN hx hn hge hgb
  go_enter Try.func21, Try.ntmps21
  go_wp2_with fail
  refine (len_any g _ _ _ w HC.out).mono ?_
  rintro e w1 ⟨rfl, rfl⟩
  go_wp2_with fail
  refine HS.out.mono ?_
  rintro e w1 ⟨rfl, p1, p2⟩
  have P1 := Lib.hid p1
  have P2 := Lib.hid p2
  clear p1 p2
  go_wp2_with fail
  obtain ⟨h, hN, hx, hn, hge, hgb⟩ := HK.out
  have hdn := down_any base g A d w1 _ (swp xs 0 n) ns P1.out (hN.keep P2.out (fun k hk => (hge k hk.symm).1)) (fun y hy => hx y (swp_mem (by omega) (by omega) hy)) n (by rw [swp_length]; omega) (by rw [swp_length]; omega) (by rw [swp_length]; omega)
  refine hdn.mono ?_
  rintro e w2 ⟨bb, rfl, q1, q2⟩
  obtain ⟨ys, hys⟩ : ∃ ys, downF (lts ns) n (n + 1) (swp xs 0 n) 0 = ys := ⟨_, rfl⟩
  have hyl : ys.length = n + 1 := by rw [← hys, downF_length, swp_length, hn]
  rw [hys] at q1
  have hq1 := q1
  rw [snoc_last hyl] at hq1
  have hpop := pop_any base g A ns.length d w2 _ (ys.take n) (ys.getD n 0) hq1 (by simp; omega)
  have HPOP := Lib.hid hpop
  have Q2 := Lib.hid q2
  have HYS := Lib.hid hys
  clear q1 q2 hdn h hN hx hn hge hgb hys hq1 hpop hyl
  go_wp2_with fail
  refine HPOP.out.mono ?_
  rintro e w3 ⟨rfl, v', r1, r2, r3⟩
  have R1 := Lib.hid r1
  have R2 := Lib.hid r2
  have R3 := Lib.hid r3
  clear r1 r2 r3
  go_wp2_with fail
  go_ret
  refine ⟨by rw [HYS.out, List.getD_eq_getElem?_getD]; rfl, v', by rw [HYS.out]; exact R1.out, ?_, R3.out⟩
  exact ((P2.out.trans Q2.out (fun k hk => .inl hk)).mono (fun k hk => .inl (.inr hk))).trans R2.out (fun k hk => .inl (.inl hk))
end Go.Proofs.Ytbpaadigojfkjaa
