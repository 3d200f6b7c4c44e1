/- Pop of the graph's heap walked. -/
import Derived.Test.YtbpaadigojfkjaaGb
namespace Go.Proofs.Ytbpaadigojfkjaa
open Go.RowKit

theorem own_of_heap {w w1 : World} {base : Nat} {e : TypeId} {size n : Nat} {v : Value} {xs : List Value} (ho : w.ownsRow base e size v n xs) (he : w1.heap = w.heap) : w1.ownsRow base e size v n xs := by
  unfold World.ownsRow at *
  rw [he]; exact ho
theorem RS.of_heap {base g : Nat} {A : Option Addr} {m d : Nat} {w w1 : World} {v : Value} {xs : List Nat} (h : RS base g A m d w v xs) (he : w1.heap = w.heap) : RS base g A m d w1 v xs :=
  ⟨by rw [he]; exact h.blk, own_of_heap h.own he, h.ne⟩
theorem Ch.of_same {S : Nat → Prop} {w w1 w2 : World} (h : Ch S w w1) (he : w2.heap = w1.heap) (h1 : w2.os = w1.os) (h2 : w2.tape = w1.tape) (h3 : w2.output = w1.output) : Ch S w w2 :=
  ⟨h1.trans h.os, h2.trans h.tape, h3.trans h.output, by rw [he]; exact h.size, fun k hk hn => by rw [he]; exact h.block k hk hn⟩

set_option maxHeartbeats 8000000 in
set_option maxRecDepth 1000000 in
/-- 'Pop' of a list that is not empty. -/
theorem pop_any (base g : Nat) (A : Option Addr) (m d : Nat) (w : World) (v : Value) (xs : List Nat) (x : Nat) (h : RS base g A m d w v (xs ++ [x])) (hl : xs.length ≤ 1000) :
    Calls Try.prog 71 #[.pointer (some ⟨g, 0, none⟩)] w fun e w' => e = .returned (.iface 3 (.int .i64 x)) ∧
      ∃ v', RS base g A m d w' v' xs ∧ Ch (fun k => k = g) w w' ∧ v'.ownBlock = v.ownBlock := by
  obtain ⟨b, cap, rfl, hcap, hcx⟩ : ∃ b cap, v = .slice (some ⟨b, 0, none⟩) (xs.length + 1) cap ∧ xs.length + 1 ≤ cap ∧ w.cell? ⟨b, xs.length, none⟩ = some (.int .i64 x) := by
    rcases h.own.2 with ⟨_, h0⟩ | ⟨g', cap', cur, he, hb, hh, h1, h2, h3, h4⟩
    · simp at h0
    · refine ⟨g', cap', by rw [he]; simp, by simp at h1; omega, ?_⟩
      have := h.own.cells (g := g') (by rw [he]; rfl) xs.length (.int .i64 x) (by simp [vs])
      simpa [Addr.add_lit] using this
  obtain ⟨n, hn⟩ : ∃ n, xs.length = n := ⟨_, rfl⟩
  rw [hn] at h hcap hcx hl
  have c0 := h.c0
  have f0 := h.f0 0
  have HH := Lib.hid h
  have HN := Lib.hid hn
  clear h hn
  have p0 : (0 : Int) ≤ (n : Int) := by omega
  rw [show (Value.slice (some ⟨b, 0, none⟩) (xs.length + 1) cap) = .slice (some ⟨b, 0, none⟩) (n + 1) cap from by rw [HN.out]]
  go_enter Try.func71, Try.ntmps71
  go_wp2_with fail
  go_quiet (fail)
  go_wp2_with fail
  go_region
  go_wp2
  go_ret
  obtain ⟨h1, h2⟩ := pop_end HH.out HN.out
  exact ⟨rfl, _, h1.of_heap rfl, h2.of_same rfl rfl rfl rfl, rfl⟩
end Go.Proofs.Ytbpaadigojfkjaa
