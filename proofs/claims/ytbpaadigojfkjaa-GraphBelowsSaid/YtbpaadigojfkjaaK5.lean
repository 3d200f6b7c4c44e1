/- slices.Backward over a row of numbers: what its iterator hands on. -/
import Derived.Test.YtbpaadigojfkjaaK4
import Derived.RangeFuncNested
import Derived.RangeFuncBound
import Derived.RangeFuncCalls
import Derived.RangeFuncLeaves
import Derived.Shelf.Abstract
import Derived.Shelf.RegionOpen
import Derived.OwnWalkIn
import Derived.TacticsInMore
import Derived.LoopNIn
import Derived.LoopIn
namespace Go.Proofs.Ytbpaadigojfkjaa
open Go.RowKit Go.Shelf

attribute [local go_sem] Oper.semAt_some

/-- Of what lay below n, only block b may have turned. -/
def Kq (n b : Nat) (A B : World) : Prop := ∀ k, k < n → k ≠ b → B.heap[k]? = A.heap[k]?
theorem kq_t {n b : Nat} {A B C : World} (h : Kq n b A B) (k : Kq n b B C) : Kq n b A C := fun i hi hb => (k i hi hb).trans (h i hi hb)
theorem kq_b {n b : Nat} {w : World} (hn : n ≤ w.heap.size) (W : World) (l : Nat) (o o' : Obj) (hl : w.heap.size ≤ l) (_ : W.heap[l]? = some o) (_ : o.isCells = false) (_ : o.isWalk = false) : Kq n b W (W.putObj l o') := fun k hk _ => World.putObj_heap_other (by omega)
theorem Kq.cell {n b : Nat} {A B : World} (h : Kq n b A B) {p : Addr} (hp : p.block < n) (hne : p.block ≠ b) : B.cell? p = A.cell? p := World.cell?_of_block (h _ hp hne)

theorem rev_take {xs : List Nat} {k : Nat} (hk : k < xs.length) : xs.reverse.take (k + 1) = xs.reverse.take k ++ [xs.getD (xs.length - 1 - k) 0] := by
  rw [List.take_succ_eq_append_getElem (by simpa using hk), List.getElem_reverse]
  congr 2
  rw [List.getD_eq_getElem?_getD, List.getElem?_eq_getElem (by omega)]
  simp

set_option maxRecDepth 100000 in
set_option maxHeartbeats 2000000 in
theorem bw1_in (F : Fence) (n : Nat) (h33 : F.fn 33) (hro : F.round = none) (hn : 1 ≤ n) (l Bs N B : Nat) (p : Option Addr) (cap : Nat) (xs : List Nat) (hx : xs.length ≤ 1000) (hBN : Bs < N) (hBB : Bs ≠ B) (hpb : ∀ ad, p = some ad → ad.block < N ∧ ad.block ≠ B)
    (J Jx : List (Fin xs.length) → World → Prop)
    (hY : ∀ pre x W, J pre W → pre.length < xs.length → YieldAt F (n - 1) Try.prog l #[.int .i64 (x.1 : Int), .int .i64 (xs.getD x.1 0 : Nat)] W fun e W' =>
      (e = .returned (.bool true) ∧ J (pre ++ [x]) W' ∧ Kq N B W W') ∨ (e = .returned (.bool false) ∧ Jx (pre ++ [x]) W'))
    (W : World) (hBs : W.cell? ⟨Bs, 0, none⟩ = some (.slice p xs.length cap)) (hI : IR W p xs) (h0 : J [] W) :
    CallsIn F n Try.prog 33 #[.func (.yield l) #[] #[], .pointer (some ⟨Bs, 0, none⟩)] W fun e W' => (∃ v, e = .returned v) ∧
      ((∃ ys : List (Fin xs.length), ys.map (fun j => xs.getD j.1 0) = xs.reverse ∧ J ys W') ∨ (∃ pre, True ∧ Jx pre W')) := by
  obtain ⟨m, hm⟩ : ∃ m, xs.length = m := ⟨_, rfl⟩
  have HI := Lib.hid hI
  have HM := Lib.hid hm
  have hm1000 : m ≤ 1000 := by omega
  have hBs' : W.cell? ⟨Bs, 0, none⟩ = some (.slice p (m : Nat) cap) := by rw [← hm]; exact hBs
  clear hI hm hBs
  refine callsIn_of_wp Try.func33 rfl h33 ?_ hro
  simp only [Try.ntmps33, List.size_toArray, List.length_cons, List.length_nil, Nat.reduceAdd, Nat.reduceSub, Array.replicate_succ, Array.replicate_zero, List.push_toArray, List.append_toArray, List.nil_append, List.cons_append]
  gi_wp2
  gi_loopw [3] (fun i wr => ∃ (k : Nat) (pre : List (Fin xs.length)), k ≤ m ∧ i = .int .i64 ((m : Int) - 1 - (k : Int)) ∧ Hid (pre.length = k ∧ pre.map (fun j => xs.getD j.1 0) = xs.reverse.take k ∧ J pre wr ∧ Kq N B W wr))
    (fun i _ => (intOf i + 1).toNat)
  case atStart => exact ⟨0, [], Nat.zero_le _, by simp, rfl, rfl, h0, fun _ _ _ => rfl⟩
  case round =>
    obtain ⟨k, pre, hk, rfl, HQ⟩ := hrel
    have hc1 : wr.cell? ⟨Bs, 0, none⟩ = some (.slice p (m : Nat) cap) := (HQ.out.2.2.2.cell (p := ⟨Bs, 0, none⟩) hBN hBB).trans hBs'
    by_cases hlt : k < m
    · obtain ⟨j, hj⟩ : ∃ j, m - 1 - k = j := ⟨_, rfl⟩
      have hjm : j < m := by omega
      have hji : (m : Int) - 1 - (k : Int) = (j : Int) := by omega
      have hji2 : (m : Int) - 1 - ((k + 1 : Nat) : Int) = (j : Int) - 1 := by omega
      rw [hji]
      obtain ⟨hpl, hpm, hJ, hkq⟩ := HQ.out
      obtain ⟨ad, rfl, hca⟩ := HI.out j (by rw [HM.out]; exact hjm)
      have hb := World.block_lt_of_cell? W _ hca
      have hab : (ad.add j).block = ad.block := by unfold Addr.add; split <;> rfl
      have hcr := (hkq.cell (p := ad.add j) (by rw [hab]; exact (hpb ad rfl).1) (by rw [hab]; exact (hpb ad rfl).2)).trans hca
      obtain ⟨y, hy⟩ : ∃ y, xs.getD j 0 = y := ⟨_, rfl⟩
      obtain ⟨fn, tmps, assign, body, hyy, hR⟩ := hY pre ⟨j, by rw [HM.out]; exact hjm⟩ wr hJ (by have := HM.out; omega)
      dsimp only at hyy
      rw [hy] at hcr hyy
      have HR := Lib.hid hR
      have HY := Lib.hid hy
      have HJ2 := Lib.hid hji2
      have HJJ := Lib.hid hj
      have HKQ := Lib.hid hkq
      have HPL := Lib.hid hpl
      have HPM := Lib.hid hpm
      clear hy hb hab hca hJ hkq hpl hpm hji2 hR hji hj HQ
      gi_wp2
      refine HR.out.mono ?_
      rintro e W3 (⟨rfl, hJ3, hk3⟩ | ⟨rfl, hJx3⟩)
      · have HJ3 := Lib.hid hJ3
        have HK3 := Lib.hid (kq_t HKQ.out hk3)
        clear hJ3 hk3
        gi_wp2
        go_roundw
        case rel =>
          refine ⟨k + 1, pre ++ [⟨j, by rw [HM.out]; exact hjm⟩], by omega, by rw [HJ2.out], ?_, ?_, HJ3.out, HK3.out⟩
          · rw [List.length_append, HPL.out]; rfl
          · have e : xs.length - 1 - k = j := by rw [HM.out]; exact HJJ.out
            rw [rev_take (by rw [HM.out]; exact hlt), List.map_append, HPM.out, e]
            rfl
        case measure => simp [intOf]
      · have HJX := Lib.hid hJx3
        clear hJx3
        gi_wp2
        refine bodyPost_ret (results_none rfl _ _ _) rfl ?_
        exact ⟨⟨_, rfl⟩, .inr ⟨_, trivial, HJX.out⟩⟩
    · have hkm : k = m := by omega
      obtain ⟨hpl, hpm, hJ, hkq⟩ := HQ.out
      have hfin : pre.map (fun j => xs.getD j.1 0) = xs.reverse := by rw [hpm, List.take_of_length_le (by have := HM.out; simp; omega)]
      have HF := Lib.hid hfin
      have HJ := Lib.hid hJ
      have hz : (m : Int) - 1 - (k : Int) = -1 := by omega
      rw [hz]
      clear hpl hpm hJ hkq hfin hz HQ
      gi_wp2
      go_end0
      exact ⟨⟨_, rfl⟩, .inl ⟨pre, HF.out, HJ.out⟩⟩

set_option maxHeartbeats 1000000 in
/-- slices.Backward: the slice's value is boxed. -/
theorem backward_in (F : Fence) (n : Nat) (h26 : F.fn 26) (hro : F.round = none) (a : Option Addr) (len cap : Nat) (w : World) :
    CallsIn F n Try.prog 26 #[.slice a len cap] w fun e w' => e = .returned (.func (.func 33) #[] #[.pointer (some ⟨w.heap.size, 0, none⟩)]) ∧ w' = w.alloc (.cells #[.slice a len cap] 26) := by
  refine callsIn_of_wp Try.func26 rfl h26 ?_ hro
  simp only [Try.ntmps26, List.size_toArray, List.length_cons, List.length_nil, Nat.reduceAdd, Nat.reduceSub, Array.replicate_succ, Array.replicate_zero, List.push_toArray, List.append_toArray, List.nil_append, List.cons_append]
  gi_wp2
  go_ret
  exact ⟨rfl, rfl⟩
/-- What Backward hands back goes over the row from its end. -/
theorem bw_stops (F : Fence) (n : Nat) (h33 : F.fn 33) (hro : F.round = none) (hn : 1 ≤ n) (Bs N B : Nat) (p : Option Addr) (cap : Nat) (xs : List Nat) (hx : xs.length ≤ 1000) (hBN : Bs < N) (hBB : Bs ≠ B) (hpb : ∀ ad, p = some ad → ad.block < N ∧ ad.block ≠ B)
    (w : World) (hBs : w.cell? ⟨Bs, 0, none⟩ = some (.slice p xs.length cap)) (hI : IR w p xs) :
    SeqStopsK F n Try.prog 33 #[.pointer (some ⟨Bs, 0, none⟩)] (fun x : Fin xs.length => #[.int .i64 (x.1 : Int), .int .i64 (xs.getD x.1 0 : Nat)]) (Kq N B) (fun ys => ys.map (fun j => xs.getD j.1 0) = xs.reverse) (fun _ => True) xs.length w := fun l J Jx W hW _ _ hY h0 => by
  exact bw1_in F n h33 hro hn l Bs N B p cap xs hx hBN hBB hpb J Jx hY W ((hW.cell (World.block_lt_of_cell? w _ hBs)).trans hBs) (hI.below hW) h0
end Go.Proofs.Ytbpaadigojfkjaa
