/- The methods of the graph's heap (Len, Less, Swap) walked, each over the cells that it reads. -/
import Derived.Test.YtbpaadigojfkjaaProg
import Derived.WalkKit
import Derived.WalkSpells
import Derived.WalkLawsBesides
import Derived.Lib.Hide
import Derived.Deep.LoopGhost
import Derived.Deep.QuietTactic
import Derived.StillTailTactics
import Derived.BigRegion
import Derived.BigQuiet
namespace Go.Proofs.Ytbpaadigojfkjaa
open Go.RowKit

/-- 'Len': the length of the field. -/
theorem len_any (g : Nat) (a : Option Addr) (n c : Nat) (w : World) (h0 : w.cell? ⟨g, 0, none⟩ = some (.slice a n c)) :
    Calls Try.prog 20 #[.pointer (some ⟨g, 0, none⟩)] w fun e w' => e = .returned (.int .i64 n) ∧ w = w' := by
  go_enter Try.func20, Try.ntmps20
  go_wp2
  go_ret
  exact ⟨rfl, rfl⟩

set_option maxHeartbeats 4000000 in
set_option maxRecDepth 1000000 in
/-- 'Less': the names of two places of the field, held against each other. -/
theorem less_any (g b : Nat) (n c : Nat) (a : Addr) (m d : Nat) (i j x y : Nat) (s t : ByteArray) (w : World)
    (h0 : w.cell? ⟨g, 0, none⟩ = some (.slice (some ⟨b, 0, none⟩) n c)) (h1 : w.cell? ⟨g, 1, none⟩ = some (.slice (some a) m d))
    (hi : i < n) (hj : j < n) (hx : x < m) (hy : y < m)
    (ci : w.cell? ⟨b, i, none⟩ = some (.int .i64 x)) (cj : w.cell? ⟨b, j, none⟩ = some (.int .i64 y))
    (sx : w.cell? (a.add x) = some (.string s)) (sy : w.cell? (a.add y) = some (.string t)) :
    Calls Try.prog 70 #[.pointer (some ⟨g, 0, none⟩), .int .i64 i, .int .i64 j] w fun e w' => e = .returned (.bool (Op.bytesLess s.toList t.toList)) ∧ ∃ q, w' = w.drewN q := by
  go_enter Try.func70, Try.ntmps70
  go_wp2_with fail
  go_quiet (fail)
  go_wp2
  go_ret
  exact ⟨rfl, _, rfl⟩

set_option maxHeartbeats 8000000 in
set_option maxRecDepth 1000000 in
/-- 'Swap': two cells of the field's row. -/
theorem swap_any (g b : Nat) (n c : Nat) (i j : Nat) (x y : Int) (w : World)
    (h0 : w.cell? ⟨g, 0, none⟩ = some (.slice (some ⟨b, 0, none⟩) n c)) (hi : i < n) (hj : j < n) 
    (ci : w.cell? ⟨b, i, none⟩ = some (.int .i64 x)) (cj : w.cell? ⟨b, j, none⟩ = some (.int .i64 y))
    (fi : w.frozen? ⟨b, i, none⟩ = false) (fj : w.frozen? ⟨b, j, none⟩ = false) :
    Calls Try.prog 73 #[.pointer (some ⟨g, 0, none⟩), .int .i64 i, .int .i64 j] w fun e w' => e = .returned (.tuple #[]) ∧
      ∃ q, w' = ((w.setCell ⟨b, i, none⟩ (.int .i64 y)).setCell ⟨b, j, none⟩ (.int .i64 x)).drewN q := by
  obtain ⟨v', hy'⟩ := cell?_setCell_some (w := w) (p := ⟨b, i, none⟩) (x := .int .i64 y) (q := ⟨b, j, none⟩) (v := .int .i64 y) cj
  go_enter Try.func73, Try.ntmps73
  go_wp2_with fail
  go_region
  go_wp2
  go_end0
  exact ⟨rfl, _, rfl⟩
end Go.Proofs.Ytbpaadigojfkjaa
