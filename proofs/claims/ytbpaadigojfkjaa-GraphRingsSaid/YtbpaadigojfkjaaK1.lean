/- The short name of a number, walked. -/
import Derived.Test.YtbpaadigojfkjaaGs
import Derived.Test.YtbpaadigojfkjaaQ2
import Derived.Laws.IdiomStrings
import Derived.Laws.BytesString
namespace Go.Proofs.Ytbpaadigojfkjaa
open Go.RowKit

theorem word_conv (x : Nat) (hx : x ≤ 100) (w : World) :
    (convert 53 9 (.slice (some ⟨w.heap.size, 0, none⟩) 2 2)).run Try.prog (w.alloc (.cells #[.int .u8 112, .int .u8 (97 + (x : Int))] 5)) = .ok (.string (wd x)) (w.alloc (.cells #[.int .u8 112, .int .u8 (97 + (x : Int))] 5)) := by
  have hb : ((UInt8.ofNat (97 + x)).toNat : Int) = 97 + (x : Int) := by
    rw [UInt8.toNat_ofNat']
    omega
  have h := run_convert_bytes_back (P := Try.prog) (w.alloc (.cells #[.int .u8 112, .int .u8 (97 + (x : Int))] 5)) 53 9 5 ⟨w.heap.size, 0, none⟩ 2 [112, UInt8.ofNat (97 + x)] Try.underlying53 Try.underlying5 Try.underlying9 (fun j hj => by
    rw [add0, cell_blk (heap_alloc_new w _)]
    rcases j with _ | _ | j
    · rfl
    · simp only [List.getElem_cons_succ, List.getElem_cons_zero, hb]; rfl
    · simp at hj; omega)
  exact h
set_option maxHeartbeats 4000000 in
theorem word_any (z : Int) (x : Nat) (hz : z = (x : Int)) (hx : x ≤ 100) (w : World) :
    Calls Try.prog 14 #[.int .i64 z] w fun e w' => e = .returned (.string (wd x)) ∧ Below w.heap.size w w' := by
  subst hz
  have hcv := word_conv x hx w
  go_enter Try.func14, Try.ntmps14
  go_wp2_with fail
  go_ret
  exact ⟨rfl, (Below.refl _ _).alloc (Nat.le_refl _) _⟩
end Go.Proofs.Ytbpaadigojfkjaa
