/- The marks of fields: their names. -/
import Derived.Test.YtofdfmbbnchcoaaProg
import Derived.Test.YtofdfmbbnchcoaaHeap2
import Derived.BigQuiet
import Derived.KernelRfl
import Derived.WalkLawsBesides
import Derived.Laws.BytesArg
namespace Go.Proofs.Ytofdfmbbnchcoaa
open Go.RowKit Go.Hp
set_option maxRecDepth 100000
/-- The name of a mark. -/
def nameB (i k : Int) : ByteArray := strOfNums [109, wrap64 (65 + i.tmod 26) % 256, wrap64 (65 + (wrap64 (i.tdiv 26)).tmod 26) % 256, wrap64 (48 + k.tmod 10) % 256, wrap64 (48 + (wrap64 (k.tdiv 10)).tmod 10) % 256, wrap64 (48 + (wrap64 (k.tdiv 100)).tmod 10) % 256]
theorem name_calls (i k : Int) (w : World) :
   Calls Try.prog 67 #[.int .i64 i, .int .i64 k] w (fun e w' => e = .returned (.string (nameB i k)) ∧ Fr No w w') := by
  have hc : ∀ x0 x1 x2 x3 x4 x5 : Int, (convert 92 9 (.slice (some ⟨w.heap.size, 0, none⟩) 6 6)).run Try.prog (w.alloc (.cells #[.int .u8 x0, .int .u8 x1, .int .u8 x2, .int .u8 x3, .int .u8 x4, .int .u8 x5] 5)) =
      .ok (.string (strOfNums [x0, x1, x2, x3, x4, x5])) (w.alloc (.cells #[.int .u8 x0, .int .u8 x1, .int .u8 x2, .int .u8 x3, .int .u8 x4, .int .u8 x5] 5)) := by
    intro x0 x1 x2 x3 x4 x5
    refine run_convert_bytes_arg _ 92 5 Try.underlying92 Try.underlying5 w.heap.size 0 6 6 [x0, x1, x2, x3, x4, x5] rfl (fun i hi => ?_) 9 Try.underlying9
    have hb := Bk.new w [.int .u8 x0, .int .u8 x1, .int .u8 x2, .int .u8 x3, .int .u8 x4, .int .u8 x5] 5
    rw [Nat.zero_add]
    match i, hi with
    | 0, _ => exact hb.cell 0
    | 1, _ => exact hb.cell 1
    | 2, _ => exact hb.cell 2
    | 3, _ => exact hb.cell 3
    | 4, _ => exact hb.cell 4
    | 5, _ => exact hb.cell 5
  go_enter Try.func67, Try.ntmps67
  go_wp2
  go_ret
  exact ⟨rfl, (Fr.refl No w).alloc _⟩
end Go.Proofs.Ytofdfmbbnchcoaa
