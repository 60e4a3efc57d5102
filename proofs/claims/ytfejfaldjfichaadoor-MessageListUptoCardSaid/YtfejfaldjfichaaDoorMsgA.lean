/- Messages: which names and values may be. -/
import Derived.Test.YtfejfaldjfichaaDoorBase
import Derived.Test.YtfejfaldjfichaaDoorShelf
namespace Go.Proofs.YtfejfaldjfichaaDoor
open Go.RowKit Go.Hp
set_option maxRecDepth 100000
attribute [local go_sem high] eqF

theorem ret_bool {a b : Bool} (h : a = b) : Ending.returned (.bool a) = .returned (.bool b) := by rw [h]
def letterB (c : Int) : Bool := decide (97 ≤ c ∧ c ≤ 122) || (decide (48 ≤ c ∧ c ≤ 57) || (decide (c = 45) || decide (c = 95)))
set_option maxHeartbeats 1000000 in
theorem letter_calls (c : Int) (w : World) : Calls Tryd.prog 56 #[.int .u8 c] w fun e w' => e = .returned (.bool (letterB c)) ∧ w = w' := by
  go_enter Tryd.func56, Tryd.ntmps56
  go_wp2
  all_goals
    go_ret
    refine ⟨ret_bool ?_, rfl⟩
    unfold letterB
    simp at *
    try omega

/-- A header that may not be there. -/
def forbB (x : El) : Bool := if x.1.toList == [116, 101] then !(x.2.toList == [116, 114, 97, 105, 108, 101, 114, 115]) else (x.1.toList == [99, 111, 110, 110, 101, 99, 116, 105, 111, 110] || (x.1.toList == [116, 114, 97, 110, 115, 102, 101, 114, 45, 101, 110, 99, 111, 100, 105, 110, 103] || (x.1.toList == [117, 112, 103, 114, 97, 100, 101] || x.1.toList == [107, 101, 101, 112, 45, 97, 108, 105, 118, 101])))
set_option maxHeartbeats 1000000 in
theorem forb_calls (x0 x1 : ByteArray) (w : World) : Calls Tryd.prog 46 #[.agg #[.string x0, .string x1]] w fun e w' => e = .returned (.bool (forbB (x0, x1))) ∧ Fr No w w' := by
  go_enter Tryd.func46, Tryd.ntmps46
  go_wp2
  all_goals
    go_ret
    refine ⟨ret_bool ?_, (Fr.refl No w).alloc _⟩
    unfold forbB
    simp_all
end Go.Proofs.YtfejfaldjfichaaDoor
