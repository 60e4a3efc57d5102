/- The table of headers: what a field costs, and the fields that are always there. -/
import Derived.Test.YtofdfmbbnchcoaaInsert2
namespace Go.Proofs.Ytofdfmbbnchcoaa
open Go.RowKit Go.Hp
set_option maxRecDepth 100000
attribute [local go_sem high] eqF

def costE (x : El) : Int := (x.1.size : Int) + (x.2.size : Int) + 32
def vE (x : El) : Value := .agg #[.string x.1, .string x.2]

theorem cost_calls (x y : ByteArray) (w : World) (hx : x.size ≤ 140737488355328) (hy : y.size ≤ 140737488355328) :
    Calls Try.prog 20 #[.agg #[.string x, .string y]] w fun e w' => e = .returned (.int .i64 (costE (x, y))) ∧ Fr No w w' := by
  have h1 : IntKind.i64.wrap ((x.size : Int) + (y.size : Int)) = (x.size : Int) + (y.size : Int) := by apply IntWalk.i64_in; omega
  have h2 : IntKind.i64.wrap ((x.size : Int) + (y.size : Int) + 32) = (x.size : Int) + (y.size : Int) + 32 := by apply IntWalk.i64_in; omega
  go_enter Try.func20, Try.ntmps20
  go_wp2
  go_ret
  exact ⟨rfl, (Fr.refl No w).alloc _⟩
theorem cost_ref_calls (x y : ByteArray) (w : World) (hx : x.size ≤ 140737488355328) (hy : y.size ≤ 140737488355328) :
    Calls Try.prog 21 #[.agg #[.string x, .string y]] w fun e w' => e = .returned (.int .i64 (costE (x, y))) ∧ Fr No w w' := by
  have h1 : IntKind.i64.wrap ((x.size : Int) + (y.size : Int)) = (x.size : Int) + (y.size : Int) := by apply IntWalk.i64_in; omega
  have h2 : IntKind.i64.wrap ((x.size : Int) + (y.size : Int) + 32) = (x.size : Int) + (y.size : Int) + 32 := by apply IntWalk.i64_in; omega
  go_enter Try.func21, Try.ntmps21
  go_wp2
  go_ret
  exact ⟨rfl, (Fr.refl No w).alloc _⟩

/-- The fields that are always there. -/
def fixedL : List El := [
  (⟨#[58, 97, 117, 116, 104, 111, 114, 105, 116, 121]⟩, ⟨#[]⟩),
  (⟨#[58, 109, 101, 116, 104, 111, 100]⟩, ⟨#[71, 69, 84]⟩),
  (⟨#[58, 109, 101, 116, 104, 111, 100]⟩, ⟨#[80, 79, 83, 84]⟩),
  (⟨#[58, 112, 97, 116, 104]⟩, ⟨#[47]⟩),
  (⟨#[58, 115, 99, 104, 101, 109, 101]⟩, ⟨#[104, 116, 116, 112]⟩),
  (⟨#[58, 115, 99, 104, 101, 109, 101]⟩, ⟨#[104, 116, 116, 112, 115]⟩),
  (⟨#[58, 115, 116, 97, 116, 117, 115]⟩, ⟨#[50, 48, 48]⟩),
  (⟨#[58, 115, 116, 97, 116, 117, 115]⟩, ⟨#[50, 48, 52]⟩),
  (⟨#[58, 115, 116, 97, 116, 117, 115]⟩, ⟨#[52, 48, 52]⟩),
  (⟨#[58, 115, 116, 97, 116, 117, 115]⟩, ⟨#[53, 48, 48]⟩),
  (⟨#[97, 99, 99, 101, 112, 116]⟩, ⟨#[]⟩),
  (⟨#[99, 111, 110, 116, 101, 110, 116, 45, 108, 101, 110, 103, 116, 104]⟩, ⟨#[]⟩),
  (⟨#[99, 111, 110, 116, 101, 110, 116, 45, 116, 121, 112, 101]⟩, ⟨#[]⟩),
  (⟨#[99, 111, 111, 107, 105, 101]⟩, ⟨#[]⟩),
  (⟨#[100, 97, 116, 101]⟩, ⟨#[]⟩),
  (⟨#[117, 115, 101, 114, 45, 97, 103, 101, 110, 116]⟩, ⟨#[]⟩)]
theorem always_calls (w : World) : Calls Try.prog 56 #[] w (Fresh w 16 fixedL) := by
  go_enter Try.func56, Try.ntmps56
  go_wp2
  go_ret
  exact ⟨_, 16, some w.heap.size, rfl, ⟨rfl, Nat.le_refl _, by omega, (fun h => by cases h), .inr ⟨w.heap.size, 0, cells fixedL, rfl, rfl, Bk.new w (cells fixedL) _, by rw [cells_len]; decide, by rw [List.drop_zero]; rfl⟩⟩, (fun k hk => by injection hk with hk; omega), (Fr.refl No w).alloc _⟩
theorem fixed_calls (w : World) : Calls Try.prog 29 #[] w (Fresh w 16 fixedL) := by
  go_enter Try.func29, Try.ntmps29
  go_wp2
  go_ret
  exact ⟨_, 16, some w.heap.size, rfl, ⟨rfl, Nat.le_refl _, by omega, (fun h => by cases h), .inr ⟨w.heap.size, 0, cells fixedL, rfl, rfl, Bk.new w (cells fixedL) _, by rw [cells_len]; decide, by rw [List.drop_zero]; rfl⟩⟩, (fun k hk => by injection hk with hk; omega), (Fr.refl No w).alloc _⟩
end Go.Proofs.Ytofdfmbbnchcoaa
