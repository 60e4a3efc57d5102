/- The tables: New, Resize. -/
import Derived.Test.YtofdfmbbnchcoaaTab7
namespace Go.Proofs.Ytofdfmbbnchcoaa
open Go.RowKit Go.Hp
set_option maxRecDepth 100000

theorem may_calls (size : Int) (w : World) : Calls Try.prog 23 #[.int .i64 size] w fun e w' => e = .returned (.bool (decide (0 ≤ size ∧ size ≤ 512))) ∧ w = w' := by
  by_cases h1 : 0 ≤ size
  · by_cases h2 : size ≤ 512
    · have hd : decide (0 ≤ size ∧ size ≤ 512) = true := by simpa using ⟨h1, h2⟩
      rw [hd]
      clear hd
      go_enter Try.func23, Try.ntmps23
      go_wp2
      go_ret
      exact ⟨rfl, rfl⟩
    · have hd : decide (0 ≤ size ∧ size ≤ 512) = false := by simpa using fun _ => by omega
      rw [hd]
      clear hd
      go_enter Try.func23, Try.ntmps23
      go_wp2
      go_ret
      exact ⟨rfl, rfl⟩
  · have hd : decide (0 ≤ size ∧ size ≤ 512) = false := by simpa using fun h => absurd h h1
    rw [hd]
    clear hd
    go_enter Try.func23, Try.ntmps23
    go_wp2
    go_ret
    exact ⟨rfl, rfl⟩

theorem new_none (size : Int) (w : World) (h : ¬ (0 ≤ size ∧ size ≤ 512)) : Calls Try.prog 5 #[.int .i64 size] w fun e w' => e = .returned (.pointer none) ∧ w = w' := by
  have HM := Lib.hid (may_calls size w)
  rw [show decide (0 ≤ size ∧ size ≤ 512) = false from by simpa using h] at HM
  go_enter Try.func5, Try.ntmps5
  go_wp2_with fail
  refine HM.out.mono ?_
  rintro e w' ⟨rfl, rfl⟩
  go_wp2
  go_ret
  exact ⟨rfl, rfl⟩
def NewT (w : World) (size : Int) (e : Ending) (w' : World) : Prop := ∃ q, e = .returned (.pointer (some ⟨q, 0, none⟩)) ∧ w.heap.size ≤ q ∧ TAt w' q none [] size ∧ Fr No w w'
theorem new_calls (size : Int) (w : World) (h : 0 ≤ size ∧ size ≤ 512) : Calls Try.prog 5 #[.int .i64 size] w (NewT w size) := by
  have HM := Lib.hid (may_calls size w)
  rw [show decide (0 ≤ size ∧ size ≤ 512) = true from by simpa using h] at HM
  go_enter Try.func5, Try.ntmps5
  go_wp2_with fail
  refine HM.out.mono ?_
  rintro e w' ⟨rfl, rfl⟩
  go_wp2
  go_ret
  exact ⟨w.heap.size, rfl, Nat.le_refl _, ⟨none, 0, Bk.new w [.slice none 0 0, .int .i64 size, .int .i64 0] _, Row.nil _ _ _⟩, (Fr.refl No w).alloc _⟩

theorem resize_nil (size : Int) (w : World) : Calls Try.prog 8 #[.pointer none, .int .i64 size] w fun e w' => e = .returned (.bool false) ∧ w = w' := by
  go_enter Try.func8, Try.ntmps8
  go_wp2
  go_ret
  exact ⟨rfl, rfl⟩
theorem resize_not (q : Nat) (size : Int) (w : World) (h : ¬ (0 ≤ size ∧ size ≤ 512)) : Calls Try.prog 8 #[.pointer (some ⟨q, 0, none⟩), .int .i64 size] w fun e w' => e = .returned (.bool false) ∧ w = w' := by
  have HM := Lib.hid (may_calls size w)
  rw [show decide (0 ≤ size ∧ size ≤ 512) = false from by simpa using h] at HM
  go_enter Try.func8, Try.ntmps8
  go_wp2_with fail
  refine HM.out.mono ?_
  rintro e w' ⟨rfl, rfl⟩
  go_wp2
  go_ret
  exact ⟨rfl, rfl⟩
theorem resize_calls (q : Nat) (r : Option Nat) (l : List El) (size size2 : Int) (w : World) (h0 : TAt w q r l size) (hs : ∀ x ∈ l, costE x ≤ 1000) (hl : l.length ≤ 1000) (h : 0 ≤ size2 ∧ size2 ≤ 512) :
    Calls Try.prog 8 #[.pointer (some ⟨q, 0, none⟩), .int .i64 size2] w fun e w' => e = .returned (.bool true) ∧ ∃ j, IsFit l size2 j ∧ TAt w' q r (l.take j) size2 ∧ Fr (fun b => b = q) w w' := by
  have HM := Lib.hid (may_calls size2 w)
  rw [show decide (0 ≤ size2 ∧ size2 ≤ 512) = true from by simpa using h] at HM
  obtain ⟨a, c, hb, hr⟩ := h0
  have c1 : w.cell? ⟨q, 1, none⟩ = some (.int .i64 size) := hb.cell 1
  have f1 : w.frozen? ⟨q, 1, none⟩ = false := hb.frozen 1
  have hF : Fr (fun b => b = q) w (w.setCell ⟨q, 1, none⟩ (.int .i64 size2)) := (Fr.refl (fun b => b = q) w).setCell (a := ⟨q, 1, none⟩) (.inl rfl) _
  have HF := Lib.hid hF
  have ht : TAt (w.setCell ⟨q, 1, none⟩ (.int .i64 size2)) q r l size2 := ⟨a, c, hb.set 1 _, hr.fr hF (fun b hb' e => by subst e; exact row_nebk hr hb (by decide) hb')⟩
  have HS := Lib.hid (shrink_calls q r l size2 size2 _ ht hs hl)
  clear hb hr hF ht
  go_enter Try.func8, Try.ntmps8
  go_wp2_with fail
  refine HM.out.mono ?_
  rintro e w' ⟨rfl, rfl⟩
  go_wp2_with fail
  refine HS.out.mono ?_
  rintro e w' ⟨rfl, j, hj, ht, hf⟩
  go_wp2
  go_ret
  exact ⟨rfl, j, hj, ht, HF.out.trans hf (fun _ _ h => h)⟩

theorem rresize_not (q : Nat) (size : Int) (w : World) (h : ¬ (0 ≤ size ∧ size ≤ 512)) : Calls Try.prog 13 #[.pointer (some ⟨q, 0, none⟩), .int .i64 size] w fun e w' => e = .returned (.bool false) ∧ w = w' := by
  by_cases h1 : size < 0
  · go_enter Try.func13, Try.ntmps13
    go_wp2
    go_ret
    exact ⟨rfl, rfl⟩
  · have h2 : 512 < size := by omega
    go_enter Try.func13, Try.ntmps13
    go_wp2
    go_ret
    exact ⟨rfl, rfl⟩
theorem rresize_calls (q : Nat) (r : Option Nat) (l : List El) (size size2 : Int) (w : World) (h0 : RAt w q r l size) (hs : ∀ x ∈ l, costE x ≤ 1000) (hl : l.length ≤ 1000) (h : 0 ≤ size2 ∧ size2 ≤ 512) :
    Calls Try.prog 13 #[.pointer (some ⟨q, 0, none⟩), .int .i64 size2] w fun e w' => e = .returned (.bool true) ∧ ∃ j, IsFit l size2 j ∧ RAt w' q r (l.take j) size2 ∧ Fr (fun b => b = q) w w' := by
  obtain ⟨a, c, hb, hr⟩ := h0
  have c1 : w.cell? ⟨q, 0, none⟩ = some (.int .i64 size) := hb.cell 0
  have f1 : w.frozen? ⟨q, 0, none⟩ = false := hb.frozen 0
  have hF : Fr (fun b => b = q) w (w.setCell ⟨q, 0, none⟩ (.int .i64 size2)) := (Fr.refl (fun b => b = q) w).setCell (a := ⟨q, 0, none⟩) (.inl rfl) _
  have HF := Lib.hid hF
  have ht : RAt (w.setCell ⟨q, 0, none⟩ (.int .i64 size2)) q r l size2 := ⟨a, c, hb.set 0 _, hr.fr hF (fun b hb' e => by subst e; exact row_nebk hr hb (by decide) hb')⟩
  have hsh := rshrink_calls q r l size2 0 _ ht hs hl (by omega) (by omega)
  rw [Int.sub_zero] at hsh
  have HS := Lib.hid hsh
  have h1 : 0 ≤ size2 := h.1
  have h2 : size2 ≤ 512 := h.2
  clear hb hr hF ht hsh h
  go_enter Try.func13, Try.ntmps13
  go_wp2_with fail
  refine HS.out.mono ?_
  rintro e w' ⟨rfl, j, hj, ht, hf⟩
  go_wp2
  go_ret
  exact ⟨rfl, j, hj, ht, HF.out.trans hf (fun _ _ h => h)⟩
end Go.Proofs.Ytofdfmbbnchcoaa
