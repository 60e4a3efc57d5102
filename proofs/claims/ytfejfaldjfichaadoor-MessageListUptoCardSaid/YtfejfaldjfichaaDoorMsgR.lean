/- Messages: the reader's small functions. -/
import Derived.Test.YtfejfaldjfichaaDoorMsgH
namespace Go.Proofs.YtfejfaldjfichaaDoor
open Go.RowKit Go.Hp
set_option maxRecDepth 100000

/-- What is known of a response. -/
structure Ans where
  st : Int
  fv : Value
  tv : Value
  ln : Int
  cm : Int
  dn : Bool
def ansL (A : Ans) : List Value := [.int .i64 A.st, A.fv, A.tv, .int .i64 A.ln, .int .i64 A.cm, .bool A.dn]
def rdL (m : ByteArray) (A : Ans) (br : Bool) : List Value := [.string m, .int .i64 A.st, A.fv, A.tv, .int .i64 A.ln, .int .i64 A.cm, .bool A.dn, .bool br]
/-- A reader at block q. -/
def RdB (w : World) (q : Nat) (m : ByteArray) (A : Ans) (br : Bool) : Prop := Bk w q (rdL m A br) 54 ∧ (∃ a n c, A.fv = .slice a n c) ∧ (∃ a n c, A.tv = .slice a n c)
theorem RdB.no {w w' : World} {q : Nat} {m : ByteArray} {A : Ans} {br : Bool} (h : RdB w q m A br) (hf : Fr No w w') : RdB w' q m A br := ⟨h.1.no hf, h.2⟩
theorem RdB.fr {S : Nat → Prop} {w w' : World} {q : Nat} {m : ByteArray} {A : Ans} {br : Bool} (h : RdB w q m A br) (hf : Fr S w w') (hn : ¬ S q) : RdB w' q m A br := ⟨h.1.fr hf hn, h.2⟩

def ans0 : Ans := ⟨0, .slice none 0 0, .slice none 0 0, 0, 0, false⟩
theorem new_calls (m : ByteArray) (w : World) : Calls Tryd.prog 10 #[.string m] w fun e w' => e = .returned (.pointer (some ⟨w.heap.size, 0, none⟩)) ∧ RdB w' w.heap.size m ans0 false ∧ Fr No w w' := by
  go_enter Tryd.func10, Tryd.ntmps10
  go_wp2
  go_ret
  exact ⟨rfl, ⟨Bk.new w (rdL m ans0 false) _, ⟨_, _, _, rfl⟩, ⟨_, _, _, rfl⟩⟩, (Fr.refl No w).alloc _⟩

theorem rnil : ∀ (w : World) (a : Addr), (binOp .eql 25 (.pointer (some a)) (.pointer none)).run Tryd.prog w = .ok (.bool false) w := fun _ _ => by kernel_rfl
theorem rnil2 : ∀ (w : World) (a : Addr), (binOp .neq 25 (.pointer (some a)) (.pointer none)).run Tryd.prog w = .ok (.bool true) w := fun _ _ => by kernel_rfl

theorem done_calls (q : Nat) (m : ByteArray) (A : Ans) (br : Bool) (w : World) (h : RdB w q m A br) : Calls Tryd.prog 12 #[.pointer (some ⟨q, 0, none⟩)] w fun e w' => e = .returned (.bool A.dn) ∧ w = w' := by
  have d6 : w.cell? ⟨q, 6, none⟩ = some (.bool A.dn) := h.1.cell 6
  have hn := rnil2
  clear h
  go_enter Tryd.func12, Tryd.ntmps12
  go_wp2
  go_ret
  exact ⟨rfl, rfl⟩
theorem status_calls (q : Nat) (m : ByteArray) (A : Ans) (br : Bool) (w : World) (h : RdB w q m A br) : Calls Tryd.prog 20 #[.pointer (some ⟨q, 0, none⟩)] w fun e w' => e = .returned (.int .i64 A.st) ∧ w = w' := by
  have d1 : w.cell? ⟨q, 1, none⟩ = some (.int .i64 A.st) := h.1.cell 1
  have hn := rnil
  clear h
  go_enter Tryd.func20, Tryd.ntmps20
  go_wp2
  go_ret
  exact ⟨rfl, rfl⟩
theorem over_calls (q : Nat) (m : ByteArray) (A : Ans) (br : Bool) (w : World) (h : RdB w q m A br) : Calls Tryd.prog 22 #[.pointer (some ⟨q, 0, none⟩)] w fun e w' => e = .returned (.bool (br || A.dn)) ∧ w = w' := by
  have d6 : w.cell? ⟨q, 6, none⟩ = some (.bool A.dn) := h.1.cell 6
  have d7 : w.cell? ⟨q, 7, none⟩ = some (.bool br) := h.1.cell 7
  have hn := rnil
  clear h
  cases br with
  | true =>
    go_enter Tryd.func22, Tryd.ntmps22
    go_wp2
    go_ret
    exact ⟨rfl, rfl⟩
  | false =>
    go_enter Tryd.func22, Tryd.ntmps22
    go_wp2
    go_ret
    exact ⟨rfl, rfl⟩
/-- May a body be empty, whatever was said? -/
def emptyB (m : ByteArray) (st : Int) : Bool := decide (st = 204) || (decide (st = 304) || m.toList == [72, 69, 65, 68])
theorem empty_calls (q : Nat) (m : ByteArray) (A : Ans) (br : Bool) (st : Int) (w : World) (h : RdB w q m A br) : Calls Tryd.prog 48 #[.pointer (some ⟨q, 0, none⟩), .int .i64 st] w fun e w' => e = .returned (.bool (emptyB m st)) ∧ w = w' := by
  have d0 : w.cell? ⟨q, 0, none⟩ = some (.string m) := h.1.cell 0
  clear h
  go_enter Tryd.func48, Tryd.ntmps48
  go_wp2
  all_goals
    go_ret
    refine ⟨ret_bool ?_, rfl⟩
    unfold emptyB
    simp_all
/-- May a body be so long as it is? -/
def longB (m : ByteArray) (A : Ans) (en : Bool) : Bool :=
  if A.ln < 0 ∨ A.cm = A.ln then true else if A.ln < A.cm then false else (!en || (decide (A.cm = 0) && emptyB m A.st))
set_option maxHeartbeats 1000000 in
theorem long_calls (q : Nat) (m : ByteArray) (A0 A : Ans) (br en : Bool) (w : World) (h : RdB w q m A0 br) (hf : ∃ a n c, A.fv = .slice a n c) (ht : ∃ a n c, A.tv = .slice a n c) :
    Calls Tryd.prog 36 #[.pointer (some ⟨q, 0, none⟩), .agg (ansL A).toArray, .bool en] w fun e w' => e = .returned (.bool (longB m A en)) ∧ Fr No w w' := by
  obtain ⟨fa, fn, fc, hf⟩ := hf
  obtain ⟨ta, tn, tc, ht⟩ := ht
  obtain ⟨st, fv, tv, ln, cm, dn⟩ := A
  simp only at hf ht
  subst hf; subst ht
  have HR := Lib.hid (h.no ((Fr.refl No w).alloc (.cells #[.int .i64 st, .slice fa fn fc, .slice ta tn tc, .int .i64 ln, .int .i64 cm, .bool dn] 52)))
  have HF := Lib.hid ((Fr.refl No w).alloc (.cells #[.int .i64 st, .slice fa fn fc, .slice ta tn tc, .int .i64 ln, .int .i64 cm, .bool dn] 52))
  clear h
  unfold longB ansL
  simp only
  by_cases h1 : ln < 0
  · rw [if_pos (.inl h1)]
    go_enter Tryd.func36, Tryd.ntmps36
    go_wp2
    go_ret
    exact ⟨rfl, HF.out⟩
  · by_cases h2 : cm = ln
    · rw [if_pos (.inr h2)]
      have h2' : (cm == ln) = true := by simpa using h2
      clear h2
      go_enter Tryd.func36, Tryd.ntmps36
      go_wp2
      go_ret
      exact ⟨rfl, HF.out⟩
    · rw [if_neg (fun h => h.elim h1 h2)]
      have h2' : (cm == ln) = false := by simpa using h2
      by_cases h3 : ln < cm
      · rw [if_pos h3]
        go_enter Tryd.func36, Tryd.ntmps36
        go_wp2
        go_ret
        exact ⟨rfl, HF.out⟩
      · rw [if_neg h3]
        cases en with
        | false =>
          go_enter Tryd.func36, Tryd.ntmps36
          go_wp2
          go_ret
          exact ⟨rfl, HF.out⟩
        | true =>
          by_cases h4 : cm = 0
          · have h4' : (cm == 0) = true := by simpa using h4
            have H4 := Lib.hid h4
            have H2 := Lib.hid h2
            clear h4 h2 h2'
            have h2' : (cm == ln) = false := by simpa using H2.out
            go_enter Tryd.func36, Tryd.ntmps36
            go_wp2_with fail
            refine (empty_calls q m A0 br st _ HR.out).mono ?_
            rintro e w' ⟨rfl, rfl⟩
            go_wp2
            go_ret
            exact ⟨ret_bool (by rw [H4.out]; simp), HF.out⟩
          · have h4' : (cm == 0) = false := by simpa using h4
            go_enter Tryd.func36, Tryd.ntmps36
            go_wp2
            go_ret
            exact ⟨ret_bool (by simp), HF.out⟩
end Go.Proofs.YtfejfaldjfichaaDoor
