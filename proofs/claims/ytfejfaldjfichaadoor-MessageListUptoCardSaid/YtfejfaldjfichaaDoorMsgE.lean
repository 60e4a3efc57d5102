/- Messages: a length that is said. -/
import Derived.Test.YtfejfaldjfichaaDoorMsgD
namespace Go.Proofs.YtfejfaldjfichaaDoor
open Go.RowKit Go.Hp
set_option maxRecDepth 100000

/-- Texts are no longer than texts may be. -/
def SzOK (xs : List El) : Prop := ∀ x ∈ xs, x.1.size ≤ 9223372036854775807 ∧ x.2.size ≤ 9223372036854775807
abbrev clN : ByteArray := ⟨#[99, 111, 110, 116, 101, 110, 116, 45, 108, 101, 110, 103, 116, 104]⟩
abbrev stN : ByteArray := ⟨#[58, 115, 116, 97, 116, 117, 115]⟩
theorem getF_mem {name v : ByteArray} {l : List El} (h : getF name l = some v) : ∃ x ∈ l, x.2 = v := by
  unfold getF at h
  rw [Option.map_eq_some_iff] at h
  obtain ⟨x, hx, hv⟩ := h
  exact ⟨x, List.mem_of_find?_eq_some hx, hv⟩
/-- How long a body is to be; an error. -/
def lengthF (l : List El) : Int × Int :=
  match getF clN l with
  | none => (-1, 0)
  | some s => if l.any (otherB s) || (!(dgOK s) || decide ((9 : Int) < s.size)) then (-1, 3) else (((decV s.data.toList 0 : Nat) : Int), 0)

set_option maxHeartbeats 1000000 in
theorem length_calls (a : Option Addr) (n c : Nat) (xs : List El) (w : World) (hx : Rd w 2 a n c (cells xs)) (hsz : SzOK xs) :
    Calls Tryd.prog 31 #[.slice a n c] w fun e w' => e = .returned (.tuple #[.int .i64 (lengthF xs).1, .int .i64 (lengthF xs).2]) ∧ Fr No w w' := by
  have HX := Lib.hid hx
  clear hx
  have hG := get_calls clN a n c xs w HX.out
  cases hg : getF clN xs with
  | none =>
    have hl : lengthF xs = (-1, 0) := by unfold lengthF; rw [hg]
    rw [hl]
    rw [hg] at hG
    have HG := Lib.hid hG
    clear hG hl hg
    go_enter Tryd.func31, Tryd.ntmps31
    go_wp2_with fail
    refine HG.out.mono ?_
    rintro e w1 ⟨rfl, hf1⟩
    go_wp2
    go_ret2
    exact ⟨rfl, hf1.alloc _⟩
  | some s =>
    rw [hg] at hG
    have hss : s.size ≤ 9223372036854775807 := by
      obtain ⟨x, hx, rfl⟩ := getF_mem hg
      exact (hsz x hx).2
    have HG := Lib.hid hG
    have hl : lengthF xs = if xs.any (otherB s) || (!(dgOK s) || decide ((9 : Int) < s.size)) then (-1, 3) else (((decV s.data.toList 0 : Nat) : Int), 0) := by unfold lengthF; rw [hg]
    obtain ⟨v, hv⟩ : ∃ v, lengthF xs = v := ⟨_, rfl⟩
    rw [hv] at hl ⊢
    clear hG hg hv
    cases ho : xs.any (otherB s) with
    | true =>
      rw [ho] at hl
      have hl : v = (-1, 3) := hl
      subst hl
      have HOT := Lib.hid ho
      clear ho
      go_enter Tryd.func31, Tryd.ntmps31
      go_wp2_with fail
      refine HG.out.mono ?_
      rintro e w1 ⟨rfl, hf1⟩
      have HB1 := Lib.hid (Bk.new w1 [.string s] 9)
      have HF1 := Lib.hid (hf1.alloc (.cells #[.string s] 9))
      clear hf1
      go_wp2_with fail
      refine (contains_other_calls a n c s w1.heap.size xs _ (HX.out.no HF1.out) HB1.out).mono ?_
      rintro e w2 ⟨rfl, hf2⟩
      rw [HOT.out]
      have HF2 := Lib.hid (HF1.out.then_ hf2)
      clear hf2
      go_wp2
      go_ret2
      exact ⟨rfl, HF2.out⟩
    | false =>
      rw [ho] at hl
      have HOT := Lib.hid ho
      clear ho
      cases hd : dgOK s with
      | false =>
        rw [hd] at hl
        have hl : v = (-1, 3) := hl
        subst hl
        have HDG := Lib.hid hd
        clear hd
        go_enter Tryd.func31, Tryd.ntmps31
        go_wp2_with fail
        refine HG.out.mono ?_
        rintro e w1 ⟨rfl, hf1⟩
        have HB1 := Lib.hid (Bk.new w1 [.string s] 9)
        have HF1 := Lib.hid (hf1.alloc (.cells #[.string s] 9))
        clear hf1
        go_wp2_with fail
        refine (contains_other_calls a n c s w1.heap.size xs _ (HX.out.no HF1.out) HB1.out).mono ?_
        rintro e w2 ⟨rfl, hf2⟩
        rw [HOT.out]
        have HF2 := Lib.hid (HF1.out.then_ hf2)
        have HB2 := Lib.hid (HB1.out.no hf2)
        have p0 : w2.cell? ⟨w1.heap.size, 0, none⟩ = some (.string s) := HB2.out.cell 0
        clear hf2
        go_wp2_with fail
        refine (digits_calls s w2 hss).mono ?_
        rintro e w3 ⟨rfl, hf3⟩
        rw [HDG.out]
        have HF3 := Lib.hid (HF2.out.then_ hf3)
        clear hf3
        go_wp2
        go_ret2
        exact ⟨rfl, HF3.out⟩
      | true =>
        rw [hd] at hl
        have HDG := Lib.hid hd
        clear hd
        by_cases h9 : (9 : Int) < s.size
        · rw [show (false || (!true || decide ((9 : Int) < s.size))) = true by simpa using h9, if_pos rfl] at hl
          subst hl
          go_enter Tryd.func31, Tryd.ntmps31
          go_wp2_with fail
          refine HG.out.mono ?_
          rintro e w1 ⟨rfl, hf1⟩
          have HB1 := Lib.hid (Bk.new w1 [.string s] 9)
          have HF1 := Lib.hid (hf1.alloc (.cells #[.string s] 9))
          clear hf1
          go_wp2_with fail
          refine (contains_other_calls a n c s w1.heap.size xs _ (HX.out.no HF1.out) HB1.out).mono ?_
          rintro e w2 ⟨rfl, hf2⟩
          rw [HOT.out]
          have HF2 := Lib.hid (HF1.out.then_ hf2)
          have HB2 := Lib.hid (HB1.out.no hf2)
          have p0 : w2.cell? ⟨w1.heap.size, 0, none⟩ = some (.string s) := HB2.out.cell 0
          clear hf2
          go_wp2_with fail
          refine (digits_calls s w2 hss).mono ?_
          rintro e w3 ⟨rfl, hf3⟩
          rw [HDG.out]
          have HF3 := Lib.hid (HF2.out.then_ hf3)
          have HB3 := Lib.hid (HB2.out.no hf3)
          have p0 : w3.cell? ⟨w1.heap.size, 0, none⟩ = some (.string s) := HB3.out.cell 0
          clear hf3
          go_wp2
          go_ret2
          exact ⟨rfl, HF3.out⟩
        · rw [show (false || (!true || decide ((9 : Int) < s.size))) = false by simpa using h9, if_neg (by decide)] at hl
          subst hl
          go_enter Tryd.func31, Tryd.ntmps31
          go_wp2_with fail
          refine HG.out.mono ?_
          rintro e w1 ⟨rfl, hf1⟩
          have HB1 := Lib.hid (Bk.new w1 [.string s] 9)
          have HF1 := Lib.hid (hf1.alloc (.cells #[.string s] 9))
          clear hf1
          go_wp2_with fail
          refine (contains_other_calls a n c s w1.heap.size xs _ (HX.out.no HF1.out) HB1.out).mono ?_
          rintro e w2 ⟨rfl, hf2⟩
          rw [HOT.out]
          have HF2 := Lib.hid (HF1.out.then_ hf2)
          have HB2 := Lib.hid (HB1.out.no hf2)
          have p0 : w2.cell? ⟨w1.heap.size, 0, none⟩ = some (.string s) := HB2.out.cell 0
          clear hf2
          go_wp2_with fail
          refine (digits_calls s w2 hss).mono ?_
          rintro e w3 ⟨rfl, hf3⟩
          rw [HDG.out]
          have HF3 := Lib.hid (HF2.out.then_ hf3)
          have HB3 := Lib.hid (HB2.out.no hf3)
          have p0 : w3.cell? ⟨w1.heap.size, 0, none⟩ = some (.string s) := HB3.out.cell 0
          clear hf3
          go_wp2_with fail
          refine (atoi_calls s w3 HDG.out (by omega)).mono ?_
          rintro e w4 ⟨rfl, hf4⟩
          have HF4 := Lib.hid (HF3.out.then_ hf4)
          clear hf4
          go_wp2
          go_ret2
          exact ⟨rfl, HF4.out⟩
end Go.Proofs.YtfejfaldjfichaaDoor
