/- The first call whose answer is fixed. -/
import Derived.Test.YtonehdeoonjgbaaQueue3
namespace Go.Proofs.Ytonehdeoonjgbaa
open Go.RowKit Go.Hp
set_option maxRecDepth 100000

theorem QStep.rest {w w1 : World} {q : Nat} {r r' : Option Nat} {B : Nat} (h : QStep w q r w1 r') (hq : B ≤ q) (hr : ∀ b, r = some b → B ≤ b) (hB : B ≤ w.heap.size) : Below B w w1 ∧ (∀ b, r' = some b → B ≤ b) ∧ B ≤ w1.heap.size := by
  refine ⟨h.2.below hB (fun b hb => ?_), fun b hb => ?_, Nat.le_trans hB h.2.size⟩
  · rcases hb with rfl | hb
    · exact hq
    · exact hr b hb.symm
  · rcases h.1 with e | ⟨b', e, h1⟩
    · exact hr b (e ▸ hb)
    · rw [hb] at e; injection e with e; omega

def AliveQ (w : World) (e : Ending) (w' : World) : Prop := e = .returned (.bool true) ∧ Below w.heap.size w w'

set_option maxHeartbeats 2000000 in
theorem alive_calls (w : World) : Calls Try.prog 4 #[] w (AliveQ w) := by
  obtain ⟨B, hB⟩ : ∃ B, B = w.heap.size := ⟨_, rfl⟩
  have HB := Lib.hid hB
  clear hB
  go_enter Try.func4, Try.ntmps4
  go_wp2_with fail
  refine (new_calls 3 w (by omega)).mono ?_
  rintro e w1 ⟨q, rfl, hq, h1, hf1⟩
  have hq : B ≤ q := by rw [HB.out]; exact hq
  have b1 : Below B w w1 := hf1.below (by rw [HB.out]; exact Nat.le_refl _) (fun _ h => h.elim)
  have s1 : B ≤ w1.heap.size := by rw [HB.out]; exact hf1.size
  have r1 : ∀ b, (none : Option Nat) = some b → B ≤ b := fun _ h => by cases h
  have HW := Lib.hid b1
  clear hf1 b1
  have e1 : mayE [] 3 3 = 0 := by decide
  have e2 : mayE [3] 3 5 = 0 := by decide
  have e3 : mayE [3, 5] 3 7 = 0 := by decide
  have e4 : mayE [7, 3, 5] 3 9 = 13 := by decide
  have e5 : mayE [7, 3, 5] 3 3 = 1 := by decide
  have p1 := fun w1 r => put_queue_calls q r [] 3 3 w1
  have p2 := fun w1 r => put_queue_calls q r [3] 3 5 w1
  have p3 := fun w1 r => back_calls q r [3, 5] 3 7 w1
  have p4 := fun w1 r => put_queue_calls q r [7, 3, 5] 3 9 w1
  have p5 := fun w1 r => put_queue_calls q r [7, 3, 5] 3 3 w1
  simp only [e1, e2, e3, e4, e5, if_true, List.nil_append, List.cons_append] at p1 p2 p3 p4 p5
  have P1 := Lib.hid p1; have P2 := Lib.hid p2; have P3 := Lib.hid p3; have P4 := Lib.hid p4; have P5 := Lib.hid p5
  clear p1 p2 p3 p4 p5 e1 e2 e3 e4 e5
  go_wp2_with fail
  refine (P1.out w1 none h1 (by decide)).mono ?_
  rintro e w2 ⟨rfl, r2, h2, q2⟩
  obtain ⟨b2, rb2, s2⟩ := q2.rest hq r1 s1
  have HW2 := Lib.hid (HW.out.trans b2)
  clear b2 q2
  go_wp2_with fail
  refine (P2.out w2 r2 h2 (by decide)).mono ?_
  rintro e w3 ⟨rfl, r3, h3, q3⟩
  obtain ⟨b3, rb3, s3⟩ := q3.rest hq rb2 s2
  have HW3 := Lib.hid (HW2.out.trans b3)
  clear b3 q3
  go_wp2_with fail
  refine (P3.out w3 r3 h3 (by decide)).mono ?_
  rintro e w4 ⟨rfl, r4, h4, q4⟩
  obtain ⟨b4, rb4, s4⟩ := q4.rest hq rb3 s3
  have HW4 := Lib.hid (HW3.out.trans b4)
  clear b4 q4
  go_wp2_with fail
  refine (P4.out w4 r4 h4 (by decide)).mono ?_
  rintro e w5 ⟨rfl, r5, h5, q5⟩
  obtain ⟨b5, rb5, s5⟩ := q5.rest hq rb4 s4
  have HW5 := Lib.hid (HW4.out.trans b5)
  clear b5 q5
  go_wp2_with fail
  refine (P5.out w5 r5 h5 (by decide)).mono ?_
  rintro e w6 ⟨rfl, r6, h6, q6⟩
  simp only [show ((1 : Int) = 0) = False by decide, if_false] at h6
  obtain ⟨b6, rb6, s6⟩ := q6.rest hq rb5 s5
  have HW6 := Lib.hid (HW5.out.trans b6)
  clear b6 q6
  go_wp2_with fail
  refine (first_some q r6 7 [3, 5] 3 w6 h6).mono ?_
  rintro e w7 ⟨rfl, r7, h7, q7⟩
  obtain ⟨b7, rb7, s7⟩ := q7.rest hq rb6 s6
  have HW7 := Lib.hid (HW6.out.trans b7)
  clear b7 q7
  go_wp2_with fail
  have hp := place_calls q r7 [3, 5] 3 5 w7 h7
  rw [show idx [3, 5] 5 = 1 by decide] at hp
  refine hp.mono ?_
  rintro e w8 ⟨rfl, rfl⟩
  clear hp
  go_wp2_with fail
  refine (cut_some q r7 [3, 5] 3 3 0 w7 h7 (by decide) (by decide)).mono ?_
  rintro e w8 ⟨rfl, r8, h8, q8⟩
  have h8 : QAt w8 q r8 [5] 3 := h8
  obtain ⟨b8, rb8, s8⟩ := q8.rest hq rb7 s7
  have HW8 := Lib.hid (HW7.out.trans b8)
  clear b8 q8
  go_wp2_with fail
  refine (cut_none q r8 [5] 3 3 w8 h8 (by decide)).mono ?_
  rintro e w9 ⟨rfl, r9, h9, q9⟩
  obtain ⟨b9, rb9, s9⟩ := q9.rest hq rb8 s8
  have HW9 := Lib.hid (HW8.out.trans b9)
  clear b9 q9
  go_wp2_with fail
  go_ret
  exact ⟨rfl, by rw [← HB.out]; exact HW9.out⟩
end Go.Proofs.Ytonehdeoonjgbaa
