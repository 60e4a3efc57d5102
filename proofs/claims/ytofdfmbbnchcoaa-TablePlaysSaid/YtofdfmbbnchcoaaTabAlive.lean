/- The first call whose answer is fixed: the table. -/
import Derived.Test.YtofdfmbbnchcoaaTab10
namespace Go.Proofs.Ytofdfmbbnchcoaa
open Go.RowKit Go.Hp
set_option maxRecDepth 100000

theorem TStep.rest {w w1 : World} {q : Nat} {r r' : Option Nat} {B : Nat} (h : TStep w q r w1 r') (hq : B ≤ q) (hr : ∀ b, r = some b → B ≤ b) (hB : B ≤ w.heap.size) : Below B w w1 ∧ (∀ b, r' = some b → B ≤ b) ∧ B ≤ w1.heap.size := by
  refine ⟨h.2.below hB (fun b hb => ?_), fun b hb => ?_, Nat.le_trans hB h.2.size⟩
  · rcases hb with rfl | hb
    · exact hq
    · exact hr b hb.symm
  · rcases h.1 with e | ⟨b', e, h1⟩
    · exact hr b (e ▸ hb)
    · rw [hb] at e; injection e with e; omega

def AliveT (w : World) (e : Ending) (w' : World) : Prop := e = .returned (.bool true) ∧ Below w.heap.size w w'
def fx : ByteArray := ⟨#[120]⟩
def fy : ByteArray := ⟨#[121]⟩

set_option maxHeartbeats 2000000 in
theorem alive_calls (w : World) : Calls Try.prog 4 #[] w (AliveT w) := by
  obtain ⟨B, hB⟩ : ∃ B, B = w.heap.size := ⟨_, rfl⟩
  have HB := Lib.hid hB
  clear hB
  go_enter Try.func4, Try.ntmps4
  go_wp2_with fail
  refine (new_calls 100 w (by omega)).mono ?_
  rintro e w1 ⟨q, rfl, hq, h1, hf1⟩
  go_wp2_with fail
  refine (add_table_calls q none [] 100 ⟨#[120]⟩ ⟨#[121]⟩ w1 h1 (by simp) (by simp) (by decide) (by omega)).mono ?_
  rintro e w2 ⟨rfl, j, r2, hfit, h2, hs2⟩
  have hj : j = 0 := by have := hfit.1; simpa using this
  subst hj
  have h2 : TAt w2 q r2 [(⟨#[120]⟩, ⟨#[121]⟩)] 100 := h2
  have hT2 : Tabs w2 [(⟨#[120]⟩, ⟨#[121]⟩)] (.pointer (some ⟨q, 0, none⟩)) := .inr ⟨q, r2, 100, rfl, h2⟩
  have hb2 := (TStep.rest (B := w1.heap.size) hs2)
  have HS2 := Lib.hid hs2
  have HF1 := Lib.hid hf1
  have HQ := Lib.hid hq
  clear hfit hs2 hf1 h1 hb2 hq
  have hat := at_in (.pointer (some ⟨q, 0, none⟩)) [(⟨#[120]⟩, ⟨#[121]⟩)] 16 w2 hT2 (by decide) (by decide)
  have hnth : nth (fixedL ++ [((⟨#[120]⟩, ⟨#[121]⟩) : El)]) 16 = (⟨#[120]⟩, ⟨#[121]⟩) := rfl
  rw [hnth] at hat
  unfold vE at hat
  have HAT := Lib.hid hat
  have HT2 := Lib.hid h2
  clear hat hnth h2 hT2
  go_wp2_with fail
  refine HAT.out.mono ?_
  rintro e w3 ⟨rfl, hf3⟩
  have h3 := HT2.out.no hf3
  go_wp2_with fail
  have hb4 : Bk (w3.alloc (.cells #[.string ⟨#[120]⟩, .string ⟨#[121]⟩] 28)) w3.heap.size [.string ⟨#[120]⟩, .string ⟨#[121]⟩] 28 := Bk.new w3 [.string ⟨#[120]⟩, .string ⟨#[121]⟩] 28
  have h4 : TAt (w3.alloc (.cells #[.string ⟨#[120]⟩, .string ⟨#[121]⟩] 28)) q r2 [(⟨#[120]⟩, ⟨#[121]⟩)] 100 := h3.no ((Fr.refl No w3).alloc _)
  have hf4 : Fr No w2 (w3.alloc (.cells #[.string ⟨#[120]⟩, .string ⟨#[121]⟩] 28)) := hf3.alloc _
  generalize w3.alloc (.cells #[.string ⟨#[120]⟩, .string ⟨#[121]⟩] 28) = w4 at *
  have hfd : findL (fixedL ++ [((⟨#[120]⟩, ⟨#[121]⟩) : El)]) (⟨#[58, 109, 101, 116, 104, 111, 100]⟩, ⟨#[71, 69, 84]⟩) = (2, true) := by decide
  have hfind := find_calls (.pointer (some ⟨q, 0, none⟩)) [(⟨#[120]⟩, ⟨#[121]⟩)] ⟨#[58, 109, 101, 116, 104, 111, 100]⟩ ⟨#[71, 69, 84]⟩ w4 (.inr ⟨q, r2, 100, rfl, h4⟩) (by decide)
  rw [hfd] at hfind
  refine hfind.mono ?_
  rintro e w5 ⟨rfl, hf5⟩
  clear hfind hfd
  have HF5 := Lib.hid (hf4.then_ hf5)
  have h5 := h4.no hf5
  have hb5 := hb4.no hf5
  have d0 : w5.cell? ⟨w3.heap.size, 0, none⟩ = some (.string ⟨#[120]⟩) := hb5.cell 0
  have d1 : w5.cell? ⟨w3.heap.size, 1, none⟩ = some (.string ⟨#[121]⟩) := hb5.cell 1
  clear hf3 h3 hb4 h4 hf4 hf5 hb5
  go_wp2_with fail
  refine (used_calls q r2 _ 100 w5 h5).mono ?_
  rintro e w6 ⟨rfl, rfl⟩
  rw [show sumE [((⟨#[120]⟩, ⟨#[121]⟩) : El)] = 34 by decide]
  go_wp2_with fail
  refine (size_calls q r2 _ 100 w5 h5).mono ?_
  rintro e w6 ⟨rfl, rfl⟩
  go_wp2_with fail
  refine (cost_calls ⟨#[120]⟩ ⟨#[121]⟩ w5 (by decide) (by decide)).mono ?_
  rintro e w6 ⟨rfl, hf6⟩
  rw [show costE ((⟨#[120]⟩, ⟨#[121]⟩) : El) = 34 by decide]
  go_wp2
  go_ret
  have hsz1 := HF1.out.size
  have hst := TStep.rest (B := B) HS2.out (by have := HQ.out; have := HB.out; omega) (fun _ h => by cases h) (by have := HB.out; omega)
  refine ⟨rfl, ?_⟩
  rw [← HB.out]
  exact ((HF1.out.below (by rw [HB.out]; exact Nat.le_refl _) (fun _ h => h.elim)).trans hst.1).trans ((HF5.out.then_ hf6).below hst.2.2 (fun _ h => h.elim))
end Go.Proofs.Ytofdfmbbnchcoaa
