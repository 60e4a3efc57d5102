/- The document's table: the eldest go. -/
import Derived.Test.YtofdfmbbnchcoaaTab6
namespace Go.Proofs.Ytofdfmbbnchcoaa
open Go.RowKit Go.Hp
set_option maxRecDepth 100000

def RShrQ (w : World) (q : Nat) (r : Option Nat) (l : List El) (size m : Int) (e : Ending) (w' : World) : Prop :=
  e = .returned (.tuple #[]) ∧ ∃ j, IsFit l m j ∧ RAt w' q r (l.take j) size ∧ Fr (fun b => b = q) w w'

set_option maxHeartbeats 2000000 in
theorem rshrink_calls (q : Nat) (r : Option Nat) (l : List El) (size more : Int) (w : World) (h : RAt w q r l size) (hs : ∀ x ∈ l, costE x ≤ 1000) (hl : l.length ≤ 1000) (hm0 : 0 ≤ more) (hm1 : more ≤ 1000000) :
    Calls Try.prog 28 #[.pointer (some ⟨q, 0, none⟩), .int .i64 more] w (RShrQ w q r l size (size - more)) := by
  have HT := Lib.hid h
  have HS := Lib.hid hs
  clear h hs
  go_enter Try.func28, Try.ntmps28
  go_wp2
  go_loopg [4] l.length (fun gg v wr => gg ≤ l.length ∧ RAt wr q r (l.take gg) size ∧ (∀ i, gg < i → i ≤ l.length → size - more < sumE (l.take i)) ∧ Fr (fun b => b = q) w wr)
  case atStart => exact ⟨Nat.le_refl _, by rw [List.take_length]; exact HT.out, (fun i h1 h2 => by omega), Fr.refl _ _⟩
  case round =>
    obtain ⟨hj, hta, hfit, hfr⟩ := hrel
    have HFIT := Lib.hid hfit
    have HTA := Lib.hid hta
    clear hfit
    obtain ⟨a, c, hb, hr⟩ := hta
    rw [List.length_take, Nat.min_eq_left hj] at hb hr
    have hsb := sumE_bound (l := l.take gk) (fun x hx => HS.out x (List.mem_of_mem_take hx))
    rw [List.length_take, Nat.min_eq_left hj] at hsb
    cases gk with
    | zero =>
      have c0 : wr.cell? ⟨q, 1, none⟩ = some (.slice a 0 c) := hb.cell 1
      clear hb hr hsb
      go_wp2
      go_quiet (fail)
      go_wp2
      go_end0
      exact ⟨rfl, 0, ⟨by omega, .inl rfl, HFIT.out⟩, HTA.out.no ((Fr.refl No wr).drewN _), hfr.drewN _⟩
    | succ m =>
      have hml : m < l.length := by omega
      obtain ⟨s, hse⟩ : ∃ s, sumE (l.take (m + 1)) = s := ⟨_, rfl⟩
      have HSE := Lib.hid hse
      rw [hse] at hsb
      clear hse
      have c0 : wr.cell? ⟨q, 0, none⟩ = some (.int .i64 size) := hb.cell 0
      have c1 : wr.cell? ⟨q, 1, none⟩ = some (.slice a (m + 1) c) := hb.cell 1
      have b6 : IntKind.i64.wrap (s + more) = s + more := by rw [IntWalk.i64_in _ (by omega)]
      have HB := Lib.hid hb
      have HR := Lib.hid hr
      have HSM := Lib.hid (sum_calls a (m + 1) c (l.take (m + 1)) wr.drew hr.rd.drew (fun x hx => HS.out x (List.mem_of_mem_take hx)) (by omega))
      rw [HSE.out] at HSM
      have hle := hr.le; have hca := hr.capLe
      have b7 : (0 : Int) < (m : Int) + 1 := by omega
      clear hb hr
      by_cases hm : size < s + more
      · go_wp2
        go_region_held3 (fun w' => w'.cell? ⟨q, 0, none⟩ = some (.int .i64 size) ∧ w'.cell? ⟨q, 1, none⟩ = some (.slice a (m + 1) c))
          (first
            | go_keep
            | exact q1)
          (first
            | (go_at_call 18; refine HSM.out.mono ?_; rintro e w2 ⟨rfl, hf2'⟩; have hf2 : Fr No wr w2 := ⟨hf2'.os, hf2'.tape, hf2'.output, hf2'.size, hf2'.block⟩; have q1 := (⟨(HB.out.no hf2).cell 0, (HB.out.no hf2).cell 1⟩ : w2.cell? ⟨q, 0, none⟩ = some (.int .i64 size) ∧ w2.cell? ⟨q, 1, none⟩ = some (.slice a (m + 1) c)))
          )
        all_goals
          obtain ⟨g, off, rfl, _, _⟩ := HR.out.rd.2.2.2.2 (by omega)
          have hb2 := HB.out.no hf2
          have k1 : w2.cell? ⟨q, 1, none⟩ = some (.slice (some ⟨g, off, none⟩) (m + 1) c) := hb2.cell 1
          have k2 : w2.frozen? ⟨q, 1, none⟩ = false := hb2.frozen 1
          have hF1 : Fr (fun b => b = q) wr (w2.setCell ⟨q, 1, none⟩ (.slice (some ⟨g, off, none⟩) m c)) := (hf2.mono (S' := fun b => b = q) (fun _ _ h => h.elim)).setCell (a := ⟨q, 1, none⟩) (.inl rfl) _
          have HF1 := Lib.hid (hfr.trans hF1 (fun _ _ h => h))
          have HB1 := Lib.hid (hb2.set 1 (.slice (some ⟨g, off, none⟩) m c))
          have hpre := HR.out.front (m := m) (by omega)
          have HPR := Lib.hid (hpre.fr hF1 (fun b hb h => by subst h; exact row_nebk HR.out HB.out (by decide) hb))
          have b2 : IntKind.i64.wrap (m : Int) = (m : Int) := by rw [IntWalk.i64_in _ (by omega)]
          have b0 : (0 : Int) ≤ (m : Int) := by omega
          have b4 : (m : Int) ≤ (c : Int) := by omega
          have b5 : (m : Int) ≤ (m : Int) + 1 := by omega
          clear hb2 hF1 hpre q1 hf2 hf2'
          go_wp2
          go_still_tail 14, (by kernel_rfl)
          go_wp2
          go_roundg m
          case rel => exact ⟨by omega, ⟨some ⟨g, off, none⟩, c, by
              rw [List.length_take, Nat.min_eq_left (by omega)]; exact HB1.out, by
              rw [List.length_take, Nat.min_eq_left (by omega)]
              have e := HPR.out
              have e3 : (cells (l.take (m + 1))).take (m * 2) = cells (l.take m) := by
                rw [← List.take_append_drop m (l.take (m + 1)), cells_append, List.take_append_of_le_length (by rw [cells_len, List.length_take, List.length_take]; omega), List.take_take, Nat.min_eq_left (by omega)]
                exact List.take_of_length_le (by rw [cells_len, List.length_take]; omega)
              rw [e3] at e
              exact e⟩, (fun i h1 h2 => by
                rcases Nat.lt_or_ge (m + 1) i with h | h
                · exact HFIT.out i h h2
                · have : i = m + 1 := by omega
                  subst this; rw [HSE.out]; omega), HF1.out.drew⟩
          case measure => omega
      · have hm2 : ¬ (size < s + more) := hm
        go_wp2
        go_region_held3 (fun w' => w'.cell? ⟨q, 0, none⟩ = some (.int .i64 size) ∧ w'.cell? ⟨q, 1, none⟩ = some (.slice a (m + 1) c))
          (first
            | go_keep
            | exact q1)
          (first
            | (go_at_call 18; refine HSM.out.mono ?_; rintro e w2 ⟨rfl, hf2'⟩; have hf2 : Fr No wr w2 := ⟨hf2'.os, hf2'.tape, hf2'.output, hf2'.size, hf2'.block⟩; have q1 := (⟨(HB.out.no hf2).cell 0, (HB.out.no hf2).cell 1⟩ : w2.cell? ⟨q, 0, none⟩ = some (.int .i64 size) ∧ w2.cell? ⟨q, 1, none⟩ = some (.slice a (m + 1) c)))
          )
        all_goals
          have HF2 := Lib.hid hf2
          clear q1 hf2 hf2'
          go_wp2
          go_end0
          exact ⟨rfl, m + 1, ⟨hj, .inr (by rw [HSE.out]; omega), HFIT.out⟩, HTA.out.no HF2.out, hfr.then_ HF2.out⟩
end Go.Proofs.Ytofdfmbbnchcoaa
