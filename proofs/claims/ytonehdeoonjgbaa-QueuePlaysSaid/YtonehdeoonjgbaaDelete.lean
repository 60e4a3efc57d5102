/- slices.Delete of one element, at []int. -/
import Derived.Test.YtonehdeoonjgbaaInsert2
import Derived.IntWalk
namespace Go.Proofs.Ytonehdeoonjgbaa
open Go.RowKit Go.Hp
set_option maxRecDepth 100000

def DelQ (w : World) (a : Option Addr) (n c : Nat) (r : Option Nat) (cs : List Value) (e : Ending) (w' : World) : Prop :=
  e = .returned (.slice a n c) ∧ Row w' 3 1 a n c r cs ∧ Fr (fun b => some b = r) w w'

set_option maxHeartbeats 2000000 in
theorem delete_calls (g off m c i : Nat) (r : Option Nat) (cs : List Value) (w : World) (hr : Row w 3 1 (some ⟨g, off, none⟩) (m + 1) c r cs) (hi : i < m + 1) (h1c : ∀ u ∈ cs, u.oneCell' = true) (hby : (m + 1) * 8 ≤ 140737488355328) :
    Calls Try.prog 17 #[.slice (some ⟨g, off, none⟩) (m + 1) c, .int .i64 i, .int .i64 ((i : Int) + 1)] w (DelQ w (some ⟨g, off, none⟩) m c r (cs.take i ++ cs.drop (i + 1))) := by
  obtain ⟨i0, hi0, hz0, hz1, hz2⟩ := info_parts infoE
  have hl := hr.len; have hle := hr.le; have hcm := hr.capLe
  have hp : Row w 3 1 (some ⟨g, off, none⟩) i c r (cs.take i) := by simpa using hr.front (m := i) (by omega)
  have hs : Rd w 1 (if c = i + 1 then (some ⟨g, off, none⟩ : Option Addr) else some ⟨g, off + (i + 1), none⟩) (m - i) (c - (i + 1)) (cs.drop (i + 1)) := by
    refine ⟨by rw [List.length_drop]; omega, by omega, by omega, (fun h => by split at h <;> cases h), fun h0 => ?_⟩
    obtain ⟨g', o', e, hg, hc⟩ := hr.rd.2.2.2.2 (by omega)
    injection e with e; injection e with e1 e2; subst e1; subst e2
    refine ⟨g, off + (i + 1), by rw [if_neg (by omega)], hg, fun j u hu => ?_⟩
    rw [List.getElem?_drop] at hu
    rw [Nat.add_assoc]
    exact hc _ u hu
  have h1d : ∀ u ∈ cs.drop (i + 1), u.oneCell' = true := fun u hu => h1c u (List.mem_of_mem_drop hu)
  have b0 : (0 : Int) ≤ (i : Int) := by omega
  have b1 : (i : Int) + 1 ≤ (m : Int) + 1 := by omega
  have b2 : (i : Int) ≤ (i : Int) + 1 := by omega
  have b3 : (m : Int) + 1 ≤ (c : Int) := by omega
  have b4 : ((i : Int) == (i : Int) + 1) = false := by rw [beq_eq_false_iff_ne]; omega
  have b5 : (i : Int) ≤ (c : Int) := by omega
  have b6 : ¬ (m + 1 = i) := by omega
  have HR := Lib.hid hr
  clear hr
  go_enter Try.func17, Try.ntmps17
  go_wp2
  obtain ⟨A, hA⟩ : ∃ A, (if c = i + 1 then (some ⟨g, off, none⟩ : Option Addr) else some ⟨g, off + (i + 1), none⟩) = A := ⟨_, rfl⟩
  rw [hA] at hs
  have w1 : IntKind.i64.wrap ((i : Int) + 1) = (i : Int) + 1 := IntWalk.i64_in _ (by omega)
  have w2 : ((i : Int) + 1).toNat = i + 1 := by omega
  have w3 : (0 : Int) ≤ (i : Int) + 1 := by omega
  go_still_tail 6, (by kernel_rfl)
  have hpW := hp.drew
  have hsW := hs.drew
  have hfW : Fr (fun b => some b = r) w w.drew := (Fr.refl _ w).drew
  have hRW := Lib.hid HR.out.drew
  change wpList _ _ _ _ _ w.drew
  generalize w.drew = W at *
  clear hA w1 w2 w3
  refine wpList_app W rfl (.tmp 22) (.tmp 25) 32 rfl 3 i0 (.int .i64 0) 1 8 Try.underlying32 hi0 hz0 hz1 hz2 rfl (some ⟨g, off, none⟩) i c rfl r _ hpW A _ (c - (i + 1)) rfl _ hsW h1d (by omega) (by omega) ?h1
  intro a' c' r' w' hA
  have em : i + (m - i) = m := by omega
  rw [em]
  obtain ⟨hrow, hF⟩ : Row w' 3 1 (some ⟨g, off, none⟩) m c r (cs.take i ++ cs.drop (i + 1)) ∧ Fr (fun b => some b = r) W w' ∧ a' = some ⟨g, off, none⟩ ∧ c' = c := by
    obtain ⟨h1, _, h2⟩ := hA
    rw [em] at h1
    rcases h2 with ⟨e1, e2, e3, h3, _⟩ | ⟨_, _, _, h3⟩
    · rw [e1, e2, e3] at h1; exact ⟨h1, h3, e1, e2⟩
    · omega
  obtain ⟨hF, rfl, rfl⟩ := hF
  obtain ⟨L1, rfl, hb1, hl1, hL1⟩ : ∃ L1, r = some g ∧ Bk w' g L1 3 ∧ off + c' * 1 ≤ L1.length ∧ (L1.drop off).take (m * 1) = cs.take i ++ cs.drop (i + 1) := by
    rcases hrow.2.2.2.2 with ⟨_, h⟩ | ⟨g', o', L1, e1, e2, h1, h2, h3⟩
    · omega
    · injection e2 with e2; injection e2 with e2 e3; subst e2; subst e3
      exact ⟨L1, e1, h1, h2, h3⟩
  have HL := Lib.hid hL1
  have HW := Lib.hid hrow
  clear hA hL1 hrow b0 b1 b2 b4 b5 b6 hpW hsW hp hs em
  have k1 : ¬ (c' = m) := by omega
  have k2 : (m : Int) + 1 ≤ (c' : Int) := by omega
  go_wp2_with (with_reducible refine wpList_clr w' rfl (.tmp 31) 32 rfl 3 i0 (.int .i64 0) 1 Try.underlying32 hi0 hz0 rfl zv_one g (off + m) 1 (c' - m) rfl L1 3 hb1 (by omega) ?h2)
  intro w2 zs L2 hzs hL2 hb2 hf2 hs2
  go_wp2
  go_ret
  have e2 : L2 = L1.take (off + m) ++ (zs ++ L1.drop (off + m + 1)) := by rw [hL2.out]
  have hz1 : zs.length = 1 := by have := hzs.out; omega
  refine ⟨rfl, ⟨HW.out.1, HW.out.2.1, HW.out.2.2.1, HW.out.2.2.2.1, .inr ⟨g, off, L2, rfl, rfl, hb2, ?_, ?_⟩⟩, ?_⟩
  · rw [e2]; simp only [List.length_append, List.length_take, List.length_drop]; omega
  · rw [← HL.out, e2, Nat.mul_one, List.drop_append_of_le_length (by rw [List.length_take]; omega), List.drop_take, show off + m - off = m by omega, List.take_append_of_le_length (by rw [List.length_take, List.length_drop]; omega), List.take_take, Nat.min_self]
  · exact hfW.trans (hF.trans hf2 (fun _ _ h => by rw [h])) (fun _ _ h => h)
end Go.Proofs.Ytonehdeoonjgbaa
