/- The row of QueuePlays: whatever the input, true, and the input reads as it did. -/
import Derived.Test.YtonehdeoonjgbaaPlay
import Derived.Test.YtonehdeoonjgbaaRows
import Derived.WalkKit
import Derived.ProofKit
import Derived.OpenShut
import Derived.ChangeOld
import Derived.Below
import Derived.SizedLaws
import Derived.Deep.SlicePairs
namespace Go.Proofs.Ytonehdeoonjgbaa.queuePlays
open Go.ChangeShapes Go.WideShapes Go.ChangeAt Go.RowKit Go.Hp
theorem own : ownKnob Try.prog.godebug = none := by kernel_rfl
theorem laidOut : laidOutB Try.prog = true := by kernel_rfl

section
variable {H : Type} {enc : TypeId × Value → H}
theorem cellLt {w : World} {a : Addr} {v : Value} (h : w.cell? a = some v) : a.block < w.heap.size := by
  unfold World.cell? at h
  split at h
  · rename_i hb; exact (Array.getElem?_eq_some_iff.1 hb).1
  · cases h
/-- The slice of operations, opened. -/
theorem ops_open {W : World} {fuel : Nat} {a : Option Addr} {n c : Nat} {x : DataW H × List MemPlace} (h : DataW.trod enc Try.prog W 0 (fun _ => true) true fuel 22 [.slice a n c] = some x) :
    ∃ ops, Rd W 2 a n c (opcells ops) ∧ (∀ b, abk a n = some b → b < W.heap.size) := by
  rcases Go.Deep.open_slice_pairs Try.underlying22 Try.underlying43 (by kernel_rfl) rfl rfl (by kernel_rfl) (by kernel_rfl) h with ⟨h0, _⟩ | ⟨ad, len, cap, m, k, V0, V1, D0, D1, P0, P1, h0, hb, hl, hm, hmm, _, hx⟩
  · injection h0 with h0; injection h0 with e1 e2 e3
    subst e1; subst e2; subst e3
    exact ⟨[], Rd.nil W 2, fun b hb => by simp [abk] at hb⟩
  · injection h0 with h0; injection h0 with e1 e2 e3
    subst e1; subst e2; subst e3
    have hmc : m = c := by rw [hmm]; rfl
    subst hmc
    have hI : ∀ i, i < n → ∃ p : Int × Int, W.cell? (ad.add (i * 2)) = some (.int .i64 p.1) ∧ W.cell? (ad.add (i * 2 + 1)) = some (.int .i64 p.2) := by
      intro i hi
      obtain ⟨g0, g1, g2, g3⟩ := hx i (by omega)
      obtain ⟨x0, e0, _⟩ := DataW.trod_int Try.underlying3 g2
      obtain ⟨x1, e1, _⟩ := DataW.trod_int Try.underlying3 g3
      injection e0 with e0; injection e1 with e1
      exact ⟨(x0, x1), by rw [g0, e0], by rw [g1, e1]⟩
    obtain ⟨q, hq⟩ := Go.Deep.choose_lt hI
    refine ⟨(List.range n).map q, ⟨by rw [opcells_len]; simp, hl, Nat.le_trans hm (by decide), (fun h => by cases h), fun h0 => ?_⟩, ?_⟩
    · obtain ⟨c0, _⟩ := hq 0 h0
      have hsp := World.cell?_spot c0
      obtain ⟨g, off, sp⟩ := ad
      obtain rfl : sp = none := by simpa [Addr.add] using hsp
      refine ⟨g, off, rfl, ?_, ?_⟩
      · have := cellLt c0
        simpa [Addr.add] using this
      · intro j u hu
        have hj : j < n * 2 := by
          have := (List.getElem?_eq_some_iff.1 hu).1
          rw [opcells_len] at this; simpa using this
        obtain ⟨o1, o2⟩ := opcells_get ((List.range n).map q) (j / 2) (by simp; omega)
        obtain ⟨q1, q2⟩ := hq (j / 2) (by omega)
        have hg : ((List.range n).map q).getD (j / 2) (0, 0) = q (j / 2) := by
          simp [List.getD, show j / 2 < n by omega]
        rw [hg] at o1 o2
        rcases Nat.mod_two_eq_zero_or_one j with h2 | h2
        · have e : j = j / 2 * 2 := by omega
          rw [← e] at o1 q1
          rw [hu] at o1
          injection o1 with o1
          rw [o1]; rw [add_plain] at q1; exact q1
        · have e : j = j / 2 * 2 + 1 := by omega
          rw [← e] at o2 q2
          rw [hu] at o2
          injection o2 with o2
          rw [o2]; rw [add_plain] at q2; exact q2
    · intro b hb
      simp only [abk] at hb
      split at hb
      · cases hb
      · rename_i h0
        obtain ⟨c0, _⟩ := hq 0 (by omega)
        have := cellLt c0
        simp at hb
        subst hb
        simpa [Addr.add] using this

theorem walk (most : Int) (a : Option Addr) (n c : Nat) (ops : List (Int × Int)) (W : World) (h1 : Rd W 2 a n c (opcells ops)) (h2 : ∀ b, abk a n = some b → b < W.heap.size) :
    Calls Try.prog 3 #[.int .i64 most, .slice a n c] W (AliveQ W) := by
  by_cases hn : 120 < n
  · exact play_many most a n c W hn (Nat.le_trans h1.le h1.capLe)
  · by_cases hm : most < 1
    · exact play_none most a n c W (by omega) hm
    · exact play_calls most a n c ops W h1 h2 (by omega) (by omega)
end

set_option maxRecDepth 100000 in
theorem lifted (os : Os) (started : os.Started) (H : Type) (enc : TypeId × Value → H) :
    ReturnsInHanded {} Try.checked os 3 .any (Rows.queuePlaysSpec.pre6 enc Try.prog Try.f3 Rows.queuePlaysRow.domain false) (Rows.queuePlaysSpec.post enc Try.prog Try.f3 false true false false) := by
  refine returnsInHanded_of_change_sized (C := Try.checked) own started (by kernel_rfl) Try.func3
    (ChangeSpec.witness6 (enc := enc) (C := Try.checked) false ⟨#[], #[.int .i64 0, .slice none 0 0], []⟩ 8 (by kernel_rfl) (by kernel_rfl) (by kernel_rfl) (by kernel_rfl)) ?_
  intro W base args ds gs before hval0 hW hcnd hsz0 _
  have hval : ∀ (j : Nat) t v, Try.f3.params[j]? = some t → args[j]? = some v → Value.okWide Try.prog W .any base t v := hval0
  have hW' := hW
  obtain ⟨p, q, hA0, hV, rfl, hfz, hnd⟩ := hW
  have hA : DataW.TrodAll enc Try.prog W 0 (fun _ => true) true Try.f3.params.toList args.toList ds p := hA0
  rw [Try.params3] at hA hval
  obtain ⟨v0, vs0, d0, ds0, p0, q0, hargs, rfl, rfl, h0, r0⟩ := trodAll_cons hA
  obtain ⟨v1, vs1, d1, ds1, p1, q1, rfl, rfl, rfl, h1, r1⟩ := trodAll_cons r0
  obtain ⟨rfl, rfl, rfl⟩ := trodAll_nil r1
  obtain rfl : args = #[v0, v1] := by cases args; simp_all
  obtain ⟨rfl, rfl⟩ := trodVars_none hV
  obtain ⟨a0, rfl, rfl, rfl, w0⟩ := open_int Try.underlying3 (hval 0 3 v0 rfl rfl) h0
  obtain ⟨a1, len1, cap1, rfl⟩ := okWide_slice Try.underlying22 (hval 1 22 v1 rfl rfl)
  have k1 := h1
  have lt1 : ∀ x ∈ p1, x.block < W.heap.size := by obtain ⟨m, hm⟩ := k1; exact DataW.trod_lt m _ _ _ hm
  obtain ⟨ops, ho1, ho2⟩ : ∃ ops, Rd W 2 a1 len1 cap1 (opcells ops) ∧ (∀ b, abk a1 len1 = some b → b < W.heap.size) := by
    obtain ⟨fuel, hf⟩ := h1
    exact ops_open hf
  clear hA0 hval0 hsz0
  refine (walk a0 a1 len1 cap1 ops W ho1 ho2).mono fun e W' ⟨he, bel⟩ => ?_
  subst he
  exact ⟨_, rfl, _, _, _, [], _, [], hW', trodAll_mk1 (shut_bool Try.underlying4 _), (trodAll_cons_mk (shut_int Try.underlying3 w0) (trodAll_cons_mk (Below.trod laidOut (by kernel_rfl) (of_decide_eq_true (by kernel_rfl)) k1 bel lt1) trodAll_mk0)), rfl, bel.frame _, fun h => by cases h⟩
theorem over : Rows.queuePlaysRow.holds Try.pinned (OpenSpec.ofChange Rows.queuePlaysSpec) :=
  OpenClaim.holds_of_wide 3 Try.f3 rfl rfl rfl rfl rfl rfl rfl ⟨rfl, rfl, rfl, rfl, rfl⟩ rfl rfl rfl rfl rfl (by kernel_rfl) Try.func3 (by kernel_rfl)
    (of_decide_eq_true (by kernel_rfl)) (by unfold Func.isWrapper; first | (rw [if_pos (by decide +kernel)]; kernel_rfl) | (rw [if_neg (by decide +kernel)]; exact ⟨rfl, rfl⟩))
    (fun os started H enc _ => lifted os started H enc)
end Go.Proofs.Ytonehdeoonjgbaa.queuePlays
namespace Go.Proofs.Ytonehdeoonjgbaa
/-- The row. -/
theorem queuePlays_holds : Rows.QueuePlaysSaid := queuePlays.over
#print axioms queuePlays_holds
end Go.Proofs.Ytonehdeoonjgbaa
