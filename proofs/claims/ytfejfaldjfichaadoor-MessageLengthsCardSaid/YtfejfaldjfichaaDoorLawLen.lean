/- MessageLengths: whatever the input, true; the input reads as it did. The library's variables that the row lists are not read on the way. -/
import Derived.Test.YtfejfaldjfichaaDoorLLen
import Derived.Test.YtfejfaldjfichaaDoorRows
import Derived.Test.YtfejfaldjfichaaDoorCards
import Derived.Test.YtfejfaldjfichaaDoorTie
import Derived.WalkKit
import Derived.ProofKit
import Derived.OpenShut
import Derived.ChangeOld
import Derived.Below
import Derived.SizedLaws
import Derived.ShutString
import Derived.Lay
import Derived.LaidOnce
import Derived.SevenTiedAt
import Derived.Deep.Strs
namespace Go.Proofs.YtfejfaldjfichaaDoor.messageLengths
open Go.ChangeShapes Go.WideShapes Go.ChangeAt Go.RowKit Go.Hp Go.ChangeMaps
theorem own : ownKnob Tryd.prog.godebug = none := by kernel_rfl
theorem laidOut : laidOutB Tryd.prog = true := by kernel_rfl

theorem cellLt {w : World} {a : Addr} {v : Value} (h : w.cell? a = some v) : a.block < w.heap.size := by
  unfold World.cell? at h
  split at h
  · rename_i hb; exact (Array.getElem?_eq_some_iff.1 hb).1
  · cases h
/-- A slice of numbers, opened. -/
theorem ints_open {H : Type} {enc : TypeId × Value → H} {W : World} {fuel : Nat} {a : Option Addr} {n c : Nat} {x : DataW H × List MemPlace} (h : DataW.trod enc Tryd.prog W 0 (fun _ => true) true fuel 41 [.slice a n c] = some x) :
    ∃ xs, Rd W 1 a n c (intsL xs) := by
  rcases Go.Deep.open_slice1 Tryd.underlying41 (by kernel_rfl) h with ⟨h0, _⟩ | ⟨ad, len, cap, m, k, V, D, Pl, h0, hb, hl, hm, hmm, rfl, hx⟩
  · injection h0 with h0; injection h0 with e1 e2 e3
    subst e1; subst e2; subst e3
    exact ⟨[], Rd.nil W 1⟩
  · injection h0 with h0; injection h0 with e1 e2 e3
    subst e1; subst e2; subst e3
    have hmc : m = c := by rw [hmm]; rfl
    subst hmc
    have hI : ∀ i, i < n → ∃ p : Int, W.cell? (ad.add i) = some (.int .i64 p) := by
      intro i hi
      obtain ⟨h1, h2⟩ := hx i (by omega)
      obtain ⟨n0, e0, _, _⟩ := DataW.trod_int Tryd.underlying3 h2
      injection e0 with e0
      exact ⟨n0, by rw [h1, e0]⟩
    obtain ⟨q, hq⟩ := Go.Deep.choose_lt hI
    refine ⟨(List.range n).map q, ⟨by rw [intsL_len]; simp, hl, Nat.le_trans hm (by decide), (fun h => by cases h), fun h0 => ?_⟩⟩
    have c0 := hq 0 h0
    have hsp := World.cell?_spot c0
    obtain ⟨g, off, sp⟩ := ad
    obtain rfl : sp = none := by simpa [Addr.add] using hsp
    refine ⟨g, off, rfl, ?_, ?_⟩
    · have := cellLt c0
      simpa [Addr.add] using this
    · intro j u hu
      have hj : j < n := by
        have := (List.getElem?_eq_some_iff.1 hu).1
        rw [intsL_len] at this; simpa using this
      have o1 := intsL_get ((List.range n).map q) j (by simpa using hj)
      have hg : ((List.range n).map q).getD j 0 = q j := by simp [List.getD, hj]
      rw [hg, hu] at o1
      injection o1 with o1
      rw [o1]
      have := hq j hj
      rw [add_plain] at this; exact this
theorem walk (said : Int) (a : Option Addr) (n c : Nat) (xs : List Int) (w : World) (hx : Rd w 1 a n c (intsL xs)) : Calls Tryd.prog 6 #[.int .i64 said, .slice a n c] w (TrueQ w) := by
  by_cases h : said < 0 ∨ 100000 < said ∨ 30 < n
  · exact len_out said a n c w (Nat.le_trans hx.le hx.capLe) h
  · obtain ⟨sd, rfl⟩ : ∃ n : Nat, said = n := ⟨said.toNat, by omega⟩
    exact len_in sd a n c xs w hx (by omega) (by omega)

set_option maxRecDepth 100000 in
theorem lifted (os : Os) (started : os.Started) (H : Type) (enc : TypeId × Value → H) :
    ReturnsInHanded {} Tryd.checked os 6 .any (fun w args => (Rows.messageLengthsSpec.pre enc Tryd.prog Tryd.f6 [] false w args ∧ laidMetH Tryd.prog Rows.messageLengthsRow.laid w) ∧ sizedMet enc Tryd.prog Tryd.f6 (OpenSpec.ofChange Rows.messageLengthsSpec) false w args)
      (Rows.messageLengthsSpec.post enc Tryd.prog Tryd.f6 false true false false) := by
  refine returnsInHanded_of_change_and (C := Tryd.checked) (X := fun w _ => laidMetH Tryd.prog Rows.messageLengthsRow.laid w) (fun _ _ _ hh h => h.of_heap hh) own started (by kernel_rfl) Tryd.func6
    (ChangeSpec.witness_shaped (enc := enc) (C := Tryd.checked) (os := os) (X := fun w _ => laidMetH Tryd.prog Rows.messageLengthsRow.laid w) false (World.laidAll Tryd.prog os Rows.messageLengthsRow.laid) #[.int .i64 0, .slice none 0 0] 8 (World.laidAll_os _ _ _)
      (World.shaped_of_ZipB (by kernel_rfl) (by kernel_rfl)) (by kernel_rfl) (by kernel_rfl) (by kernel_rfl)
      (by rw [MakeChecks.laidMetH_plain _ _ _ (by kernel_rfl)]; exact laidMet_laidAll _ (by kernel_rfl) (by kernel_rfl))) ?_
  intro W base args ds gs before hval0 hW _ hsz0 _ _
  have hval : ∀ (j : Nat) t v, Tryd.f6.params[j]? = some t → args[j]? = some v → Value.okWide Tryd.prog W .any base t v := hval0
  have hW' := hW
  obtain ⟨p, q, hA0, hV, rfl, _, _⟩ := hW
  have hA : DataW.TrodAll enc Tryd.prog W 0 (fun _ => true) true Tryd.f6.params.toList args.toList ds p := hA0
  rw [Tryd.params6] at hA hval
  obtain ⟨v0, vs0, d0, ds0, p0, q0, hargs, rfl, rfl, h0, r0⟩ := trodAll_cons hA
  obtain ⟨v1, vs1, d1, ds1, p1, q1, rfl, rfl, rfl, h1, r1⟩ := trodAll_cons r0
  obtain ⟨rfl, rfl, rfl⟩ := trodAll_nil r1
  obtain rfl : args = #[v0, v1] := by cases args; simp_all
  obtain ⟨rfl, rfl⟩ := trodVars_none hV
  obtain ⟨a0, rfl, rfl, rfl, w0⟩ := open_int Tryd.underlying3 (hval 0 3 v0 rfl rfl) h0
  obtain ⟨a1, len1, cap1, rfl⟩ := okWide_slice Tryd.underlying41 (hval 1 41 v1 rfl rfl)
  have k1 := h1
  have lt1 : ∀ x ∈ p1, x.block < W.heap.size := by obtain ⟨m, hm⟩ := k1; exact DataW.trod_lt m _ _ _ hm
  obtain ⟨xs, hxs⟩ : ∃ xs, Rd W 1 a1 len1 cap1 (intsL xs) := by
    obtain ⟨fuel, hf⟩ := h1
    exact ints_open hf
  clear hA0 hval0
  refine (walk a0 a1 len1 cap1 xs W hxs).mono fun e W' ⟨he, hf⟩ => ?_
  subst he
  have bel : Below W.heap.size W W' := hf.below (Nat.le_refl _) (fun _ h => h.elim)
  exact ⟨_, rfl, _, _, _, [], _, [], hW', trodAll_mk1 (shut_bool Tryd.underlying4 _), (trodAll_cons_mk (shut_int Tryd.underlying3 w0) (trodAll_cons_mk (Below.trod laidOut (by kernel_rfl) (of_decide_eq_true (by kernel_rfl)) k1 bel lt1) trodAll_mk0)), rfl, bel.frame _, fun h => by cases h⟩
theorem over : Rows.messageLengthsRow.holds Tryd.pinned (OpenSpec.ofChange Rows.messageLengthsSpec) :=
  OpenClaim.holds_of_wide 6 Tryd.f6 rfl rfl rfl rfl rfl rfl rfl ⟨rfl, rfl, rfl, rfl, rfl⟩ rfl rfl rfl rfl rfl (by kernel_rfl) Tryd.func6 (by kernel_rfl)
    (of_decide_eq_true (by kernel_rfl)) (by unfold Func.isWrapper; first | (rw [if_pos (by decide +kernel)]; kernel_rfl) | (rw [if_neg (by decide +kernel)]; exact ⟨rfl, rfl⟩))
    (fun os started H enc _ => lifted os started H enc)
end Go.Proofs.YtfejfaldjfichaaDoor.messageLengths
namespace Go.Proofs.YtfejfaldjfichaaDoor
/-- The card. -/
theorem messageLengths_holds : Rows.MessageLengthsCardSaid :=
  Claim7.holds_tied_plain_at .later [] [.data, .data, .data, .data, .sentinel, .sentinel, .pinned] true (true, Rows.messageLengthsCard.stood.harness.2) true
    messageLengths.over (fun _ h => by cases h) (by kernel_rfl) (fun _ h => by cases h) messageLengths_row_tie rfl ⟨rfl, rfl⟩ (by kernel_rfl) rfl
    (fun f fn hf hfn => by
      obtain rfl : f = 6 := Option.some.inj ((show Tryd.prog.funcNamed "bywash/bywashlaw15.MessageLengths" = some 6 by kernel_rfl).symm.trans hf) |>.symm
      obtain rfl : fn = Tryd.f6 := (Option.some.inj (Tryd.func6.symm.trans hfn)).symm
      exact ⟨by kernel_rfl, fun j t ht => by
        rw [Tryd.params6] at ht
        have hm : t ∈ [3, 41] := by simpa using Array.mem_of_getElem? ht
        have hall : ([3, 41].all fun u => !Tryd.prog.wantsStandIn u) = true := by kernel_rfl
        exact (show Tryd.prog.wantsStandIn t = false by simpa using List.all_eq_true.1 hall t hm)⟩)
    (by kernel_rfl)
#print axioms messageLengths_holds
end Go.Proofs.YtfejfaldjfichaaDoor
