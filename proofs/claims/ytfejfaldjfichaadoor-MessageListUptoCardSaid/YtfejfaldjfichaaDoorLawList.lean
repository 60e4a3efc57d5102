/- MessageList, where what it reads is of bulk at most 1048576: true; the input reads as it did. -/
import Derived.Test.YtfejfaldjfichaaDoorLList
import Derived.Test.YtfejfaldjfichaaDoorLReq
import Derived.Test.YtfejfaldjfichaaDoorRows
import Derived.Test.YtfejfaldjfichaaDoorCards
import Derived.Test.YtfejfaldjfichaaDoorTie
import Derived.WalkKit
import Derived.ProofKit
import Derived.OpenShut
import Derived.ChangeOld
import Derived.Below
import Derived.SizedLaws
import Derived.ShutString
import Derived.Lay
import Derived.LaidOnce
import Derived.SevenTiedAt
import Derived.Deep.Strs
import Derived.Deep.DeepHandedRow
namespace Go.Proofs.YtfejfaldjfichaaDoor.messageList
open Go.ChangeShapes Go.WideShapes Go.ChangeAt Go.RowKit Go.Hp Go.ChangeMaps
theorem own : ownKnob Tryd.prog.godebug = none := by kernel_rfl
theorem laidOut : laidOutB Tryd.prog = true := by kernel_rfl

theorem reads (os : Os) {H : Type} (enc : TypeId × Value → H) : ∃ places, DataW.whole enc Tryd.prog ((World.laidAll Tryd.prog os Rows.messageListUptoRow.laid).forCall (fun _ _ => 0) ⟨#[], #[.agg #[.string ⟨#[]⟩, .string ⟨#[]⟩, .string ⟨#[]⟩, .string ⟨#[]⟩, .slice none 0 0, .string ⟨#[]⟩, .slice none 0 0]], []⟩).memory Tryd.f5.params.toList Rows.messageListSpec.vars false #[(.agg #[.string ⟨#[]⟩, .string ⟨#[]⟩, .string ⟨#[]⟩, .string ⟨#[]⟩, .slice none 0 0, .string ⟨#[]⟩, .slice none 0 0] : Value)].toList 8 = some ([.agg [.lit (.string []), .lit (.string []), .lit (.string []), .lit (.string []), .nil, .lit (.string []), .nil]], [], places) :=
  ⟨[], by kernel_rfl⟩

set_option maxRecDepth 100000 in
theorem lifted (os : Os) (started : os.Started) (H : Type) (enc : TypeId × Value → H) (F : Stop.Interp) :
    ReturnsInHanded {} Tryd.checked os 5 .any ((Rows.OpenSpec.upto Rows.messageListSpec).preRow enc Tryd.prog Tryd.f5 Rows.messageListUptoRow.domain false Rows.messageListUptoRow.laid) (((Rows.OpenSpec.upto Rows.messageListSpec).at F).post enc Tryd.prog Tryd.f5 false true false false) := by
  obtain ⟨places, hx⟩ := reads os enc
  refine returnsInHanded_of_row (C := Tryd.checked) (s := (Rows.OpenSpec.upto Rows.messageListSpec)) own started (by kernel_rfl) Tryd.func5
    (witness_row (enc := enc) (C := Tryd.checked) false (World.laidAll Tryd.prog os Rows.messageListUptoRow.laid) #[.agg #[.string ⟨#[]⟩, .string ⟨#[]⟩, .string ⟨#[]⟩, .string ⟨#[]⟩, .slice none 0 0, .string ⟨#[]⟩, .slice none 0 0]] (World.laidAll_os _ _ _)
      (World.shaped_of_ZipB (by kernel_rfl) (by kernel_rfl)) (by kernel_rfl)
      (OpenSpec.preRow_of_cond 8 hx (by kernel_rfl) (fun k hk => by cases hk; kernel_rfl) (by kernel_rfl)
        (by rw [MakeChecks.laidMetH_plain _ _ _ (by kernel_rfl)]; exact laidMet_laidAll _ (by kernel_rfl) (by kernel_rfl)))) ?_
  intro W base args ds gs before hval0 hW _ hcond _ _ _ _
  have hval : ∀ (j : Nat) t v, Tryd.f5.params[j]? = some t → args[j]? = some v → Value.okWide Tryd.prog W .any base t v := hval0
  have hW' := hW
  obtain ⟨p, q, hA0, hV, rfl, _, _⟩ := hW
  have hA : DataW.TrodAll enc Tryd.prog W 0 (fun _ => true) true Tryd.f5.params.toList args.toList ds p := hA0
  rw [Tryd.params5] at hA hval
  obtain ⟨v0, vs0, d0, ds0, p0, q0, hargs, rfl, rfl, h0, r0⟩ := trodAll_cons hA
  obtain ⟨rfl, rfl, rfl⟩ := trodAll_nil r0
  obtain rfl : args = #[v0] := by cases args; simp_all
  obtain ⟨rfl, rfl⟩ := trodVars_none hV
  have hb : Rows.uptoBulk d0 ≤ 1048576 := by
    have h := of_decide_eq_true (hcond _ rfl)
    simp only [List.append_nil, Rows.uptoBulkAll] at h
    omega
  obtain ⟨cs, rfl, hsz⟩ := okWide_struct Tryd.underlying34 (hval 0 34 v0 rfl rfl)
  have hc7 : Tryd.prog.cellsOf 34 = 7 := by kernel_rfl
  rw [hc7] at hsz
  have k0 := h0
  have lt0 : ∀ x ∈ p0, x.block < W.heap.size := by obtain ⟨m, hm⟩ := k0; exact DataW.trod_lt m _ _ _ hm
  obtain ⟨fuel, hf⟩ := h0
  obtain ⟨m, s, au, p, b, fa, fn, fc, ta, tn, tc, F, T, rfl, hF, hT, hN⟩ := req_open hsz hf
  obtain ⟨n1, n2, n3, n4, n5, nF, nT⟩ := hN 1048576 hb
  clear hA0 hval0
  refine (list_in m s au p b fa fn fc ta tn tc F T W hF hT (mid_of_fin n1 n2 n3 n4 nF) (mid_fin nT)).mono fun e W' ⟨he, hf⟩ => ?_
  subst he
  have bel : Below W.heap.size W W' := hf.below (Nat.le_refl _) (fun _ h => h.elim)
  exact ⟨_, rfl, _, _, _, [], _, [], hW', trodAll_mk1 (shut_bool Tryd.underlying4 _), (trodAll_cons_mk (Below.trod laidOut (by kernel_rfl) (of_decide_eq_true (by kernel_rfl)) k0 bel lt0) trodAll_mk0), rfl, bel.frame _, fun h => by cases h⟩
theorem over : Rows.messageListUptoRow.holds Tryd.pinned (Rows.OpenSpec.upto Rows.messageListSpec) :=
  OpenClaim.holds_of_cond 5 Tryd.f5 rfl rfl rfl rfl rfl rfl rfl ⟨rfl, rfl, rfl, rfl, rfl⟩ rfl rfl rfl rfl rfl (by kernel_rfl) Tryd.func5 (by kernel_rfl)
    (of_decide_eq_true (by kernel_rfl)) (by unfold Func.isWrapper; first | (rw [if_pos (by decide +kernel)]; kernel_rfl) | (rw [if_neg (by decide +kernel)]; exact ⟨rfl, rfl⟩))
    (fun os started H enc _ F => by rw [OpenClaim.pre_eq_preRow]; exact lifted os started H enc F)
end Go.Proofs.YtfejfaldjfichaaDoor.messageList
namespace Go.Proofs.YtfejfaldjfichaaDoor
/-- The card. -/
theorem messageListUpto_holds : Rows.MessageListUptoCardSaid :=
  Claim7.holds_tied_plain_at .later [] _ _ _ _
    messageList.over (fun _ h => by cases h) (by kernel_rfl) (fun _ h => by cases h) messageListUpto_row_tie rfl ⟨rfl, rfl⟩ (by kernel_rfl) rfl
    (fun f fn hf hfn => by
      obtain rfl : f = 5 := Option.some.inj ((show Tryd.prog.funcNamed "bywash/bywashlaw15.MessageList" = some 5 by kernel_rfl).symm.trans hf) |>.symm
      obtain rfl : fn = Tryd.f5 := (Option.some.inj (Tryd.func5.symm.trans hfn)).symm
      exact ⟨by kernel_rfl, fun j t ht => by
        rw [Tryd.params5] at ht
        obtain rfl : t = 34 := by simpa using Array.mem_of_getElem? ht
        exact (show Tryd.prog.wantsStandIn 34 = false by kernel_rfl)⟩)
    (by kernel_rfl)
#print axioms messageListUpto_holds
end Go.Proofs.YtfejfaldjfichaaDoor
