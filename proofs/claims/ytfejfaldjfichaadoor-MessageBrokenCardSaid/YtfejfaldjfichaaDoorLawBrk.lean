/- MessageBroken: whatever the input, true; the input reads as it did. The library's variables that the row lists are not read on the way. -/
import Derived.Test.YtfejfaldjfichaaDoorLBrk
import Derived.Test.YtfejfaldjfichaaDoorLOpen
import Derived.Test.YtfejfaldjfichaaDoorRows
import Derived.Test.YtfejfaldjfichaaDoorCards
import Derived.Test.YtfejfaldjfichaaDoorTie
import Derived.WalkKit
import Derived.ProofKit
import Derived.OpenShut
import Derived.ChangeOld
import Derived.Below
import Derived.SizedLaws
import Derived.ShutString
import Derived.Lay
import Derived.LaidOnce
import Derived.SevenTiedAt
import Derived.Deep.Strs
namespace Go.Proofs.YtfejfaldjfichaaDoor.messageBroken
open Go.ChangeShapes Go.WideShapes Go.ChangeAt Go.RowKit Go.Hp Go.ChangeMaps
theorem own : ownKnob Tryd.prog.godebug = none := by kernel_rfl
theorem laidOut : laidOutB Tryd.prog = true := by kernel_rfl

section
variable {H : Type} {enc : TypeId × Value → H}
/-- What an operation reads as: its fields' slice as d. -/
def opD (o : OpM) (d : DataW H) : DataW H := .agg [.lit (.int .i64 o.kind), .lit (.int .i64 o.n), .lit (.bool o.en), d]
set_option maxRecDepth 100000 in
/-- The slice of operations, opened. -/
theorem ops_open {W : World} {fuel : Nat} {a : Option Addr} {n c : Nat} {x : DataW H × List MemPlace} (h : DataW.trod enc Tryd.prog W 0 (fun _ => true) true fuel 44 [.slice a n c] = some x) :
    ∃ ops, Rd W 4 a n c (opcells ops) ∧ ∀ o ∈ ops, ∃ es sp d, x.1 = .slice es sp ∧ opD o d ∈ es ∧ Rd W 2 o.la o.ln o.lc (cells o.l) ∧ ∀ y ∈ o.l, ∃ es2 sp2, d = .slice es2 sp2 ∧ elD y ∈ es2 := by
  rcases Go.Deep.open_slice Tryd.underlying44 h with ⟨h0, _⟩ | ⟨ad, len, cap, m, k, D, Pl, h0, hb, hl, hm, hmm, rfl, hx⟩
  · injection h0 with h0; injection h0 with e1 e2 e3
    subst e1; subst e2; subst e3
    exact ⟨[], Rd.nil W 4, fun o ho => by cases ho⟩
  · injection h0 with h0; injection h0 with e1 e2 e3
    subst e1; subst e2; subst e3
    have hmc : m = c := by rw [hmm]; rfl
    subst hmc
    have ce : Tryd.prog.cellsOf 46 = 4 := by kernel_rfl
    have c3 : Tryd.prog.cellsOf 3 = 1 := by kernel_rfl
    have c4 : Tryd.prog.cellsOf 4 = 1 := by kernel_rfl
    have c9 : Tryd.prog.cellsOf 32 = 1 := by kernel_rfl
    have hI : ∀ i, i < n → ∃ p : OpM × DataW H, W.cell? (ad.add (i * 4)) = some (.int .i64 p.1.kind) ∧ W.cell? (ad.add (i * 4 + 1)) = some (.int .i64 p.1.n) ∧ W.cell? (ad.add (i * 4 + 2)) = some (.bool p.1.en) ∧ W.cell? (ad.add (i * 4 + 3)) = some (.slice p.1.la p.1.ln p.1.lc) ∧ D i = opD p.1 p.2 ∧ Rd W 2 p.1.la p.1.ln p.1.lc (cells p.1.l) ∧ ∀ y ∈ p.1.l, ∃ es2 sp2, p.2 = .slice es2 sp2 ∧ elD y ∈ es2 := by
      intro i hi
      obtain ⟨cs', h1, h2⟩ := hx i (by omega)
      rw [ce] at h1
      obtain ⟨_, hlen, hcell⟩ := World.cells?_some h1
      obtain ⟨y0, y1, y2, y3, k2, hxy, _, u0, u1, u2, u3⟩ := Go.Joins.trod_struct4 Tryd.underlying46 h2
      match cs', hlen with
      | [v0, v1, v2, v3], _ =>
        simp only [c3, c4, c9, List.drop, List.take] at u0 u1 u2 u3
        obtain ⟨n0, e0, d0, _⟩ := DataW.trod_int Tryd.underlying3 u0
        obtain ⟨n1, e1, d1, _⟩ := DataW.trod_int Tryd.underlying3 u1
        obtain ⟨b2, e2, d2⟩ := DataW.trod_bool Tryd.underlying4 u2
        injection e0 with e0; injection e1 with e1; injection e2 with e2
        obtain ⟨la, ln, lc, rfl⟩ : ∃ la ln lc, v3 = .slice la ln lc := by
          rcases Go.Deep.open_slice Tryd.underlying32 u3 with ⟨h0, _⟩ | ⟨ad, len, cap, _, _, _, _, h0, _⟩
          · injection h0 with h0; exact ⟨_, _, _, h0⟩
          · injection h0 with h0; exact ⟨_, _, _, h0⟩
        obtain ⟨xs, r1, r2⟩ := fields_open u3
        have q0 := hcell 0 (by omega)
        have q1 := hcell 1 (by omega)
        have q2 := hcell 2 (by omega)
        have q3 := hcell 3 (by omega)
        rw [Go.Deep.add_add] at q0 q1 q2 q3
        simp only [Prod.mk.injEq] at hxy
        refine ⟨(⟨n0, n1, b2, la, ln, lc, xs⟩, y3.1), by rw [← e0]; simpa using q0, by rw [← e1]; simpa using q1, by rw [← e2]; simpa using q2, by simpa using q3, ?_, r1, r2⟩
        rw [hxy.1, d0, d1, d2]; rfl
    have : Inhabited (OpM × DataW H) := ⟨(op0, .nil)⟩
    obtain ⟨q, hq⟩ := Go.Deep.choose_lt hI
    refine ⟨(List.range n).map fun i => (q i).1, ⟨by rw [opcells_len]; simp, hl, Nat.le_trans hm (by decide), (fun h => by cases h), fun h0 => ?_⟩, ?_⟩
    · obtain ⟨c0, _⟩ := hq 0 h0
      have hsp := World.cell?_spot c0
      obtain ⟨g, off, sp⟩ := ad
      obtain rfl : sp = none := by simpa [Addr.add] using hsp
      refine ⟨g, off, rfl, ?_, ?_⟩
      · have := cellLt c0
        simpa [Addr.add] using this
      · intro j u hu
        have hj : j < n * 4 := by
          have := (List.getElem?_eq_some_iff.1 hu).1
          rw [opcells_len] at this; simpa using this
        obtain ⟨o1, o2, o3, o4⟩ := opcells_get ((List.range n).map fun i => (q i).1) (j / 4) (by simp; omega)
        obtain ⟨q1, q2, q3, q4, _⟩ := hq (j / 4) (by omega)
        have hg : ((List.range n).map fun i => (q i).1).getD (j / 4) op0 = (q (j / 4)).1 := by
          simp [List.getD, show j / 4 < n by omega]
        rw [hg] at o1 o2 o3 o4
        have h4 : j % 4 = 0 ∨ j % 4 = 1 ∨ j % 4 = 2 ∨ j % 4 = 3 := by omega
        rcases h4 with h2 | h2 | h2 | h2
        · have e : j = j / 4 * 4 := by omega
          rw [← e] at o1 q1
          rw [hu] at o1
          injection o1 with o1
          rw [o1]; rw [add_plain] at q1; exact q1
        · have e : j = j / 4 * 4 + 1 := by omega
          rw [← e] at o2 q2
          rw [hu] at o2
          injection o2 with o2
          rw [o2]; rw [add_plain] at q2; exact q2
        · have e : j = j / 4 * 4 + 2 := by omega
          rw [← e] at o3 q3
          rw [hu] at o3
          injection o3 with o3
          rw [o3]; rw [add_plain] at q3; exact q3
        · have e : j = j / 4 * 4 + 3 := by omega
          rw [← e] at o4 q4
          rw [hu] at o4
          injection o4 with o4
          rw [o4]; rw [add_plain] at q4; exact q4
    · intro o ho
      simp only [List.mem_map, List.mem_range] at ho
      obtain ⟨i, hi, rfl⟩ := ho
      have h5 := hq i hi
      exact ⟨_, _, (q i).2, rfl, by rw [← h5.2.2.2.2.1]; exact List.mem_map_of_mem (List.mem_range.2 hi), h5.2.2.2.2.2.1, h5.2.2.2.2.2.2⟩

theorem walk (m : Int) (en : Bool) (a : Option Addr) (n c : Nat) (ops : List OpM) (w : World) (hl : Rd w 4 a n c (opcells ops)) (hls : ∀ o ∈ ops, Rd w 2 o.la o.ln o.lc (cells o.l) ∧ InR o.l) :
    Calls Tryd.prog 7 #[.slice a n c, .int .i64 m, .bool en] w (TrueQ w) := by
  by_cases h : 30 < n ∨ m < 0 ∨ 1000 < m
  · exact brk_out m en a n c w (Nat.le_trans hl.le hl.capLe) h
  · exact brk_in m en a n c ops w hl hls (by omega) (by omega) (by omega)
end

set_option maxRecDepth 100000 in
theorem lifted (os : Os) (started : os.Started) (H : Type) (enc : TypeId × Value → H) :
    ReturnsInHanded {} Tryd.checked os 7 .any (fun w args => (Rows.messageBrokenSpec.pre enc Tryd.prog Tryd.f7 [] false w args ∧ laidMetH Tryd.prog Rows.messageBrokenRow.laid w) ∧ sizedMet enc Tryd.prog Tryd.f7 (OpenSpec.ofChange Rows.messageBrokenSpec) false w args)
      (Rows.messageBrokenSpec.post enc Tryd.prog Tryd.f7 false true false false) := by
  refine returnsInHanded_of_change_and (C := Tryd.checked) (X := fun w _ => laidMetH Tryd.prog Rows.messageBrokenRow.laid w) (fun _ _ _ hh h => h.of_heap hh) own started (by kernel_rfl) Tryd.func7
    (ChangeSpec.witness_shaped (enc := enc) (C := Tryd.checked) (os := os) (X := fun w _ => laidMetH Tryd.prog Rows.messageBrokenRow.laid w) false (World.laidAll Tryd.prog os Rows.messageBrokenRow.laid) #[.slice none 0 0, .int .i64 0, .bool false] 8 (World.laidAll_os _ _ _)
      (World.shaped_of_ZipB (by kernel_rfl) (by kernel_rfl)) (by kernel_rfl) (by kernel_rfl) (by kernel_rfl)
      (by rw [MakeChecks.laidMetH_plain _ _ _ (by kernel_rfl)]; exact laidMet_laidAll _ (by kernel_rfl) (by kernel_rfl))) ?_
  intro W base args ds gs before hval0 hW _ hsz0 _ _
  have hval : ∀ (j : Nat) t v, Tryd.f7.params[j]? = some t → args[j]? = some v → Value.okWide Tryd.prog W .any base t v := hval0
  have hW' := hW
  obtain ⟨p, q, hA0, hV, rfl, _, _⟩ := hW
  have hA : DataW.TrodAll enc Tryd.prog W 0 (fun _ => true) true Tryd.f7.params.toList args.toList ds p := hA0
  rw [Tryd.params7] at hA hval
  obtain ⟨v0, vs0, d0, ds0, p0, q0, hargs, rfl, rfl, h0, r0⟩ := trodAll_cons hA
  obtain ⟨v1, vs1, d1, ds1, p1, q1, rfl, rfl, rfl, h1, r1⟩ := trodAll_cons r0
  obtain ⟨v2, vs2, d2, ds2, p2, q2, rfl, rfl, rfl, h2, r2⟩ := trodAll_cons r1
  obtain ⟨rfl, rfl, rfl⟩ := trodAll_nil r2
  obtain rfl : args = #[v0, v1, v2] := by cases args; simp_all
  obtain ⟨rfl, rfl⟩ := trodVars_none hV
  obtain ⟨a0, len0, cap0, rfl⟩ := okWide_slice Tryd.underlying44 (hval 0 44 v0 rfl rfl)
  have k0 := h0
  have lt0 : ∀ x ∈ p0, x.block < W.heap.size := by obtain ⟨m, hm⟩ := k0; exact DataW.trod_lt m _ _ _ hm
  obtain ⟨ops, ho1, ho2⟩ : ∃ ops, Rd W 4 a0 len0 cap0 (opcells ops) ∧ (∀ o ∈ ops, Rd W 2 o.la o.ln o.lc (cells o.l) ∧ InR o.l) := by
    obtain ⟨fuel, hf⟩ := h0
    obtain ⟨ops, g1, g2⟩ := ops_open hf
    refine ⟨ops, g1, fun o ho => ?_⟩
    obtain ⟨es, sp, d, hes, hoe, hrd, hys⟩ := g2 o ho
    refine ⟨hrd, fun y hy => ?_⟩
    obtain ⟨es2, sp2, rfl, hye⟩ := hys y hy
    simp only at hes
    subst hes
    refine el_small (sp := sp2) Tryd.underlying32 hye (fun m hm => ?_)
    have hm1 : m ∈ (opD o (.slice es2 sp2) : DataW H).weights Tryd.prog 46 := by
      simp only [opD, DataW.weights, Tryd.underlying46]
      exact DataW.weights_mem_each (j := 3) (t := 32) rfl rfl m hm
    have hm2 := List.all_eq_true.1 hsz0 m (DataW.weights_mem_each (ts := [44, 3, 4] ++ []) (j := 0) (t := 44) rfl rfl m (by
      simp only [DataW.weights]
      exact List.mem_cons_of_mem _ (List.mem_append_left _ (weightsAll_mem hoe m hm1))))
    have hm3 := of_decide_eq_true hm2
    unfold reachBytes at hm3
    omega
  obtain ⟨a1, rfl, rfl, rfl, w1⟩ := open_int Tryd.underlying3 (hval 1 3 v1 rfl rfl) h1
  obtain ⟨a2, rfl, rfl, rfl⟩ := open_bool Tryd.underlying4 (hval 2 4 v2 rfl rfl) h2
  clear hA0 hval0
  refine (walk a1 a2 a0 len0 cap0 ops W ho1 ho2).mono fun e W' ⟨he, hf⟩ => ?_
  subst he
  have bel : Below W.heap.size W W' := hf.below (Nat.le_refl _) (fun _ h => h.elim)
  exact ⟨_, rfl, _, _, _, [], _, [], hW', trodAll_mk1 (shut_bool Tryd.underlying4 _), (trodAll_cons_mk (Below.trod laidOut (by kernel_rfl) (of_decide_eq_true (by kernel_rfl)) k0 bel lt0) (trodAll_cons_mk (shut_int Tryd.underlying3 w1) (trodAll_cons_mk (shut_bool Tryd.underlying4 _) trodAll_mk0))), rfl, bel.frame _, fun h => by cases h⟩
theorem over : Rows.messageBrokenRow.holds Tryd.pinned (OpenSpec.ofChange Rows.messageBrokenSpec) :=
  OpenClaim.holds_of_wide 7 Tryd.f7 rfl rfl rfl rfl rfl rfl rfl ⟨rfl, rfl, rfl, rfl, rfl⟩ rfl rfl rfl rfl rfl (by kernel_rfl) Tryd.func7 (by kernel_rfl)
    (of_decide_eq_true (by kernel_rfl)) (by unfold Func.isWrapper; first | (rw [if_pos (by decide +kernel)]; kernel_rfl) | (rw [if_neg (by decide +kernel)]; exact ⟨rfl, rfl⟩))
    (fun os started H enc _ => lifted os started H enc)
end Go.Proofs.YtfejfaldjfichaaDoor.messageBroken
namespace Go.Proofs.YtfejfaldjfichaaDoor
/-- The card. -/
theorem messageBroken_holds : Rows.MessageBrokenCardSaid :=
  Claim7.holds_tied_plain_at .later [] [.data, .data, .data, .data, .sentinel, .sentinel, .pinned] true (true, Rows.messageBrokenCard.stood.harness.2) true
    messageBroken.over (fun _ h => by cases h) (by kernel_rfl) (fun _ h => by cases h) messageBroken_row_tie rfl ⟨rfl, rfl⟩ (by kernel_rfl) rfl
    (fun f fn hf hfn => by
      obtain rfl : f = 7 := Option.some.inj ((show Tryd.prog.funcNamed "bywash/bywashlaw15.MessageBroken" = some 7 by kernel_rfl).symm.trans hf) |>.symm
      obtain rfl : fn = Tryd.f7 := (Option.some.inj (Tryd.func7.symm.trans hfn)).symm
      exact ⟨by kernel_rfl, fun j t ht => by
        rw [Tryd.params7] at ht
        have hm : t ∈ [44, 3, 4] := by simpa using Array.mem_of_getElem? ht
        have hall : ([44, 3, 4].all fun u => !Tryd.prog.wantsStandIn u) = true := by kernel_rfl
        exact (show Tryd.prog.wantsStandIn t = false by simpa using List.all_eq_true.1 hall t hm)⟩)
    (by kernel_rfl)
#print axioms messageBroken_holds
end Go.Proofs.YtfejfaldjfichaaDoor
