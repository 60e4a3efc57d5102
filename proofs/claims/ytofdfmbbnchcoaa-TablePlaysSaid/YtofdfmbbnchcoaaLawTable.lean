/- The row of TablePlays: whatever the input, true, and the input reads as it did. -/
import Derived.Test.YtofdfmbbnchcoaaTabPlay
import Derived.Test.YtofdfmbbnchcoaaRows
import Derived.WalkKit
import Derived.ProofKit
import Derived.OpenShut
import Derived.ChangeOld
import Derived.Below
import Derived.SizedLaws
import Derived.Deep.Strs
namespace Go.Proofs.Ytofdfmbbnchcoaa.tablePlays
open Go.ChangeShapes Go.WideShapes Go.ChangeAt Go.RowKit Go.Hp
theorem own : ownKnob Try.prog.godebug = none := by kernel_rfl
theorem laidOut : laidOutB Try.prog = true := by kernel_rfl

section
variable {H : Type} {enc : TypeId × Value → H}
theorem cellLt {w : World} {a : Addr} {v : Value} (h : w.cell? a = some v) : a.block < w.heap.size := by
  unfold World.cell? at h
  split at h
  · rename_i hb; exact (Array.getElem?_eq_some_iff.1 hb).1
  · cases h
theorem weightsAll_mem {H : Type} {P : Program} {e : TypeId} : ∀ {l : List (DataW H)} {d : DataW H}, d ∈ l → ∀ n ∈ d.weights P e, n ∈ DataW.weightsAll P e l
  | d' :: r, d, hd, n, hn => by
    simp only [DataW.weightsAll, List.mem_append]
    rcases List.mem_cons.1 hd with rfl | h
    · exact Or.inl hn
    · exact Or.inr (weightsAll_mem h n hn)
/-- What an operation reads as. -/
def opD (o : OpV) : DataW H := .agg [.lit (.int .i64 o.kind), .lit (.int .i64 o.n), .agg [.lit (.string o.x.data.toList), .lit (.string o.y.data.toList)]]
/-- The slice of operations, opened. -/
theorem ops_open {W : World} {fuel : Nat} {a : Option Addr} {n c : Nat} {x : DataW H × List MemPlace} (h : DataW.trod enc Try.prog W 0 (fun _ => true) true fuel 22 [.slice a n c] = some x) :
    ∃ ops, Rd W 4 a n c (opcells ops) ∧ (∀ b, abk a n = some b → b < W.heap.size) ∧ ∀ o ∈ ops, ∃ es sp, x.1 = .slice es sp ∧ opD o ∈ es := by
  rcases Go.Deep.open_slice Try.underlying22 h with ⟨h0, _⟩ | ⟨ad, len, cap, m, k, D, Pl, h0, hb, hl, hm, hmm, rfl, hx⟩
  · injection h0 with h0; injection h0 with e1 e2 e3
    subst e1; subst e2; subst e3
    exact ⟨[], Rd.nil W 4, (fun b hb => by simp [abk] at hb), fun o ho => by cases ho⟩
  · injection h0 with h0; injection h0 with e1 e2 e3
    subst e1; subst e2; subst e3
    have hmc : m = c := by rw [hmm]; rfl
    subst hmc
    have ce : Try.prog.cellsOf 47 = 4 := by kernel_rfl
    have c3 : Try.prog.cellsOf 3 = 1 := by kernel_rfl
    have c9 : Try.prog.cellsOf 9 = 1 := by kernel_rfl
    have c28 : Try.prog.cellsOf 28 = 2 := by kernel_rfl
    have hI : ∀ i, i < n → ∃ p : OpV, W.cell? (ad.add (i * 4)) = some (.int .i64 p.kind) ∧ W.cell? (ad.add (i * 4 + 1)) = some (.int .i64 p.n) ∧ W.cell? (ad.add (i * 4 + 2)) = some (.string p.x) ∧ W.cell? (ad.add (i * 4 + 3)) = some (.string p.y) ∧ D i = opD p := by
      intro i hi
      obtain ⟨cs', h1, h2⟩ := hx i (by omega)
      rw [ce] at h1
      obtain ⟨_, hlen, hcell⟩ := World.cells?_some h1
      obtain ⟨y0, y1, y2, k2, hxy, _, u0, u1, u2⟩ := Go.Deep.trod_struct3 Try.underlying47 h2
      match cs', hlen with
      | [v0, v1, v2, v3], _ =>
        simp only [c3, c28, List.drop, List.take] at u0 u1 u2
        obtain ⟨z0, z1, k3, hz, _, t0, t1⟩ := trod_struct2 Try.underlying28 u2
        simp only [c9, List.drop, List.take] at t0 t1
        obtain ⟨n0, e0, d0, _⟩ := DataW.trod_int Try.underlying3 u0
        obtain ⟨n1, e1, d1, _⟩ := DataW.trod_int Try.underlying3 u1
        obtain ⟨s0, f0, g0, _⟩ := DataW.trod_string Try.underlying9 t0
        obtain ⟨s1, f1, g1, _⟩ := DataW.trod_string Try.underlying9 t1
        injection e0 with e0; injection e1 with e1; injection f0 with f0; injection f1 with f1
        have q0 := hcell 0 (by omega)
        have q1 := hcell 1 (by omega)
        have q2 := hcell 2 (by omega)
        have q3 := hcell 3 (by omega)
        rw [Go.Deep.add_add] at q0 q1 q2 q3
        simp only [Prod.mk.injEq] at hxy
        refine ⟨⟨n0, n1, s0, s1⟩, by rw [← e0]; simpa using q0, by rw [← e1]; simpa using q1, by rw [← f0]; simpa using q2, by rw [← f1]; simpa using q3, ?_⟩
        rw [hxy.1, d0, d1, hz, g0, g1]; rfl
    have : Inhabited OpV := ⟨op0⟩
    obtain ⟨q, hq⟩ := Go.Deep.choose_lt hI
    refine ⟨(List.range n).map q, ⟨by rw [opcells_len]; simp, hl, Nat.le_trans hm (by decide), (fun h => by cases h), fun h0 => ?_⟩, ?_, ?_⟩
    · obtain ⟨c0, _⟩ := hq 0 h0
      have hsp := World.cell?_spot c0
      obtain ⟨g, off, sp⟩ := ad
      obtain rfl : sp = none := by simpa [Addr.add] using hsp
      refine ⟨g, off, rfl, ?_, ?_⟩
      · have := cellLt c0
        simpa [Addr.add] using this
      · intro j u hu
        have hj : j < n * 4 := by
          have := (List.getElem?_eq_some_iff.1 hu).1
          rw [opcells_len] at this; simpa using this
        obtain ⟨o1, o2, o3, o4⟩ := opcells_get ((List.range n).map q) (j / 4) (by simp; omega)
        obtain ⟨q1, q2, q3, q4, _⟩ := hq (j / 4) (by omega)
        have hg : ((List.range n).map q).getD (j / 4) op0 = q (j / 4) := by
          simp [List.getD, show j / 4 < n by omega]
        rw [hg] at o1 o2 o3 o4
        have h4 : j % 4 = 0 ∨ j % 4 = 1 ∨ j % 4 = 2 ∨ j % 4 = 3 := by omega
        rcases h4 with h2 | h2 | h2 | h2
        · have e : j = j / 4 * 4 := by omega
          rw [← e] at o1 q1
          rw [hu] at o1
          injection o1 with o1
          rw [o1]; rw [add_plain] at q1; exact q1
        · have e : j = j / 4 * 4 + 1 := by omega
          rw [← e] at o2 q2
          rw [hu] at o2
          injection o2 with o2
          rw [o2]; rw [add_plain] at q2; exact q2
        · have e : j = j / 4 * 4 + 2 := by omega
          rw [← e] at o3 q3
          rw [hu] at o3
          injection o3 with o3
          rw [o3]; rw [add_plain] at q3; exact q3
        · have e : j = j / 4 * 4 + 3 := by omega
          rw [← e] at o4 q4
          rw [hu] at o4
          injection o4 with o4
          rw [o4]; rw [add_plain] at q4; exact q4
    · intro b hb
      simp only [abk] at hb
      split at hb
      · cases hb
      · rename_i h0
        obtain ⟨c0, _⟩ := hq 0 (by omega)
        have := cellLt c0
        simp at hb
        subst hb
        simpa [Addr.add] using this
    · intro o ho
      simp only [List.mem_map, List.mem_range] at ho
      obtain ⟨i, hi, rfl⟩ := ho
      exact ⟨_, _, rfl, by rw [← (hq i hi).2.2.2.2]; exact List.mem_map_of_mem (List.mem_range.2 hi)⟩

theorem walk (size : Int) (a : Option Addr) (n c : Nat) (ops : List OpV) (W : World) (h1 : Rd W 4 a n c (opcells ops)) (h2 : ∀ b, abk a n = some b → b < W.heap.size) (h3 : ∀ o ∈ ops, o.x.size ≤ 140737488355328 ∧ o.y.size ≤ 140737488355328) :
    Calls Try.prog 3 #[.int .i64 size, .slice a n c] W (AliveT W) := by
  by_cases hn : 80 < n
  · exact play_many size a n c W hn (Nat.le_trans h1.le h1.capLe)
  · by_cases hm : size < 0 ∨ 512 < size
    · exact play_none size a n c W (by omega) hm
    · exact play_calls size a n c ops W h1 h2 h3 (by omega) (by omega)
end

set_option maxRecDepth 100000 in
theorem lifted (os : Os) (started : os.Started) (H : Type) (enc : TypeId × Value → H) :
    ReturnsInHanded {} Try.checked os 3 .any (Rows.tablePlaysSpec.pre6 enc Try.prog Try.f3 Rows.tablePlaysRow.domain false) (Rows.tablePlaysSpec.post enc Try.prog Try.f3 false true false false) := by
  refine returnsInHanded_of_change_sized (C := Try.checked) own started (by kernel_rfl) Try.func3
    (ChangeSpec.witness6 (enc := enc) (C := Try.checked) false ⟨#[], #[.int .i64 0, .slice none 0 0], []⟩ 8 (by kernel_rfl) (by kernel_rfl) (by kernel_rfl) (by kernel_rfl)) ?_
  intro W base args ds gs before hval0 hW hcnd hsz0 _
  have hval : ∀ (j : Nat) t v, Try.f3.params[j]? = some t → args[j]? = some v → Value.okWide Try.prog W .any base t v := hval0
  have hW' := hW
  obtain ⟨p, q, hA0, hV, rfl, hfz, hnd⟩ := hW
  have hA : DataW.TrodAll enc Try.prog W 0 (fun _ => true) true Try.f3.params.toList args.toList ds p := hA0
  rw [Try.params3] at hA hval
  obtain ⟨v0, vs0, d0, ds0, p0, q0, hargs, rfl, rfl, h0, r0⟩ := trodAll_cons hA
  obtain ⟨v1, vs1, d1, ds1, p1, q1, rfl, rfl, rfl, h1, r1⟩ := trodAll_cons r0
  obtain ⟨rfl, rfl, rfl⟩ := trodAll_nil r1
  obtain rfl : args = #[v0, v1] := by cases args; simp_all
  obtain ⟨rfl, rfl⟩ := trodVars_none hV
  obtain ⟨a0, rfl, rfl, rfl, w0⟩ := open_int Try.underlying3 (hval 0 3 v0 rfl rfl) h0
  obtain ⟨a1, len1, cap1, rfl⟩ := okWide_slice Try.underlying22 (hval 1 22 v1 rfl rfl)
  have k1 := h1
  have lt1 : ∀ x ∈ p1, x.block < W.heap.size := by obtain ⟨m, hm⟩ := k1; exact DataW.trod_lt m _ _ _ hm
  obtain ⟨ops, ho1, ho2, ho3⟩ : ∃ ops, Rd W 4 a1 len1 cap1 (opcells ops) ∧ (∀ b, abk a1 len1 = some b → b < W.heap.size) ∧ (∀ o ∈ ops, o.x.size ≤ 140737488355328 ∧ o.y.size ≤ 140737488355328) := by
    obtain ⟨fuel, hf⟩ := h1
    obtain ⟨ops, g1, g2, g3⟩ := ops_open hf
    refine ⟨ops, g1, g2, fun o ho => ?_⟩
    obtain ⟨es, sp, hes, hoe⟩ := g3 o ho
    simp only at hes
    subst hes
    have hw : ∀ m ∈ (opD o : DataW H).weights Try.prog 47, m ≤ 140737488355328 := by
      intro m hm
      have hm2 := List.all_eq_true.1 hsz0 m (DataW.weights_mem_each (ts := [3, 22] ++ []) (j := 1) (t := 22) rfl rfl m (by
        simp only [DataW.weights]
        exact List.mem_cons_of_mem _ (List.mem_append_left _ (weightsAll_mem hoe m hm))))
      have hm3 := of_decide_eq_true hm2
      unfold reachBytes at hm3
      omega
    refine ⟨?_, ?_⟩
    · have := hw o.x.data.toList.length (by simp [opD, DataW.weights, DataW.weightsEach, Try.underlying47, Try.underlying28])
      simpa using this
    · have := hw o.y.data.toList.length (by simp [opD, DataW.weights, DataW.weightsEach, Try.underlying47, Try.underlying28])
      simpa using this
  clear hA0 hval0 hsz0
  refine (walk a0 a1 len1 cap1 ops W ho1 ho2 ho3).mono fun e W' ⟨he, bel⟩ => ?_
  subst he
  exact ⟨_, rfl, _, _, _, [], _, [], hW', trodAll_mk1 (shut_bool Try.underlying4 _), (trodAll_cons_mk (shut_int Try.underlying3 w0) (trodAll_cons_mk (Below.trod laidOut (by kernel_rfl) (of_decide_eq_true (by kernel_rfl)) k1 bel lt1) trodAll_mk0)), rfl, bel.frame _, fun h => by cases h⟩
theorem over : Rows.tablePlaysRow.holds Try.pinned (OpenSpec.ofChange Rows.tablePlaysSpec) :=
  OpenClaim.holds_of_wide 3 Try.f3 rfl rfl rfl rfl rfl rfl rfl ⟨rfl, rfl, rfl, rfl, rfl⟩ rfl rfl rfl rfl rfl (by kernel_rfl) Try.func3 (by kernel_rfl)
    (of_decide_eq_true (by kernel_rfl)) (by unfold Func.isWrapper; first | (rw [if_pos (by decide +kernel)]; kernel_rfl) | (rw [if_neg (by decide +kernel)]; exact ⟨rfl, rfl⟩))
    (fun os started H enc _ => lifted os started H enc)
end Go.Proofs.Ytofdfmbbnchcoaa.tablePlays
namespace Go.Proofs.Ytofdfmbbnchcoaa
/-- The row. -/
theorem tablePlays_holds : Rows.TablePlaysSaid := tablePlays.over
#print axioms tablePlays_holds
end Go.Proofs.Ytofdfmbbnchcoaa
