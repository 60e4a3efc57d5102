/- Slices of fields, opened. -/
import Derived.Test.YtfejfaldjfichaaDoorMsgC
import Derived.Test.YtfejfaldjfichaaDoorRows
import Derived.WalkKit
import Derived.ProofKit
import Derived.OpenShut
import Derived.ChangeOld
import Derived.Below
import Derived.SizedLaws
import Derived.ShutString
import Derived.Deep.Strs
import Derived.Lib.SmallJoins
namespace Go.Proofs.YtfejfaldjfichaaDoor
open Go.ChangeShapes Go.WideShapes Go.ChangeAt Go.RowKit Go.Hp

set_option maxRecDepth 100000
section
variable {H : Type} {enc : TypeId × Value → H}
theorem cellLt {w : World} {a : Addr} {v : Value} (h : w.cell? a = some v) : a.block < w.heap.size := by
  unfold World.cell? at h
  split at h
  · rename_i hb; exact (Array.getElem?_eq_some_iff.1 hb).1
  · cases h
theorem weightsAll_mem {H : Type} {P : Program} {e : TypeId} : ∀ {l : List (DataW H)} {d : DataW H}, d ∈ l → ∀ n ∈ d.weights P e, n ∈ DataW.weightsAll P e l
  | d' :: r, d, hd, n, hn => by
    simp only [DataW.weightsAll, List.mem_append]
    rcases List.mem_cons.1 hd with rfl | h
    · exact Or.inl hn
    · exact Or.inr (weightsAll_mem h n hn)
def elD (x : El) : DataW H := .agg [.lit (.string x.1.data.toList), .lit (.string x.2.data.toList)]
/-- A slice of fields, opened. -/
theorem fields_open2 {W : World} {fuel : Nat} {a : Option Addr} {n c : Nat} {x : DataW H × List MemPlace} (h : DataW.trod enc Tryd.prog W 0 (fun _ => true) true fuel 32 [.slice a n c] = some x) :
    ∃ xs, Rd W 2 a n c (cells xs) ∧ ((xs = [] ∧ x.1 = .nil) ∨ ∃ sp, x.1 = .slice (xs.map elD) sp) := by
  rcases Go.Deep.open_slice Tryd.underlying32 h with ⟨h0, hx0⟩ | ⟨ad, len, cap, m, k, D, Pl, h0, hb, hl, hm, hmm, rfl, hx⟩
  · injection h0 with h0; injection h0 with e1 e2 e3
    subst e1; subst e2; subst e3
    exact ⟨[], Rd.nil W 2, .inl ⟨rfl, by rw [hx0]⟩⟩
  · injection h0 with h0; injection h0 with e1 e2 e3
    subst e1; subst e2; subst e3
    have hmc : m = c := by rw [hmm]; rfl
    subst hmc
    have ce : Tryd.prog.cellsOf 30 = 2 := by kernel_rfl
    have c9 : Tryd.prog.cellsOf 9 = 1 := by kernel_rfl
    have hI : ∀ i, i < n → ∃ p : El, W.cell? (ad.add (i * 2)) = some (.string p.1) ∧ W.cell? (ad.add (i * 2 + 1)) = some (.string p.2) ∧ D i = elD p := by
      intro i hi
      obtain ⟨cs', h1, h2⟩ := hx i (by omega)
      rw [ce] at h1
      obtain ⟨_, hlen, hcell⟩ := World.cells?_some h1
      obtain ⟨z0, z1, k3, hz, _, t0, t1⟩ := trod_struct2 Tryd.underlying30 h2
      match cs', hlen with
      | [v0, v1], _ =>
        simp only [c9, List.drop, List.take] at t0 t1
        obtain ⟨s0, f0, g0, _⟩ := DataW.trod_string Tryd.underlying9 t0
        obtain ⟨s1, f1, g1, _⟩ := DataW.trod_string Tryd.underlying9 t1
        injection f0 with f0; injection f1 with f1
        have q0 := hcell 0 (by omega)
        have q1 := hcell 1 (by omega)
        rw [Go.Deep.add_add] at q0 q1
        simp only [Prod.mk.injEq] at hz
        refine ⟨(s0, s1), by rw [← f0]; simpa using q0, by rw [← f1]; simpa using q1, ?_⟩
        rw [hz.1, g0, g1]; rfl
    have : Inhabited El := ⟨(⟨#[]⟩, ⟨#[]⟩)⟩
    obtain ⟨q, hq⟩ := Go.Deep.choose_lt hI
    refine ⟨(List.range n).map q, ⟨by rw [cells_len]; simp, hl, Nat.le_trans hm (by decide), (fun h => by cases h), fun h0 => ?_⟩, ?_⟩
    · obtain ⟨c0, _⟩ := hq 0 h0
      have hsp := World.cell?_spot c0
      obtain ⟨g, off, sp⟩ := ad
      obtain rfl : sp = none := by simpa [Addr.add] using hsp
      refine ⟨g, off, rfl, ?_, ?_⟩
      · have := cellLt c0
        simpa [Addr.add] using this
      · intro j u hu
        have hj : j < n * 2 := by
          have := (List.getElem?_eq_some_iff.1 hu).1
          rw [cells_len] at this; simpa using this
        obtain ⟨o1, o2⟩ := cells_get ((List.range n).map q) (j / 2) (by simp; omega)
        obtain ⟨q1, q2, _⟩ := hq (j / 2) (by omega)
        have hg : nth ((List.range n).map q) (j / 2) = q (j / 2) := by
          rw [nth_getE (by simp; omega)]; simp
        rw [hg] at o1 o2
        have h4 : j % 2 = 0 ∨ j % 2 = 1 := by omega
        rcases h4 with h2 | h2
        · have e : j = j / 2 * 2 := by omega
          rw [← e] at o1 q1
          rw [hu] at o1
          injection o1 with o1
          rw [o1]; rw [add_plain] at q1; exact q1
        · have e : j = j / 2 * 2 + 1 := by omega
          rw [← e] at o2 q2
          rw [hu] at o2
          injection o2 with o2
          rw [o2]; rw [add_plain] at q2; exact q2
    · refine .inr ⟨(List.range (m - n)).map fun j => D (n + j), ?_⟩
      show DataW.slice _ _ = _
      rw [List.map_map]
      congr 1
      apply List.map_congr_left
      intro i hi
      exact (hq i (List.mem_range.1 hi)).2.2
theorem fields_open {W : World} {fuel : Nat} {a : Option Addr} {n c : Nat} {x : DataW H × List MemPlace} (h : DataW.trod enc Tryd.prog W 0 (fun _ => true) true fuel 32 [.slice a n c] = some x) :
    ∃ xs, Rd W 2 a n c (cells xs) ∧ ∀ y ∈ xs, ∃ es sp, x.1 = .slice es sp ∧ elD y ∈ es := by
  obtain ⟨xs, h1, ⟨rfl, _⟩ | ⟨sp, h2⟩⟩ := fields_open2 h
  · exact ⟨[], h1, fun y hy => by cases hy⟩
  · exact ⟨xs, h1, fun y hy => ⟨_, sp, h2, List.mem_map_of_mem hy⟩⟩
/-- The texts of fields that lie in what is handed in are not long. -/
theorem el_small {y : El} {t : TypeId} {es sp : List (DataW H)} (ht : Tryd.prog.underlying t = some (.slice 30)) (he : (elD y : DataW H) ∈ es) (hw : ∀ m ∈ (DataW.slice es sp).weights Tryd.prog t, m ≤ 140737488355328) : y.1.size ≤ 140737488355328 ∧ y.2.size ≤ 140737488355328 := by
  have h1 : ∀ m ∈ (elD y : DataW H).weights Tryd.prog 30, m ≤ 140737488355328 := fun m hm => hw m (by
    simp only [DataW.weights, ht]
    exact List.mem_cons_of_mem _ (List.mem_append_left _ (weightsAll_mem he m hm)))
  refine ⟨?_, ?_⟩
  · have := h1 y.1.data.toList.length (by simp [elD, DataW.weights, DataW.weightsEach, Tryd.underlying30])
    simpa using this
  · have := h1 y.2.data.toList.length (by simp [elD, DataW.weights, DataW.weightsEach, Tryd.underlying30])
    simpa using this
end
end Go.Proofs.YtfejfaldjfichaaDoor
