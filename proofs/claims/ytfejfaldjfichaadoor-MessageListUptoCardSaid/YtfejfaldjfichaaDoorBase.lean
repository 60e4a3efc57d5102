/- The elements of the lists that are kept, in memory: Fields. -/
import Derived.Test.YtfejfaldjfichaaDoorProg
import Derived.Test.YtfejfaldjfichaaDoorHeap2
import Derived.BigQuiet
import Derived.KernelRfl
import Derived.WalkLawsBesides
import Derived.Lib.SliceRun
import Derived.Lib.Hide
import Derived.Deep.LoopGhost
import Derived.Deep.RegionHeld3
import Derived.Test.YtfejfaldjfichaaDoorEq
import Derived.ChangeKeysEq
namespace Go.Proofs.YtfejfaldjfichaaDoor
open Go.RowKit Go.Hp
set_option maxRecDepth 100000

attribute [local go_sem high] eqF
theorem infoE : (Tryd.prog.info? 30).map (fun i => (i.zero, i.size, i.bytes)) = some (some (.agg #[.string ⟨#[]⟩, .string ⟨#[]⟩]), 2, 32) := by kernel_rfl
theorem infoL : (Tryd.prog.info? 32).map (fun i => (i.zero, i.size, i.bytes)) = some (some (.slice none 0 0), 1, 24) := by kernel_rfl
abbrev El := ByteArray × ByteArray
abbrev z0 : El := (⟨#[]⟩, ⟨#[]⟩)
def cells (xs : List El) : List Value := xs.flatMap fun x => [.string x.1, .string x.2]
def nth (xs : List El) (k : Nat) : El := xs.getD k z0
theorem cells_len (xs : List El) : (cells xs).length = xs.length * 2 := by
  induction xs with
  | nil => rfl
  | cons x xs ih => simp only [cells, List.flatMap_cons, List.length_append, List.length_cons, List.length_nil] at *; rw [ih]; omega
theorem cells_one (xs : List El) : ∀ u ∈ cells xs, u.oneCell' = true := by
  intro u hu
  simp only [cells, List.mem_flatMap] at hu
  obtain ⟨x, _, h⟩ := hu
  simp at h
  rcases h with rfl | rfl <;> rfl
theorem cells_get (xs : List El) (j : Nat) (h : j < xs.length) : (cells xs)[j * 2]? = some (.string (nth xs j).1) ∧ (cells xs)[j * 2 + 1]? = some (.string (nth xs j).2) := by
  induction xs generalizing j with
  | nil => simp at h
  | cons x xs ih =>
    cases j with
    | zero => exact ⟨rfl, rfl⟩
    | succ j =>
      have := ih j (by simpa using h)
      simp only [cells, List.flatMap_cons] at *
      have e1 : (j + 1) * 2 = j * 2 + 2 := by omega
      rw [e1, List.getElem?_append_right (by simp), List.getElem?_append_right (by simp)]
      simpa [nth] using this
theorem cells_snoc (xs : List El) (x : El) : cells (xs ++ [x]) = cells xs ++ [.string x.1, .string x.2] := by simp [cells]
theorem cells_append (xs ys : List El) : cells (xs ++ ys) = cells xs ++ cells ys := by simp [cells]
theorem cells_inj : ∀ {xs ys : List El}, cells xs = cells ys → xs = ys
  | [], [], _ => rfl
  | [], y :: ys, h => by simp [cells] at h
  | x :: xs, [], h => by simp [cells] at h
  | x :: xs, y :: ys, h => by
    simp only [cells, List.flatMap_cons, List.cons_append, List.nil_append, List.cons.injEq, Value.string.injEq] at h
    obtain ⟨h1, h2, h3⟩ := h
    rw [Prod.ext h1 h2, cells_inj (xs := xs) (ys := ys) h3]
theorem zv_one : ∀ u ∈ (Value.cells (.agg #[.string ⟨#[]⟩, .string ⟨#[]⟩])).toList, u.oneCell' = true := by intro u hu; simp [Value.cells] at hu; rcases hu with rfl | rfl <;> rfl
theorem tl_eq {a b : ByteArray} : (a.toList == b.toList) = decide (a = b) := by
  rw [Bool.eq_iff_iff, decide_eq_true_iff, beq_iff_eq]
  constructor
  · intro h
    have e : ∀ x : ByteArray, x = ⟨x.toList.toArray⟩ := fun x => by rw [ByteArray.toList_eq]
    rw [e a, h, ← e b]
  · rintro rfl; rfl
theorem el_eq {x y : El} : (x.1.toList == y.1.toList && (x.2.toList == y.2.toList)) = decide (x = y) := by
  rw [tl_eq, tl_eq, Bool.eq_iff_iff]
  simp [Prod.ext_iff]
theorem take_step {xs ys : List El} {k : Nat} (h : xs.take k = ys.take k) (hx : k < xs.length) (hy : k < ys.length) (he : nth xs k = nth ys k) : xs.take (k + 1) = ys.take (k + 1) := by
  rw [List.take_succ_eq_append_getElem hx, List.take_succ_eq_append_getElem hy, h]
  simp [nth, List.getD, List.getElem?_eq_getElem hx, List.getElem?_eq_getElem hy] at he
  rw [he]
theorem differ_at {xs ys : List El} {k : Nat} (he : ¬ nth xs k = nth ys k) : decide (xs = ys) = false := by
  rw [decide_eq_false_iff_not]; rintro rfl; simp at he
theorem rd_xlen {w : World} {a : Option Addr} {n c : Nat} {xs : List El} (h : Rd w 2 a n c (cells xs)) : xs.length = n := by
  have := h.len; rw [cells_len] at this; omega

/-- A list of one's own in new memory is handed back; nothing else turns. -/
def Fresh (w : World) (n : Nat) (xs : List El) (e : Ending) (w' : World) : Prop :=
  ∃ a c r, e = .returned (.slice a n c) ∧ Row w' 30 2 a n c r (cells xs) ∧ (∀ k, r = some k → w.heap.size ≤ k) ∧ Fr No w w'

theorem App.fresh {w w0 w' : World} {e z m c' c : Nat} {r' : Option Nat} {cs : List Value} {a a' : Option Addr} (h : App w e z a 0 c none m cs a' c' r' w') (hf : Fr No w0 w) :
    Row w' e z a' m c' r' cs ∧ (∀ k, r' = some k → w0.heap.size ≤ k) ∧ Fr No w0 w' := by
  obtain ⟨h1, _, h2⟩ := h
  rw [Nat.zero_add] at h1
  refine ⟨h1, fun k hk => ?_, ?_⟩
  · rcases h2 with ⟨_, _, h2, _⟩ | ⟨h2, _⟩
    · rw [h2] at hk; cases hk
    · rw [h2] at hk; injection hk with hk; have := hf.size; omega
  · rcases h2 with ⟨_, _, _, h2, _⟩ | ⟨_, h2, _⟩
    · exact hf.trans h2 (fun _ _ h => by cases h)
    · exact hf.then_ h2

theorem clone_calls (a : Option Addr) (n c : Nat) (xs : List El) (w : World) (hr : Rd w 2 a n c (cells xs)) (hb : n * 32 ≤ 140737488355328) :
   Calls Tryd.prog 23 #[.slice a n c] w (Fresh w n xs) := by
  obtain ⟨i0, hi, hz0, hz1, hz2⟩ := info_parts infoE
  have q22 : ∀ (w : World) (a : Option Addr) (n c n' c' : Nat), (binOp .eql 32 (.slice a n c) (.slice none n' c')).run Tryd.prog w = .ok (.bool a.isNone) w := fun w a n c n' c' => Lib.run_eql_slice_nil w _ _ a n c n' c' Tryd.underlying32
  cases a with
  | none =>
    have hc : c = 0 := hr.2.2.2.1 rfl
    have hn : n = 0 := by have := hr.le; omega
    subst hc; subst hn
    have hl : xs = [] := List.eq_nil_of_length_eq_zero (rd_xlen hr)
    subst hl
    go_enter Tryd.func23, Tryd.ntmps23
    go_wp2
    go_ret
    exact ⟨none, 0, none, rfl, Row.nil _ _ _, (fun _ h => by cases h), Fr.refl _ _⟩
  | some ad =>
    go_enter Tryd.func23, Tryd.ntmps23
    go_wp2_with (at_builtin; refine wpList_app _ rfl _ _ 32 rfl 30 i0 (.agg #[.string ⟨#[]⟩, .string ⟨#[]⟩]) 2 32 Tryd.underlying32 hi hz0 hz1 hz2 rfl _ 0 0 rfl none [] (Row.empty _ _ _ _) _ n c rfl (cells xs) (hr.fr ((Fr.refl No w).alloc _) (fun _ _ h => h)) (cells_one xs) (by omega) (by omega) ?hK)
    intro a' c' r' w' hA
    go_wp2
    go_ret
    obtain ⟨h1, h2, h3⟩ := App.fresh hA ((Fr.refl No w).alloc _)
    exact ⟨a', c', r', by simp, by simpa using h1, h2, h3⟩

theorem same_calls (a b : Option Addr) (n c m d : Nat) (xs ys : List El) (w : World) (hx : Rd w 2 a n c (cells xs)) (hy : Rd w 2 b m d (cells ys)) :
   Calls Tryd.prog 16 #[.slice a n c, .slice b m d] w fun e w' => e = .returned (.bool (decide (xs = ys))) ∧ ∃ q, w' = w.drewN q := by
  have hn := rd_xlen hx
  have hm := rd_xlen hy
  have c1 := hx.capLe; have c2 := hx.le
  have d1 := hy.capLe; have d2 := hy.le
  by_cases hnm : n = m
  · subst hnm
    have HN := Lib.hid hn; have HM := Lib.hid hm
    clear hn hm
    obtain ⟨v, hv⟩ : ∃ v, v = decide (xs = ys) := ⟨_, rfl⟩
    rw [← hv]
    have HV := Lib.hid hv
    clear hv
    go_enter Tryd.func16, Tryd.ntmps16
    go_wp2
    go_loopw [5] (fun i wr => ∃ k : Nat, k ≤ n ∧ i = .int .i64 k ∧ xs.take k = ys.take k ∧ ∃ q, wr = w.drewN q) (fun i _ => n - (intOf i).toNat)
    case atStart => exact ⟨0, by omega, rfl, by simp, 0, rfl⟩
    case round =>
      obtain ⟨k, hk, rfl, hpre, q, rfl⟩ := hrel
      have HP := Lib.hid hpre
      clear hpre
      by_cases hlt : k < n
      · have gx := cells_get xs k (by have := HN.out; omega)
        have gy := cells_get ys k (by have := HM.out; omega)
        obtain ⟨g, off, rfl, hc⟩ := hx.cell gx.1
        obtain ⟨g2, off2, e2, hd⟩ := hx.cell gx.2
        injection e2 with e2; injection e2 with e2 e3; subst e2; subst e3
        rw [← Nat.add_assoc] at hd
        obtain ⟨g', off', rfl, hc'⟩ := hy.cell gy.1
        obtain ⟨g2, off2, e2, hd'⟩ := hy.cell gy.2
        injection e2 with e2; injection e2 with e2 e3; subst e2; subst e3
        rw [← Nat.add_assoc] at hd'
        clear gx gy
        have b0 : (0 : Int) ≤ (k : Int) := by omega
        have b1 : (k : Int) < (n : Int) := by omega
        by_cases he : nth xs k = nth ys k
        · have he' : ((nth xs k).1.toList == (nth ys k).1.toList && ((nth xs k).2.toList == (nth ys k).2.toList)) = true := by rw [el_eq]; simpa using he
          have HE := Lib.hid he
          clear he
          go_wp2
          go_quiet (fail)
          go_wp2
          go_roundw
          case rel => exact ⟨k + 1, by omega, by go_num, take_step HP.out (by have := HN.out; omega) (by have := HM.out; omega) HE.out, q + nq, rfl⟩
          case measure => simp [intOf]; omega
        · have he' : ((nth xs k).1.toList == (nth ys k).1.toList && ((nth xs k).2.toList == (nth ys k).2.toList)) = false := by rw [el_eq]; simpa using he
          have HE := Lib.hid he
          clear he
          go_wp2
          go_quiet (fail)
          go_wp2
          go_ret
          exact ⟨by rw [HV.out, differ_at HE.out]; rfl, q + nq, World.drewN_drewN _ _ _⟩
      · go_wp2
        go_ret
        have hk : k = n := by omega
        exact ⟨by
          have h1 := HP.out; have h2 := HN.out; have h3 := HM.out; have h4 := HV.out
          rw [List.take_of_length_le (by omega), List.take_of_length_le (by omega)] at h1
          rw [h4, h1]; simp, q, rfl⟩
  · have hne : ((n : Int) == (m : Int)) = false := by rw [beq_eq_false_iff_ne]; omega
    have hv : decide (xs = ys) = false := by rw [decide_eq_false_iff_not]; rintro rfl; omega
    rw [hv]
    clear hn hm hnm hv
    go_enter Tryd.func16, Tryd.ntmps16
    go_wp2
    go_ret
    exact ⟨rfl, 0, rfl⟩

end Go.Proofs.YtfejfaldjfichaaDoor
