/- The table of headers: Find; the document's At, Find, Sum. -/
import Derived.Test.YtofdfmbbnchcoaaTab3
namespace Go.Proofs.Ytofdfmbbnchcoaa
open Go.RowKit Go.Hp
set_option maxRecDepth 100000
attribute [local go_sem high] eqF

/-- Where a field is found, or its name. -/
def findL (L : List El) (f : El) : Int × Bool := if idx L f < 0 then (1 + idn L f.1, false) else (idx L f + 1, true)

theorem find_calls (p : Value) (l : List El) (x0 x1 : ByteArray) (w : World) (h : Tabs w l p) (hl : l.length ≤ 1000000) :
    Calls Try.prog 15 #[p, .agg #[.string x0, .string x1]] w fun e w' => e = .returned (.tuple #[.int .i64 (findL (fixedL ++ l) (x0, x1)).1, .bool (findL (fixedL ++ l) (x0, x1)).2]) ∧ Fr No w w' := by
  have HW := Lib.hid (fun o => whole_calls p l (w.alloc o) (h.no ((Fr.refl No w).alloc o)) hl)
  have hbx : Bk (w.alloc (.cells #[.string x0, .string x1] 28)) w.heap.size [.string x0, .string x1] 28 := Bk.new w [.string x0, .string x1] 28
  have hlt := idx_lt (fixedL ++ l) (x0, x1)
  have hlt2 := idn_lt (fixedL ++ l) x0
  have hlen : (fixedL ++ l).length = 16 + l.length := by rw [List.length_append]; rfl
  obtain ⟨L, hL⟩ : ∃ L, fixedL ++ l = L := ⟨_, rfl⟩
  rw [hL] at HW hlt hlt2 hlen ⊢
  obtain ⟨nl, hnl⟩ : ∃ nl, 16 + l.length = nl := ⟨_, rfl⟩
  rw [hnl] at HW hlen
  have hnb : nl ≤ 1000016 := by omega
  obtain ⟨i, hi⟩ : ∃ i, idx L (x0, x1) = i := ⟨_, rfl⟩
  obtain ⟨j, hj⟩ : ∃ j, idn L x0 = j := ⟨_, rfl⟩
  rw [hi] at hlt; rw [hj] at hlt2
  have HI := Lib.hid hi
  have HJ := Lib.hid hj
  rw [hlen] at hlt hlt2
  clear h hL hlen hl hnl
  have w1 : IntKind.i64.wrap (i + 1) = i + 1 := by apply IntWalk.i64_in; omega
  have w2 : IntKind.i64.wrap (1 + j) = 1 + j := by apply IntWalk.i64_in; omega
  by_cases h0 : i < 0
  · have hf : findL L (x0, x1) = (1 + j, false) := by unfold findL; rw [hi, hj, if_pos h0]
    rw [hf]
    clear hf hi hj
    have h1 : ¬ (0 ≤ i) := by omega
    go_enter Try.func15, Try.ntmps15
    go_wp2_with fail
    refine (HW.out _).mono ?_
    rintro e w3 ⟨a1, c1, r1, rfl, h1, hb1, hf1⟩
    have hb3 := hbx.no hf1
    have d0 : w3.cell? ⟨w.heap.size, 0, none⟩ = some (.string x0) := hb3.cell 0
    have d1 : w3.cell? ⟨w.heap.size, 1, none⟩ = some (.string x1) := hb3.cell 1
    have HF := Lib.hid (((Fr.refl No w).alloc _).then_ hf1)
    clear hf1 hbx hb1
    go_wp2_with fail
    refine (index_calls a1 nl c1 x0 x1 L w3 h1.rd).mono ?_
    rintro e w4 ⟨rfl, hf4⟩
    rw [HI.out]
    go_wp2_with fail
    refine (named_index_calls a1 nl c1 x0 x1 w.heap.size L w4 (h1.rd.no hf4) (hb3.no hf4)).mono ?_
    rintro e w5 ⟨rfl, hf5⟩
    rw [HJ.out]
    go_wp2
    go_ret2
    exact ⟨rfl, (HF.out.then_ hf4).then_ hf5⟩
  · have hf : findL L (x0, x1) = (i + 1, true) := by unfold findL; rw [hi, if_neg h0]
    rw [hf]
    clear hf hi hj
    have h1 : 0 ≤ i := by omega
    go_enter Try.func15, Try.ntmps15
    go_wp2_with fail
    refine (HW.out _).mono ?_
    rintro e w3 ⟨a1, c1, r1, rfl, h1, hb1, hf1⟩
    have hb3 := hbx.no hf1
    have d0 : w3.cell? ⟨w.heap.size, 0, none⟩ = some (.string x0) := hb3.cell 0
    have d1 : w3.cell? ⟨w.heap.size, 1, none⟩ = some (.string x1) := hb3.cell 1
    have HF := Lib.hid (((Fr.refl No w).alloc _).then_ hf1)
    clear hf1 hbx hb1
    go_wp2_with fail
    refine (index_calls a1 nl c1 x0 x1 L w3 h1.rd).mono ?_
    rintro e w4 ⟨rfl, hf4⟩
    rw [HI.out]
    go_wp2
    go_ret2
    exact ⟨rfl, HF.out.then_ hf4⟩

theorem costE_nonneg (x : El) : 0 ≤ costE x := by unfold costE; omega
theorem sumE_append (l l' : List El) : sumE (l ++ l') = sumE l + sumE l' := by simp [sumE]
theorem sumE_take_succ {l : List El} {k : Nat} (hk : k < l.length) : sumE (l.take (k + 1)) = sumE (l.take k) + costE (nth l k) := by
  rw [List.take_succ_eq_append_getElem hk, sumE_append, ← nth_get hk]; simp [sumE]
theorem sumE_bound : ∀ {l : List El}, (∀ x ∈ l, costE x ≤ 1000) → 0 ≤ sumE l ∧ sumE l ≤ 1000 * l.length
  | [], _ => by simp [sumE]
  | y :: ys, h => by
    have h1 := h y (by simp)
    have h2 := sumE_bound (l := ys) (fun x hx => h x (by simp [hx]))
    have h3 := costE_nonneg y
    have e : sumE (y :: ys) = costE y + sumE ys := by simp [sumE]
    rw [e, List.length_cons]; omega
theorem size_of_cost {x : El} (h : costE x ≤ 1000) : x.1.size ≤ 1000 ∧ x.2.size ≤ 1000 := by unfold costE at h; omega

theorem sum_calls (a : Option Addr) (n c : Nat) (xs : List El) (w : World) (hx : Rd w 2 a n c (cells xs)) (hs : ∀ x ∈ xs, costE x ≤ 1000) (hn1 : n ≤ 1000) :
    Calls Try.prog 18 #[.slice a n c] w fun e w' => e = .returned (.int .i64 (sumE xs)) ∧ Fr No w w' := by
  have hn := rd_xlen hx
  have c1 := hx.capLe; have c2 := hx.le
  have HN := Lib.hid hn
  have HX := Lib.hid hx
  have HS := Lib.hid hs
  clear hn hx hs
  go_enter Try.func18, Try.ntmps18
  go_wp2
  go_loopw [3, 4] (fun v i wr => ∃ k : Nat, k ≤ n ∧ i = .int .i64 k ∧ v = .int .i64 (sumE (xs.take k)) ∧ Fr No w wr) (fun _ i _ => n - (intOf i).toNat)
  case atStart => exact ⟨0, by omega, rfl, by simp [sumE], Fr.refl _ _⟩
  case round =>
    obtain ⟨k, hk, rfl, rfl, hfr⟩ := hrel
    by_cases hlt : k < n
    · have hkl : k < xs.length := by have := HN.out; omega
      have gx := cells_get xs k hkl
      have hx := HX.out.no hfr
      obtain ⟨g, off, rfl, hc⟩ := hx.cell gx.1
      obtain ⟨g2, off2, e2, hd⟩ := hx.cell gx.2
      injection e2 with e2; injection e2 with e2 e3; subst e2; subst e3
      rw [← Nat.add_assoc] at hd
      have hcx : costE (nth xs k) ≤ 1000 := HS.out _ (by rw [nth_get hkl]; exact List.getElem_mem _)
      have hsz := size_of_cost hcx
      have hsb := sumE_bound (l := xs.take k) (fun x hx => HS.out x (List.mem_of_mem_take hx))
      rw [List.length_take] at hsb
      have hcn := costE_nonneg (nth xs k)
      have HT := Lib.hid (sumE_take_succ hkl)
      obtain ⟨s, hse⟩ : ∃ s, sumE (xs.take k) = s := ⟨_, rfl⟩
      obtain ⟨x, hxe⟩ : ∃ x, nth xs k = x := ⟨_, rfl⟩
      rw [hxe] at hc hd hcx hsz HT hcn
      rw [hse] at hsb HT ⊢
      obtain ⟨x0, x1⟩ := x
      obtain ⟨cx, hcxe⟩ : ∃ cx, costE (x0, x1) = cx := ⟨_, rfl⟩
      rw [hcxe] at hcx HT hcn
      have HC := Lib.hid hcxe
      clear gx hx hse hxe hcxe
      have b0 : (0 : Int) ≤ (k : Int) := by omega
      have b1 : (k : Int) < (n : Int) := by omega
      have b2 : IntKind.i64.wrap (s + cx) = s + cx := by apply IntWalk.i64_in; omega
      go_wp2_with fail
      refine (cost_ref_calls x0 x1 wr (by omega) (by omega)).mono ?_
      rintro e w1 ⟨rfl, hf1⟩
      rw [HC.out]
      go_wp2
      go_roundw
      case rel => exact ⟨k + 1, by omega, by go_num, by rw [HT.out], hfr.then_ hf1⟩
      case measure => simp [intOf]; omega
    · go_wp2
      go_ret
      have h2 := HN.out
      exact ⟨by rw [List.take_of_length_le (by omega)]; rfl, hfr⟩
end Go.Proofs.Ytofdfmbbnchcoaa
