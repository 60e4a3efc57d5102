/- Messages: what fields count; a request's headers. -/
import Derived.Test.YtfejfaldjfichaaDoorMsgF
namespace Go.Proofs.YtfejfaldjfichaaDoor
open Go.RowKit Go.Hp
set_option maxRecDepth 100000

/-- What a field counts. -/
def costE (x : El) : Int := (x.1.size : Int) + (x.2.size : Int) + 32
theorem cost_calls (x y : ByteArray) (w : World) (hx : x.size ≤ 140737488355328) (hy : y.size ≤ 140737488355328) :
    Calls Tryd.prog 33 #[.agg #[.string x, .string y]] w fun e w' => e = .returned (.int .i64 (costE (x, y))) ∧ Fr No w w' := by
  have h1 : IntKind.i64.wrap ((x.size : Int) + (y.size : Int)) = (x.size : Int) + (y.size : Int) := by apply IntWalk.i64_in; omega
  have h2 : IntKind.i64.wrap ((x.size : Int) + (y.size : Int) + 32) = (x.size : Int) + (y.size : Int) + 32 := by apply IntWalk.i64_in; omega
  go_enter Tryd.func33, Tryd.ntmps33
  go_wp2
  go_ret
  exact ⟨rfl, (Fr.refl No w).alloc _⟩
def sumE (l : List El) : Int := (l.map costE).sum
theorem costE_nonneg (x : El) : 0 ≤ costE x := by unfold costE; omega
theorem sumE_append (l l' : List El) : sumE (l ++ l') = sumE l + sumE l' := by simp [sumE]
theorem sumE_take_succ {l : List El} {k : Nat} (hk : k < l.length) : sumE (l.take (k + 1)) = sumE (l.take k) + costE (nth l k) := by
  rw [List.take_succ_eq_append_getElem hk, sumE_append, ← nth_getE hk]; simp [sumE]
/-- Fields that are few and short enough to be counted. -/
def Mid (xs : List El) : Prop := xs.length ≤ 2000000 ∧ ∀ x ∈ xs, x.1.size ≤ 4000000 ∧ x.2.size ≤ 4000000
theorem Mid.sz {xs : List El} (h : Mid xs) : SzOK xs := fun x hx => by have := h.2 x hx; omega
theorem Mid.cost {xs : List El} (h : Mid xs) : ∀ x ∈ xs, costE x ≤ 8000032 := fun x hx => by have := h.2 x hx; unfold costE; omega
theorem sumE_bound : ∀ {l : List El}, (∀ x ∈ l, costE x ≤ 8000032) → 0 ≤ sumE l ∧ sumE l ≤ 8000032 * l.length
  | [], _ => by simp [sumE]
  | y :: ys, h => by
    have h1 := h y (by simp)
    have h2 := sumE_bound (l := ys) (fun x hx => h x (by simp [hx]))
    have h3 := costE_nonneg y
    have e : sumE (y :: ys) = costE y + sumE ys := by simp [sumE]
    rw [e, List.length_cons]; omega
theorem size_of_cost {x : El} (h : costE x ≤ 8000032) : x.1.size ≤ 8000032 ∧ x.2.size ≤ 8000032 := by unfold costE at h; omega
theorem pack_sum_calls (a : Option Addr) (n c : Nat) (xs : List El) (w : World) (hx : Rd w 2 a n c (cells xs)) (hmid : Mid xs) :
    Calls Tryd.prog 17 #[.slice a n c] w fun e w' => e = .returned (.int .i64 (sumE xs)) ∧ Fr No w w' := by
  have hn := rd_xlen hx
  have c1 := hx.capLe; have c2 := hx.le
  have hn1 : n ≤ 2000000 := by rw [← hn]; exact hmid.1
  have HN := Lib.hid hn
  have HX := Lib.hid hx
  have HS := Lib.hid hmid.cost
  clear hn hx hmid
  go_enter Tryd.func17, Tryd.ntmps17
  go_wp2
  go_loopw [3, 8] (fun v i wr => ∃ k : Nat, k ≤ n ∧ i = .int .i64 k ∧ v = .int .i64 (sumE (xs.take k)) ∧ Fr No w wr) (fun _ i _ => n - (intOf i).toNat)
  case atStart => exact ⟨0, by omega, rfl, by simp [sumE], Fr.refl _ _⟩
  case round =>
    obtain ⟨k, hk, rfl, rfl, hfr⟩ := hrel
    by_cases hlt : k < n
    · have hkl : k < xs.length := by have := HN.out; omega
      have gx := cells_get xs k hkl
      have hx := HX.out.no hfr
      obtain ⟨g, off, rfl, hc⟩ := hx.cell gx.1
      obtain ⟨g2, off2, e2, hd⟩ := hx.cell gx.2
      injection e2 with e2; injection e2 with e2 e3; subst e2; subst e3
      rw [← Nat.add_assoc] at hd
      have hcx : costE (nth xs k) ≤ 8000032 := HS.out _ (by rw [nth_getE hkl]; exact List.getElem_mem _)
      have hsz := size_of_cost hcx
      have hsb := sumE_bound (l := xs.take k) (fun x hx => HS.out x (List.mem_of_mem_take hx))
      rw [List.length_take] at hsb
      have hcn := costE_nonneg (nth xs k)
      have HT := Lib.hid (sumE_take_succ hkl)
      obtain ⟨s, hse⟩ : ∃ s, sumE (xs.take k) = s := ⟨_, rfl⟩
      obtain ⟨x, hxe⟩ : ∃ x, nth xs k = x := ⟨_, rfl⟩
      rw [hxe] at hc hd hcx hsz HT hcn
      rw [hse] at hsb HT ⊢
      obtain ⟨x0, x1⟩ := x
      obtain ⟨cx, hcxe⟩ : ∃ cx, costE (x0, x1) = cx := ⟨_, rfl⟩
      rw [hcxe] at hcx HT hcn
      have HC := Lib.hid hcxe
      have HFR := Lib.hid hfr
      clear gx hx hse hxe hcxe hfr
      have b0 : (0 : Int) ≤ (k : Int) := by omega
      have b1 : (k : Int) < (n : Int) := by omega
      have b2 : IntKind.i64.wrap (s + cx) = s + cx := by apply IntWalk.i64_in; omega
      go_wp2_with fail
      refine (cost_calls x0 x1 _ (by omega) (by omega)).mono ?_
      rintro e w1 ⟨rfl, hf1⟩
      rw [HC.out]
      have HF := Lib.hid ((HFR.out.alloc _).then_ hf1)
      clear hf1
      go_wp2
      go_roundw
      case rel => exact ⟨k + 1, by omega, by go_num, by rw [HT.out], HF.out⟩
      case measure => simp [intOf]; omega
    · go_wp2
      go_ret
      have h2 := HN.out
      exact ⟨by rw [List.take_of_length_le (by omega)]; rfl, hfr⟩
end Go.Proofs.YtfejfaldjfichaaDoor
