/- Messages: places by a function value; a length. -/
import Derived.Test.YtfejfaldjfichaaDoorMsgC
namespace Go.Proofs.YtfejfaldjfichaaDoor
open Go.RowKit Go.Hp
set_option maxRecDepth 100000

/-- Is a field a length that is another one than s? -/
def otherB (s : ByteArray) (x : El) : Bool := x.1.toList == [99, 111, 110, 116, 101, 110, 116, 45, 108, 101, 110, 103, 116, 104] && !(x.2.toList == s.toList)
/-- Is a field the status? -/
def statB (x : El) : Bool := x.1.toList == [58, 115, 116, 97, 116, 117, 115]

theorem other_calls (x0 x1 s : ByteArray) (bs : Nat) (w : World) (hb : Bk w bs [.string s] 9) :
    Calls Tryd.prog 42 #[.agg #[.string x0, .string x1], .pointer (some ⟨bs, 0, none⟩)] w fun e w' => e = .returned (.bool (otherB s (x0, x1))) ∧ Fr No w w' := by
  have hb1 : Bk (w.alloc (.cells #[.string x0, .string x1] 30)) bs [.string s] 9 := hb.alloc _
  have d0 : (w.alloc (.cells #[.string x0, .string x1] 30)).cell? ⟨bs, 0, none⟩ = some (.string s) := hb1.cell 0
  cases h1 : (x0.toList == [99, 111, 110, 116, 101, 110, 116, 45, 108, 101, 110, 103, 116, 104]) with
  | true =>
    go_enter Tryd.func42, Tryd.ntmps42
    go_wp2
    go_ret
    exact ⟨ret_bool (by unfold otherB; rw [h1]; rfl), (Fr.refl No w).alloc _⟩
  | false =>
    go_enter Tryd.func42, Tryd.ntmps42
    go_wp2
    go_ret
    exact ⟨ret_bool (by unfold otherB; rw [h1]; rfl), (Fr.refl No w).alloc _⟩
theorem stat_calls (x0 x1 : ByteArray) (w : World) :
    Calls Tryd.prog 30 #[.agg #[.string x0, .string x1]] w fun e w' => e = .returned (.bool (statB (x0, x1))) ∧ Fr No w w' := by
  go_enter Tryd.func30, Tryd.ntmps30
  go_wp2
  go_ret
  exact ⟨rfl, (Fr.refl No w).alloc _⟩

/-- The first place of one that p speaks of; -1. -/
def IdxF (p : El → Bool) (xs : List El) (w : World) (e : Ending) (w' : World) : Prop :=
  ∃ i : Int, e = .returned (.int .i64 i) ∧ ((i = -1 ∧ xs.any p = false) ∨ ∃ k : Nat, i = k ∧ k < xs.length ∧ p (nth xs k) = true ∧ (xs.take k).any p = false) ∧ Fr No w w'
theorem any_step {p : El → Bool} {xs : List El} {k : Nat} (hk : k < xs.length) (h : (xs.take k).any p = false) (he : p (nth xs k) = false) : (xs.take (k + 1)).any p = false := by
  rw [List.take_succ_eq_append_getElem hk, List.any_append, h, ← nth_getE hk]
  simp [he]
theorem any_at {p : El → Bool} {xs : List El} {k : Nat} (hk : k < xs.length) (he : p (nth xs k) = true) : xs.any p = true := by
  rw [List.any_eq_true]
  exact ⟨_, by rw [nth_getE hk]; exact List.getElem_mem _, he⟩

set_option maxHeartbeats 1000000 in
theorem index_other_calls (a : Option Addr) (n c : Nat) (s : ByteArray) (bs : Nat) (xs : List El) (w : World) (hx : Rd w 2 a n c (cells xs)) (hb : Bk w bs [.string s] 9) :
    Calls Tryd.prog 40 #[.slice a n c, .func (.func 42) #[] #[.pointer (some ⟨bs, 0, none⟩)]] w (IdxF (otherB s) xs w) := by
  have hn := rd_xlen hx
  have c1 := hx.capLe; have c2 := hx.le
  have HN := Lib.hid hn
  have HX := Lib.hid hx
  have HB := Lib.hid hb
  clear hb
  clear hn hx
  go_enter Tryd.func40, Tryd.ntmps40
  go_wp2
  go_loopw [8] (fun i wr => ∃ k : Nat, k ≤ n ∧ i = .int .i64 k ∧ (xs.take k).any (otherB s) = false ∧ Fr No w wr) (fun i _ => n - (intOf i).toNat)
  case atStart => exact ⟨0, by omega, rfl, by simp, Fr.refl _ _⟩
  case round =>
    obtain ⟨k, hk, rfl, hpre, hfr⟩ := hrel
    have HP := Lib.hid hpre
    clear hpre
    by_cases hlt : k < n
    · have hkl : k < xs.length := by have := HN.out; omega
      have gx := cells_get xs k hkl
      have hx := HX.out.no hfr
      obtain ⟨g, off, rfl, hc⟩ := hx.cell gx.1
      obtain ⟨g2, off2, e2, hd⟩ := hx.cell gx.2
      injection e2 with e2; injection e2 with e2 e3; subst e2; subst e3
      rw [← Nat.add_assoc] at hd
      clear gx hx
      have b0 : (0 : Int) ≤ (k : Int) := by omega
      have b1 : (k : Int) < (n : Int) := by omega
      have HFR := Lib.hid hfr
      clear hfr
      go_wp2_with fail
      refine (other_calls _ _ s bs _ (HB.out.no HFR.out)).mono ?_
      rintro e w1 ⟨rfl, hf1⟩
      have HF := Lib.hid (HFR.out.then_ hf1)
      clear hf1
      cases he : otherB s ((nth xs k).1, (nth xs k).2) with
      | true =>
        have HE := Lib.hid he
        clear he
        go_wp2
        go_ret
        exact ⟨k, rfl, .inr ⟨k, rfl, hkl, HE.out, HP.out⟩, HF.out⟩
      | false =>
        have HE := Lib.hid he
        clear he
        go_wp2
        go_roundw
        case rel => exact ⟨k + 1, by omega, by go_num, any_step hkl HP.out HE.out, HF.out⟩
        case measure => simp [intOf]; omega
    · go_wp2
      go_ret
      exact ⟨-1, rfl, .inl ⟨rfl, by
        have h1 := HP.out; have h2 := HN.out
        rw [List.take_of_length_le (by omega)] at h1
        exact h1⟩, hfr⟩

set_option maxHeartbeats 1000000 in
theorem index_stat_calls (a : Option Addr) (n c : Nat)  (xs : List El) (w : World) (hx : Rd w 2 a n c (cells xs)) :
    Calls Tryd.prog 40 #[.slice a n c, .func (.func 30) #[] #[]] w (IdxF (statB) xs w) := by
  have hn := rd_xlen hx
  have c1 := hx.capLe; have c2 := hx.le
  have HN := Lib.hid hn
  have HX := Lib.hid hx
  clear hn hx
  go_enter Tryd.func40, Tryd.ntmps40
  go_wp2
  go_loopw [8] (fun i wr => ∃ k : Nat, k ≤ n ∧ i = .int .i64 k ∧ (xs.take k).any (statB) = false ∧ Fr No w wr) (fun i _ => n - (intOf i).toNat)
  case atStart => exact ⟨0, by omega, rfl, by simp, Fr.refl _ _⟩
  case round =>
    obtain ⟨k, hk, rfl, hpre, hfr⟩ := hrel
    have HP := Lib.hid hpre
    clear hpre
    by_cases hlt : k < n
    · have hkl : k < xs.length := by have := HN.out; omega
      have gx := cells_get xs k hkl
      have hx := HX.out.no hfr
      obtain ⟨g, off, rfl, hc⟩ := hx.cell gx.1
      obtain ⟨g2, off2, e2, hd⟩ := hx.cell gx.2
      injection e2 with e2; injection e2 with e2 e3; subst e2; subst e3
      rw [← Nat.add_assoc] at hd
      clear gx hx
      have b0 : (0 : Int) ≤ (k : Int) := by omega
      have b1 : (k : Int) < (n : Int) := by omega
      have HFR := Lib.hid hfr
      clear hfr
      go_wp2_with fail
      refine (stat_calls _ _ _).mono ?_
      rintro e w1 ⟨rfl, hf1⟩
      have HF := Lib.hid (HFR.out.then_ hf1)
      clear hf1
      cases he : statB ((nth xs k).1, (nth xs k).2) with
      | true =>
        have HE := Lib.hid he
        clear he
        go_wp2
        go_ret
        exact ⟨k, rfl, .inr ⟨k, rfl, hkl, HE.out, HP.out⟩, HF.out⟩
      | false =>
        have HE := Lib.hid he
        clear he
        go_wp2
        go_roundw
        case rel => exact ⟨k + 1, by omega, by go_num, any_step hkl HP.out HE.out, HF.out⟩
        case measure => simp [intOf]; omega
    · go_wp2
      go_ret
      exact ⟨-1, rfl, .inl ⟨rfl, by
        have h1 := HP.out; have h2 := HN.out
        rw [List.take_of_length_le (by omega)] at h1
        exact h1⟩, hfr⟩

theorem contains_other_calls (a : Option Addr) (n c : Nat) (s : ByteArray) (bs : Nat) (xs : List El) (w : World) (hx : Rd w 2 a n c (cells xs)) (hb : Bk w bs [.string s] 9) :
    Calls Tryd.prog 41 #[.slice a n c, .func (.func 42) #[] #[.pointer (some ⟨bs, 0, none⟩)]] w fun e w' => e = .returned (.bool (xs.any (otherB s))) ∧ Fr No w w' := by
  have HX := Lib.hid hx
  have HB := Lib.hid hb
  clear hx hb
  go_enter Tryd.func41, Tryd.ntmps41
  go_wp2_with fail
  refine (index_other_calls a n c s bs xs w HX.out HB.out).mono ?_
  rintro e w' ⟨i, rfl, hi, hf⟩
  have hd : decide (0 ≤ i) = xs.any (otherB s) := by
    rcases hi with ⟨rfl, h⟩ | ⟨k, rfl, hk, he, _⟩
    · rw [h]; rfl
    · rw [any_at hk he]; simp
  have HD := Lib.hid hd
  clear hd hi
  go_wp2
  go_ret
  exact ⟨ret_bool HD.out, hf⟩
end Go.Proofs.YtfejfaldjfichaaDoor
