/- Messages: few and short fields; what is behind an error. -/
import Derived.Test.YtfejfaldjfichaaDoorMsgV
namespace Go.Proofs.YtfejfaldjfichaaDoor
open Go.RowKit Go.Hp
set_option maxRecDepth 100000

/-- Texts as long as the form lets them be. -/
def InR (xs : List El) : Prop := ∀ x ∈ xs, x.1.size ≤ 140737488355328 ∧ x.2.size ≤ 140737488355328
def lenE (x : El) : Nat := x.1.size + x.2.size
def lenL (l : List El) : Nat := (l.map lenE).sum
theorem lenL_succ {l : List El} {k : Nat} (hk : k < l.length) : lenL (l.take (k + 1)) = lenL (l.take k) + lenE (nth l k) := by
  rw [List.take_succ_eq_append_getElem hk, ← nth_getE hk]; simp [lenL]
theorem lenL_le : ∀ {l : List El}, InR l → lenL l ≤ 281474976710656 * l.length
  | [], _ => by simp [lenL]
  | y :: ys, h => by
    have h1 := h y (by simp)
    have h2 := lenL_le (l := ys) (fun x hx => h x (by simp [hx]))
    have e : lenL (y :: ys) = lenE y + lenL ys := by simp [lenL]
    rw [e, List.length_cons]; unfold lenE; omega
theorem lenL_mem : ∀ {l : List El} {x : El}, x ∈ l → lenE x ≤ lenL l
  | y :: ys, x, h => by
    have e : lenL (y :: ys) = lenE y + lenL ys := by simp [lenL]
    rw [e]
    rcases List.mem_cons.1 h with rfl | h
    · omega
    · have := lenL_mem h; omega
theorem few_mid {l : List El} (h1 : l.length ≤ 40) (h2 : lenL l ≤ 4000) : Mid l := ⟨by omega, fun x hx => by have := lenL_mem hx; unfold lenE at this; omega⟩
def FewQ (xs : List El) (w : World) (e : Ending) (w' : World) : Prop := ∃ b, e = .returned (.bool b) ∧ (b = true → Mid xs ∧ xs.length ≤ 40) ∧ Fr No w w'
set_option maxHeartbeats 1000000 in
theorem few_calls (a : Option Addr) (n c : Nat) (xs : List El) (w : World) (hx : Rd w 2 a n c (cells xs)) (hsz : InR xs) :
    Calls Tryd.prog 19 #[.slice a n c] w (FewQ xs w) := by
  have hn := rd_xlen hx
  have c1 := hx.capLe; have c2 := hx.le
  have HN := Lib.hid hn
  have HX := Lib.hid hx
  have HSZ := Lib.hid hsz
  clear hn hx hsz
  by_cases h40 : n ≤ 40
  · go_enter Tryd.func19, Tryd.ntmps19
    go_wp2
    go_loopw [3, 8] (fun v i wr => ∃ k : Nat, k ≤ n ∧ i = .int .i64 k ∧ v = .int .i64 ((lenL (xs.take k) : Nat) : Int) ∧ Fr No w wr) (fun _ i _ => n - (intOf i).toNat)
    case atStart => exact ⟨0, by omega, rfl, by simp [lenL], Fr.refl _ _⟩
    case round =>
      obtain ⟨k, hk, rfl, rfl, hfr⟩ := hrel
      by_cases hlt : k < n
      · have hkl : k < xs.length := by have := HN.out; omega
        have gx := cells_get xs k hkl
        have hx := HX.out.no hfr
        obtain ⟨g, off, rfl, hc⟩ := hx.cell gx.1
        obtain ⟨g2, off2, e2, hd⟩ := hx.cell gx.2
        injection e2 with e2; injection e2 with e2 e3; subst e2; subst e3
        rw [← Nat.add_assoc] at hd
        have hsz := HSZ.out _ (show nth xs k ∈ xs by rw [nth_getE hkl]; exact List.getElem_mem _)
        have hsb := lenL_le (l := xs.take k) (fun x hx => HSZ.out x (List.mem_of_mem_take hx))
        rw [List.length_take] at hsb
        have HT := Lib.hid (lenL_succ hkl)
        obtain ⟨s, hse⟩ : ∃ s, lenL (xs.take k) = s := ⟨_, rfl⟩
        obtain ⟨⟨x0, x1⟩, hxe⟩ : ∃ x, nth xs k = x := ⟨_, rfl⟩
        rw [hxe] at hc hd hsz HT
        rw [hse] at hsb HT ⊢
        simp only at hsz
        obtain ⟨hs0, hs1⟩ := hsz
        have HFR := Lib.hid hfr
        have b0 : (0 : Int) ≤ (k : Int) := by omega
        have b1 : (k : Int) < (n : Int) := by omega
        have b2 : IntKind.i64.wrap ((x0.size : Int) + (x1.size : Int)) = (x0.size : Int) + (x1.size : Int) := by apply IntWalk.i64_in; omega
        have b3 : IntKind.i64.wrap ((s : Int) + ((x0.size : Int) + (x1.size : Int))) = (s : Int) + ((x0.size : Int) + (x1.size : Int)) := by apply IntWalk.i64_in; omega
        clear gx hx hse hxe hfr hsb
        go_wp2
        go_roundw
        case rel => exact ⟨k + 1, by omega, by go_num, by rw [HT.out]; unfold lenE; go_num, HFR.out.alloc _⟩
        case measure => simp [intOf]; omega
      · have hkn : k = xs.length := by have := HN.out; omega
        have hT : xs.take k = xs := List.take_of_length_le (by omega)
        rw [hT]
        have HL := Lib.hid hkn
        have HFR := Lib.hid hfr
        obtain ⟨s, hse⟩ : ∃ s, lenL xs = s := ⟨_, rfl⟩
        rw [hse]
        have HSE := Lib.hid hse
        have h40' : (n : Int) ≤ 40 := by omega
        clear hT hkn hse hfr
        go_wp2
        go_ret
        refine ⟨_, rfl, fun hb => ?_, HFR.out⟩
        have hb : (s : Int) ≤ 4000 := by simpa using hb
        exact ⟨few_mid (by have := HN.out; omega) (by rw [HSE.out]; omega), by have := HN.out; omega⟩
  · go_enter Tryd.func19, Tryd.ntmps19
    go_wp2
    go_loopw [3, 8] (fun v i wr => ∃ (k : Nat) (s : Int), k ≤ n ∧ i = .int .i64 k ∧ v = .int .i64 s ∧ Fr No w wr) (fun _ i _ => n - (intOf i).toNat)
    case atStart => exact ⟨0, 0, by omega, rfl, rfl, Fr.refl _ _⟩
    case round =>
      obtain ⟨k, s, hk, rfl, rfl, hfr⟩ := hrel
      by_cases hlt : k < n
      · have hkl : k < xs.length := by have := HN.out; omega
        have gx := cells_get xs k hkl
        have hx := HX.out.no hfr
        obtain ⟨g, off, rfl, hc⟩ := hx.cell gx.1
        obtain ⟨g2, off2, e2, hd⟩ := hx.cell gx.2
        injection e2 with e2; injection e2 with e2 e3; subst e2; subst e3
        rw [← Nat.add_assoc] at hd
        have HFR := Lib.hid hfr
        have b0 : (0 : Int) ≤ (k : Int) := by omega
        have b1 : (k : Int) < (n : Int) := by omega
        clear gx hx hfr
        go_wp2
        go_roundw
        case rel => exact ⟨k + 1, _, by omega, by go_num, rfl, HFR.out.alloc _⟩
        case measure => simp [intOf]; omega
      · have HFR := Lib.hid hfr
        have h40' : ¬ ((n : Int) ≤ 40) := by omega
        clear hfr
        go_wp2
        go_ret
        exact ⟨false, rfl, (fun h => by cases h), HFR.out⟩

/-! behind an error -/
theorem head_over (m : ByteArray) (S : St) (en : Bool) (l : List El) (h : (S.br || S.dn) = true) : headersP m S en l = (8, S) := by
  unfold headersP; rw [if_pos h]
theorem data_over (m : ByteArray) (S : St) (n : Int) (en : Bool) (h : (S.br || S.dn) = true) : dataP m S n en = (8, S) := by
  unfold dataP; rw [if_pos h]
theorem head_stop (m : ByteArray) (S : St) (en : Bool) (l : List El) (hc : (headersP m S en l).1 ≠ 0) :
    (headersP m S en l).2.st = S.st ∧ (headersP m S en l).2.dn = S.dn ∧ ((headersP m S en l).2.br || (headersP m S en l).2.dn) = true ∧ (headersP m S en l).2.cm = S.cm := by
  revert hc
  unfold headersP
  split
  · rename_i h; exact fun _ => ⟨rfl, rfl, h, rfl⟩
  · split
    · simp only
      intro hc
      rw [if_neg hc]
      exact ⟨rfl, rfl, rfl, rfl⟩
    · split
      · split
        · split
          · exact fun _ => ⟨rfl, rfl, rfl, rfl⟩
          · intro h; exact absurd rfl h
        · simp only
          intro hc
          rw [if_neg hc]
          exact ⟨rfl, rfl, rfl, rfl⟩
      · exact fun _ => ⟨rfl, rfl, rfl, rfl⟩
theorem data_stop (m : ByteArray) (S : St) (n : Int) (en : Bool) (hc : (dataP m S n en).1 ≠ 0) :
    (dataP m S n en).2.st = S.st ∧ (dataP m S n en).2.dn = S.dn ∧ ((dataP m S n en).2.br || (dataP m S n en).2.dn) = true ∧ (dataP m S n en).2.cm = S.cm := by
  revert hc
  unfold dataP
  split
  · rename_i h; exact fun _ => ⟨rfl, rfl, h, rfl⟩
  · split
    · exact fun _ => ⟨rfl, rfl, rfl, rfl⟩
    · split
      · exact fun _ => ⟨rfl, rfl, rfl, rfl⟩
      · simp only
        intro hc
        rw [if_neg hc]
        exact ⟨rfl, rfl, rfl, rfl⟩
theorem cm_ite {c : Prop} [Decidable c] {a b : St} {x : Int} (ha : a.cm = x) (hb : b.cm = x) : (if c then a else b).cm = x := by split <;> assumption
theorem head_cm (m : ByteArray) (S : St) (en : Bool) (l : List El) : (headersP m S en l).2.cm = S.cm := by
  unfold headersP
  split
  · rfl
  · split
    · exact cm_ite rfl rfl
    · split
      · split
        · split <;> rfl
        · exact cm_ite rfl rfl
      · rfl
theorem cm_ite2 {c : Prop} [Decidable c] {a b : St} {x y : Int} (ha : a.cm = x) (hb : b.cm = y) : (if c then a else b).cm = x ∨ (if c then a else b).cm = y := by
  split
  · exact .inl ha
  · exact .inr hb
theorem data_cm (m : ByteArray) (S : St) (n : Int) (en : Bool) : (dataP m S n en).2.cm = S.cm ∨ (0 ≤ n ∧ (dataP m S n en).2.cm = S.cm + n) := by
  unfold dataP
  split
  · exact .inl rfl
  · split
    · exact .inl rfl
    · split
      · exact .inl rfl
      · rename_i hn
        rcases cm_ite2 (c := toldP m { S with cm := S.cm + n } en 0 = 0) (a := ({ S with cm := S.cm + n } : St).end_ en) (b := S.bad) rfl rfl with h | h
        · exact .inr ⟨by omega, h⟩
        · exact .inl h
end Go.Proofs.YtfejfaldjfichaaDoor
