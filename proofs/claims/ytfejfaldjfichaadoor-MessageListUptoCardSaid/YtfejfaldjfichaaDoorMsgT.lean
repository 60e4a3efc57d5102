/- Messages: the status is struck out of a list. -/
import Derived.Test.YtfejfaldjfichaaDoorMsgS
namespace Go.Proofs.YtfejfaldjfichaaDoor
open Go.RowKit Go.Hp
set_option maxRecDepth 100000

/-- A list without its status. -/
def delSt (xs : List El) : List El := xs.filter (fun x => !(statB x))
theorem delSt_none {xs : List El} (h : xs.any statB = false) : delSt xs = xs := by
  unfold delSt
  rw [List.filter_eq_self]
  intro x hx
  rw [List.any_eq_false] at h
  have := h x hx
  simp at this
  simp [this]
theorem delSt_snoc (xs : List El) (x : El) : delSt (xs ++ [x]) = if statB x then delSt xs else delSt xs ++ [x] := by
  unfold delSt
  rw [List.filter_append]
  cases h : statB x <;> simp [h]
theorem delSt_len (xs : List El) : (delSt xs).length ≤ xs.length := List.length_filter_le _ _
def DelQ (w : World) (a : Option Addr) (c : Nat) (r : Option Nat) (xs : List El) (e : Ending) (w' : World) : Prop :=
  e = .returned (.slice a (delSt xs).length c) ∧ Row w' 30 2 a (delSt xs).length c r (cells (delSt xs)) ∧ Fr (fun b => some b = r) w w'
theorem cells_set (ys : List El) (p : Nat) (x : El) (h : p < ys.length) : cells (ys.set p x) = ((cells ys).set (p * 2) (.string x.1)).set (p * 2 + 1) (.string x.2) := by
  induction ys generalizing p with
  | nil => simp at h
  | cons y ys ih =>
    cases p with
    | zero => rfl
    | succ p =>
      have := ih p (by simpa using h)
      simp only [cells, List.set_cons_succ, List.flatMap_cons] at *
      rw [this, show (p + 1) * 2 = p * 2 + 1 + 1 by omega]
      rfl

theorem take_set_succ {ys : List El} {p : Nat} {x : El} (h : p < ys.length) : (ys.set p x).take (p + 1) = ys.take p ++ [x] := by
  rw [List.take_succ_eq_append_getElem (by simpa using h)]
  rw [List.take_set]
  simp only [List.getElem_set_self]
  rw [List.set_eq_of_length_le (by rw [List.length_take]; omega)]
theorem cells_take (ys : List El) (p : Nat) : (cells ys).take (p * 2) = cells (ys.take p) := by
  induction ys generalizing p with
  | nil => simp [cells]
  | cons y ys ih =>
    cases p with
    | zero => simp [cells]
    | succ p =>
      have := ih p
      simp only [cells, List.flatMap_cons, List.take_succ_cons] at *
      rw [show (p + 1) * 2 = p * 2 + 1 + 1 by omega]
      simpa using this

set_option maxHeartbeats 2000000 in
theorem delst_calls (a : Option Addr) (n c : Nat) (r : Option Nat) (xs : List El) (w : World) (hr : Row w 30 2 a n c r (cells xs)) :
    Calls Tryd.prog 29 #[.slice a n c, .func (.func 30) #[] #[]] w (DelQ w a c r xs) := by
  obtain ⟨i0, hi0, hz0, hz1, hz2⟩ := info_parts infoE
  have hn := rd_xlen hr.rd
  have c1 := hr.capLe; have c2 := hr.le
  have HR := Lib.hid hr
  have HN := Lib.hid hn
  clear hr hn
  go_enter Tryd.func29, Tryd.ntmps29
  go_wp2_with fail
  refine (index_stat_calls a n c xs w HR.out.rd).mono ?_
  rintro e w1 ⟨i, rfl, hi, hf1⟩
  have HF1 := Lib.hid hf1
  clear hf1
  rcases hi with ⟨rfl, hany⟩ | ⟨k0, rfl, hk0, hp0, hq0⟩
  · have HAN := Lib.hid hany
    clear hany
    go_wp2
    go_ret
    refine ⟨?_, ?_, (HF1.out.mono (fun _ _ h => h.elim))⟩
    · rw [delSt_none HAN.out, HN.out]; rfl
    · rw [delSt_none HAN.out, HN.out]; exact HR.out.no HF1.out
  · have hk0n : k0 < n := by have := HN.out; omega
    obtain ⟨g, off, rfl, hgw, _⟩ := HR.out.rd.2.2.2.2 (by omega)
    have hnn : (((k0 : Nat) : Int) == -1) = false := by rw [beq_eq_false_iff_ne]; omega
    have HP0 := Lib.hid hp0
    have HQ0 := Lib.hid hq0
    have hrg : r = some g := by
      rcases HR.out.2.2.2.2 with ⟨_, h⟩ | ⟨g', o', L, e1, e2, _⟩
      · omega
      · injection e2 with e2; injection e2 with e2 e3; subst e2; exact e1
    have HRG := Lib.hid hrg
    clear hp0 hq0 hgw hrg
    go_wp2
    go_loopw [5, 6] (fun iv jv wr => ∃ k p : Nat, k ≤ n ∧ p < k ∧ iv = .int .i64 p ∧ jv = .int .i64 k ∧ ∃ ys : List El, ys.length = n ∧ ys.take p = delSt (xs.take k) ∧ (delSt (xs.take k)).length = p ∧ ys.drop k = xs.drop k ∧ Row wr 30 2 (some ⟨g, off, none⟩) n c r (cells ys) ∧ Fr (fun b => some b = r) w wr) (fun _ jv _ => n - (intOf jv).toNat)
    case atStart =>
      refine ⟨k0 + 1, k0, by omega, by omega, rfl, by go_num, xs, HN.out, ?_, ?_, rfl, HR.out.no HF1.out, HF1.out.mono (fun _ _ h => h.elim)⟩
      · rw [take_succE hk0, delSt_snoc, if_pos HP0.out, delSt_none HQ0.out]
      · rw [take_succE hk0, delSt_snoc, if_pos HP0.out, delSt_none HQ0.out, List.length_take]; omega
    case round =>
      obtain ⟨k, p, hk, hpk, rfl, rfl, ys, hyl, hyt, hyp, hyd, hrow, hfr⟩ := hrel
      have HYL := Lib.hid hyl
      have HYT := Lib.hid hyt
      have HYP := Lib.hid hyp
      have HYD := Lib.hid hyd
      have HRW := Lib.hid hrow
      have HFR := Lib.hid hfr
      clear hyl hyt hyp hyd hrow hfr
      by_cases hlt : k < n
      · have hkl : k < xs.length := by have := HN.out; omega
        have hkl2 : k < ys.length := by have := HYL.out; omega
        have hpl2 : p < ys.length := by omega
        have hnth : nth ys k = nth xs k := by
          have h := congrArg (fun l : List El => l[0]?) HYD.out
          simp only [List.getElem?_drop, Nat.add_zero] at h
          simp [nth, List.getD, h]
        have gx := cells_get ys k hkl2
        rw [hnth] at gx
        obtain ⟨⟨x0, x1⟩, hxk⟩ : ∃ v, nth xs k = v := ⟨_, rfl⟩
        rw [hxk] at gx
        obtain ⟨g', off', e1, hc⟩ := HRW.out.rd.cell gx.1
        obtain ⟨g2, off2, e2, hd⟩ := HRW.out.rd.cell gx.2
        injection e1 with e1; injection e1 with e1 e3; subst e1; subst e3
        injection e2 with e2; injection e2 with e2 e3; subst e2; subst e3
        rw [← Nat.add_assoc] at hd
        have HXK := Lib.hid hxk
        clear gx hxk hnth
        have b0 : (0 : Int) ≤ (k : Int) := by omega
        have b1 : (k : Int) < (n : Int) := by omega
        have b2 : (0 : Int) ≤ (p : Int) := by omega
        have b3 : (p : Int) < (n : Int) := by omega
        have HF0 := Lib.hid ((Fr.refl No wr).alloc (.cells #[.string x0, .string x1] 30))
        have HB0 := Lib.hid (Bk.new wr [.string x0, .string x1] 30)
        obtain ⟨G, hG⟩ : ∃ G, wr.heap.size = G := ⟨_, rfl⟩
        rw [hG] at HB0
        have hgG : g ≠ G := by
          have := HRW.out.lt g HRG.out
          omega
        go_wp2_with fail
        refine (stat_calls x0 x1 _).mono ?_
        rintro e w2 ⟨rfl, hf2⟩
        have HF2 := Lib.hid (HF0.out.then_ hf2)
        have HB2 := Lib.hid (HB0.out.no hf2)
        have HR2 := Lib.hid (HRW.out.no HF2.out)
        clear hf2 hc hd
        have d0 : w2.cell? ⟨G, 0, none⟩ = some (.string x0) := HB2.out.cell 0
        have d1 : w2.cell? ⟨G, 1, none⟩ = some (.string x1) := HB2.out.cell 1
        cases hst : statB (x0, x1) with
        | true =>
          have HST := Lib.hid hst
          clear hst hG
          go_wp2
          go_roundw
          case rel => exact ⟨k + 1, p, by omega, by omega, rfl, by go_num, ys, HYL.out, by rw [take_succE hkl, HXK.out, delSt_snoc, if_pos HST.out]; exact HYT.out, by rw [take_succE hkl, HXK.out, delSt_snoc, if_pos HST.out]; exact HYP.out, by rw [← List.drop_drop, HYD.out, List.drop_drop], HR2.out, HFR.out.then_ HF2.out⟩
          case measure => simp [intOf]; omega
        | false =>
          have HST := Lib.hid hst
          clear hst hG
          obtain ⟨_, hs1, f0, ⟨v0, e0⟩⟩ := HR2.out.set1 (i := p * 2) (by omega) (.string x0)
          obtain ⟨_, hs2, f1, ⟨v1, e1⟩⟩ := hs1.set1 (i := p * 2 + 1) (by omega) (.string x1)
          rw [← cells_set ys p (x0, x1) hpl2] at hs2
          have HS2 := Lib.hid hs2
          have HFS := Lib.hid (((HFR.out.then_ HF2.out).setCell (a := ⟨g, off + p * 2, none⟩) (.inl HRG.out.symm) (.string x0)).setCell (a := ⟨g, off + (p * 2 + 1), none⟩) (.inl HRG.out.symm) (.string x1))
          rw [← Nat.add_assoc] at f1 e1
          clear hs1 hs2
          go_wp2
          go_roundw
          case rel => exact ⟨k + 1, p + 1, by omega, by omega, by go_num, by go_num, ys.set p (x0, x1), by rw [List.length_set]; exact HYL.out, by rw [take_succE hkl, HXK.out, delSt_snoc, if_neg (by rw [HST.out]; decide), take_set_succ hpl2, HYT.out], by rw [take_succE hkl, HXK.out, delSt_snoc, if_neg (by rw [HST.out]; decide), List.length_append, HYP.out]; rfl, by rw [List.drop_set, if_pos (by omega), ← List.drop_drop, HYD.out, List.drop_drop], HS2.out, HFS.out⟩
          case measure => simp [intOf]; omega
      · have hkn : k = n := by omega
        have hT : xs.take k = xs := List.take_of_length_le (by have := HN.out; omega)
        obtain ⟨L, hb, hfit, hL⟩ : ∃ L, Bk wr g L 30 ∧ off + c * 2 ≤ L.length ∧ (L.drop off).take (n * 2) = cells ys := by
          rcases HRW.out.2.2.2.2 with ⟨_, h⟩ | ⟨g', o', L, e1, e2, h1, h2, h3⟩
          · omega
          · injection e2 with e2; injection e2 with e2 e3; subst e2; subst e3
            exact ⟨L, h1, h2, h3⟩
        have HL := Lib.hid hL
        have hpd : p = (delSt xs).length := by have := HYP.out; rw [hT] at this; exact this.symm
        have hyt : ys.take p = delSt xs := by have := HYT.out; rw [hT] at this; exact this
        have HPD := Lib.hid hpd
        have HYT2 := Lib.hid hyt
        have b0 : (0 : Int) ≤ (p : Int) := by omega
        have b1 : (p : Int) ≤ (n : Int) := by omega
        have b2 : (p : Int) ≤ (c : Int) := by omega
        have b3 : ¬ (c = p) := by omega
        have b4 : (n : Int) ≤ (c : Int) := by omega
        clear hL hT hpd hyt hkn
        go_wp2_with (with_reducible refine wpList_clr _ rfl (.tmp 38) 32 rfl 30 i0 (.agg #[.string ⟨#[]⟩, .string ⟨#[]⟩]) 2 Tryd.underlying32 hi0 hz0 rfl zv_one g (off + p * 2) (n - p) (c - p) rfl L 30 hb (by omega) ?h2)
        intro w2 zs L2 hzs hL2 hb2 hf2 hs2
        have HF2 := Lib.hid (HFR.out.trans hf2 (fun b _ h => by rw [h]; exact HRG.out.symm))
        have HB2 := Lib.hid hb2
        clear hb hb2 hf2
        go_wp2
        go_ret
        have hzl := hzs.out
        have e2 := hL2.out
        refine ⟨by rw [← HPD.out]; rfl, ⟨by rw [cells_len], by rw [← HPD.out]; omega, c1, (fun h => by cases h), .inr ⟨g, off, L2, HRG.out, rfl, HB2.out, ?_, ?_⟩⟩, HF2.out⟩
        · rw [e2]; simp only [List.length_append, List.length_take, List.length_drop]; omega
        · rw [← HPD.out, ← HYT2.out, ← cells_take, ← HL.out, e2, List.drop_append_of_le_length (by rw [List.length_take]; omega), List.drop_take, show off + p * 2 - off = p * 2 by omega, List.take_append_of_le_length (by rw [List.length_take, List.length_drop]; omega), List.take_take, List.take_take, Nat.min_self, Nat.min_eq_left (by omega)]
end Go.Proofs.YtfejfaldjfichaaDoor
