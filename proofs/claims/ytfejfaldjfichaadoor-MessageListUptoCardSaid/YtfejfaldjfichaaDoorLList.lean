/- MessageList: the walk. -/
import Derived.Test.YtfejfaldjfichaaDoorMsgL
import Derived.Test.YtfejfaldjfichaaDoorLHead
import Derived.Test.YtfejfaldjfichaaDoorEq
namespace Go.Proofs.YtfejfaldjfichaaDoor
open Go.RowKit Go.Hp
set_option maxRecDepth 100000
attribute [local go_sem high] eqF

/-- What is not refused costs no more than 600. -/
theorem fieldsE_sum {l T : List El} {b : ByteArray} (h : fieldsE l T b = 0) : sumE l ≤ 600 := by
  unfold fieldsE at h
  split at h
  · omega
  · split at h
    · split at h
      · omega
      · omega
    · rename_i h1; exact absurd h h1
theorem rd_at {w : World} {z g off n c : Nat} {cs : List Value} (h : Rd w z (some ⟨g, off, none⟩) n c cs) {j : Nat} {u : Value} (hj : cs[j]? = some u) : w.cell? ⟨g, off + j, none⟩ = some u := by
  obtain ⟨g2, off2, e2, h2⟩ := h.cell hj
  injection e2 with e2; injection e2 with e2 e3; subst e2; subst e3
  exact h2
theorem rd_drop {w : World} {z g off n c i : Nat} {cs : List Value} (h : Rd w z (some ⟨g, off, none⟩) n c cs) (hi : i ≤ n) : Rd w z (some ⟨g, off + i * z, none⟩) (n - i) (c - i) (cs.drop (i * z)) := by
  obtain ⟨h1, h2, h3, h4, h5⟩ := h
  refine ⟨by rw [List.length_drop, h1, Nat.sub_mul], by omega, by omega, (fun h => by cases h), fun h0 => ?_⟩
  obtain ⟨g2, off2, e2, hg, hc⟩ := h5 (by omega)
  injection e2 with e2; injection e2 with e2 e3; subst e2; subst e3
  refine ⟨g, off + i * z, rfl, hg, fun j u hu => ?_⟩
  rw [List.getElem?_drop] at hu
  have := hc _ _ hu
  rw [Nat.add_assoc]; exact this
theorem rd_none {w : World} {z g off c : Nat} (hc : c ≤ 9223372036854775807) : Rd w z (some ⟨g, off, none⟩) 0 c [] := ⟨by simp, by omega, hc, (fun h => by cases h), fun h => absurd h (by omega)⟩

theorem rd_zero {w : World} {g off fn : Nat} {F : List El} (hl : F.length = fn) (h : fn = 0) : Rd w 2 (some ⟨g, off, none⟩) 0 0 (cells F) := by
  subst h
  obtain rfl : F = [] := List.eq_nil_of_length_eq_zero hl
  exact rd_none (by omega)

set_option maxHeartbeats 4000000 in
theorem list_in (m s au p b : ByteArray) (fa : Option Addr) (fn fc : Nat) (ta : Option Addr) (tn tc : Nat) (F T : List El) (w : World) (hF : Rd w 2 fa fn fc (cells F)) (hT : Rd w 2 ta tn tc (cells T))
    (hmF : Mid (headL m s au p ++ F)) (hmT : Mid T) :
    Calls Tryd.prog 5 #[.agg #[.string m, .string s, .string au, .string p, .slice fa fn fc, .string b, .slice ta tn tc]] w (TrueQ w) := by
  obtain ⟨ob, hob⟩ : ∃ ob, w.heap.size = ob := ⟨_, rfl⟩
  have hB := Bk.new w [.string m, .string s, .string au, .string p, .slice fa fn fc, .string b, .slice ta tn tc] 34
  rw [hob] at hB
  have hw1 : Fr No w (w.alloc (.cells #[.string m, .string s, .string au, .string p, .slice fa fn fc, .string b, .slice ta tn tc] 34)) := (Fr.refl No w).alloc _
  have hl1 := rd_xlen hF
  have hl2 := rd_xlen hT
  have hn1 : fn ≤ 2000000 := by have := hmF.1; rw [List.length_append] at this; omega
  have hn2 : tn ≤ 2000000 := by have := hmT.1; omega
  have HMF := Lib.hid hmF
  have HMT := Lib.hid hmT
  have HF := Lib.hid (hF.no hw1)
  have HT := Lib.hid (hT.no hw1)
  have HLF := Lib.hid hl1
  go_enter Tryd.func5, Tryd.ntmps5
  go_wp2_with fail
  generalize w.alloc (.cells #[.string m, .string s, .string au, .string p, .slice fa fn fc, .string b, .slice ta tn tc] 34) = W at *
  have HB := Lib.hid hB
  have HW := Lib.hid hw1
  have HOB := Lib.hid hob
  clear hF hT hB hw1 hl1 hl2 hob hmF hmT
  refine (light_calls m s au p b fa fn fc ta tn tc F T W HF.out HT.out hn1 hn2).mono ?_
  rintro e W1 ⟨lt, rfl, hf1⟩
  have HW1 := Lib.hid (HW.out.then_ hf1)
  have HB1 := Lib.hid (HB.out.no hf1)
  have HF1 := Lib.hid (HF.out.no hf1)
  have HT1 := Lib.hid (HT.out.no hf1)
  clear hf1 HW HB HF HT
  cases lt with
  | false =>
    go_wp2_with fail
    refine (alive_calls W1).mono ?_
    rintro e w' ⟨rfl, hf⟩
    go_wp2
    go_ret
    exact ⟨rfl, HW1.out.then_ hf⟩
  | true =>
    go_wp2_with fail
    refine (alive_calls W1).mono ?_
    rintro e W2 ⟨rfl, hf2⟩
    have HW2 := Lib.hid (HW1.out.then_ hf2)
    have HB2 := Lib.hid (HB1.out.no hf2)
    have HF2 := Lib.hid (HF1.out.no hf2)
    have HT2 := Lib.hid (HT1.out.no hf2)
    clear hf2 HW1 HB1 HF1 HT1
    have d0 : W2.cell? ⟨ob, 0, none⟩ = some (.string m) := HB2.out.cell 0
    have d1 : W2.cell? ⟨ob, 1, none⟩ = some (.string s) := HB2.out.cell 1
    have d2 : W2.cell? ⟨ob, 2, none⟩ = some (.string au) := HB2.out.cell 2
    have d3 : W2.cell? ⟨ob, 3, none⟩ = some (.string p) := HB2.out.cell 3
    have d4 : W2.cell? ⟨ob, 4, none⟩ = some (.slice fa fn fc) := HB2.out.cell 4
    have d5 : W2.cell? ⟨ob, 5, none⟩ = some (.string b) := HB2.out.cell 5
    have d6 : W2.cell? ⟨ob, 6, none⟩ = some (.slice ta tn tc) := HB2.out.cell 6
    have hFC := fields_calls m s au p b fa fn fc ta tn tc F T W2 HF2.out HT2.out HMF.out HMT.out
    have hRC := fun w => right_calls m s au p b fa fn fc ta tn tc F T w
    obtain ⟨v, hv⟩ : ∃ v, fieldsE (headL m s au p ++ F) T b = v := ⟨_, rfl⟩
    rw [hv] at hFC hRC
    have HV := Lib.hid hv
    obtain ⟨l, hl⟩ : ∃ l, headL m s au p ++ F = l := ⟨_, rfl⟩
    rw [hl] at hFC hRC HV HMF
    have HLL := Lib.hid hl
    have HFC := Lib.hid hFC
    have HRC := Lib.hid hRC
    clear hFC hRC hv hl
    go_wp2_with fail
    refine HFC.out.mono ?_
    rintro e W3 ⟨hf3, ⟨hv0, a, k, r, rfl, hrow, hnew⟩ | ⟨hv0, rfl⟩⟩
    · have HV0 := Lib.hid hv0
      have HRW := Lib.hid hrow.rd
      have HW3 := Lib.hid (HW2.out.then_ hf3)
      have HB3 := Lib.hid (HB2.out.no hf3)
      have HF3 := Lib.hid (HF2.out.no hf3)
      have hsum := fieldsE_sum (HV.out.trans hv0)
      have hlen : l.length = 4 + fn := by rw [← HLL.out, List.length_append, HLF.out]; rfl
      have hrc := hrow.rd.capLe
      have hrl := hrow.rd.le
      obtain ⟨n, hn⟩ : ∃ n, l.length = n := ⟨_, rfl⟩
      rw [hn] at HRW hlen hrl ⊢
      subst hlen
      clear d0 d1 d2 d3 d4 d5 d6 hv0 hrow hnew hf3 HRC HFC hn
      have c0 : (cells l)[0]? = some (.string ⟨#[58, 109, 101, 116, 104, 111, 100]⟩) := by rw [← HLL.out]; rfl
      have c1 : (cells l)[1]? = some (.string m) := by rw [← HLL.out]; rfl
      have c2 : (cells l)[2]? = some (.string ⟨#[58, 115, 99, 104, 101, 109, 101]⟩) := by rw [← HLL.out]; rfl
      have c3 : (cells l)[3]? = some (.string s) := by rw [← HLL.out]; rfl
      have c4 : (cells l)[4]? = some (.string ⟨#[58, 97, 117, 116, 104, 111, 114, 105, 116, 121]⟩) := by rw [← HLL.out]; rfl
      have c5 : (cells l)[5]? = some (.string au) := by rw [← HLL.out]; rfl
      have c6 : (cells l)[6]? = some (.string ⟨#[58, 112, 97, 116, 104]⟩) := by rw [← HLL.out]; rfl
      have c7 : (cells l)[7]? = some (.string p) := by rw [← HLL.out]; rfl
      have c8 : (cells l).drop (4 * 2) = cells F := by rw [← HLL.out]; rfl
      obtain ⟨g, off, rfl, -⟩ := HRW.out.cell c0
      have hQ : ∀ w' : World, Fr No W3 w' → ((w'.cell? ⟨ob, 0, none⟩ = some (.string m) ∧ w'.cell? ⟨ob, 1, none⟩ = some (.string s) ∧ w'.cell? ⟨ob, 2, none⟩ = some (.string au) ∧ w'.cell? ⟨ob, 3, none⟩ = some (.string p) ∧ w'.cell? ⟨ob, 4, none⟩ = some (.slice fa fn fc)) ∧
          (w'.cell? ⟨g, off, none⟩ = some (.string ⟨#[58, 109, 101, 116, 104, 111, 100]⟩) ∧ w'.cell? ⟨g, off + 1, none⟩ = some (.string m) ∧ w'.cell? ⟨g, off + 2, none⟩ = some (.string ⟨#[58, 115, 99, 104, 101, 109, 101]⟩) ∧ w'.cell? ⟨g, off + 3, none⟩ = some (.string s) ∧
          w'.cell? ⟨g, off + 4, none⟩ = some (.string ⟨#[58, 97, 117, 116, 104, 111, 114, 105, 116, 121]⟩) ∧ w'.cell? ⟨g, off + 5, none⟩ = some (.string au) ∧ w'.cell? ⟨g, off + 6, none⟩ = some (.string ⟨#[58, 112, 97, 116, 104]⟩) ∧ w'.cell? ⟨g, off + 7, none⟩ = some (.string p))) := fun w' hf =>
        ⟨⟨(HB3.out.no hf).cell 0, (HB3.out.no hf).cell 1, (HB3.out.no hf).cell 2, (HB3.out.no hf).cell 3, (HB3.out.no hf).cell 4⟩,
         rd_at (HRW.out.no hf) c0, rd_at (HRW.out.no hf) c1, rd_at (HRW.out.no hf) c2, rd_at (HRW.out.no hf) c3, rd_at (HRW.out.no hf) c4, rd_at (HRW.out.no hf) c5, rd_at (HRW.out.no hf) c6, rd_at (HRW.out.no hf) c7⟩
      have hSM := fun (W : World) (hf : Fr No W3 W) => pack_sum_calls (some ⟨g, off, none⟩) (4 + fn) k l W (HRW.out.no hf) HMF.out
      have hSA := fun (W : World) (hf : Fr No W3 W) => same_calls (some ⟨g, off + 4 * 2, none⟩) fa fn (k - 4) fn fc F F W (by have h1 := rd_drop (i := 4) (HRW.out.no hf) (by omega); rw [c8, show 4 + fn - 4 = fn by omega] at h1; exact h1) (HF3.out.no hf)
      have hSB := fun (W : World) (hf : Fr No W3 W) (hk : k = 4) => same_calls (some ⟨g, off, none⟩) fa 0 0 fn fc F F W (rd_zero HLF.out (by omega)) (HF3.out.no hf)
      rw [show decide (F = F) = true by simp] at hSA hSB
      obtain ⟨sx, hsx⟩ : ∃ v, sumE l = v := ⟨_, rfl⟩
      rw [hsx] at hSM hsum
      have HQ := Lib.hid hQ; have HSM := Lib.hid hSM; have HSA := Lib.hid hSA; have HSB := Lib.hid hSB
      obtain ⟨⟨d0, d1, d2, d3, d4⟩, e0, e1, e2, e3, e4, e5, e6, e7⟩ := hQ _ (Fr.refl _ _)
      have b1 : IntKind.i64.wrap (4 + (fn : Int)) = 4 + (fn : Int) := by apply IntWalk.i64_in; omega
      clear hQ hSM hSA hSB hsx c0 c1 c2 c3 c4 c5 c6 c7 c8
      by_cases hk4 : k = 4
      · have HSB2 := Lib.hid (fun (W : World) (hf : Fr No W3 W) => HSB.out W hf hk4)
        clear HSB
        subst hk4
        have i0 : (0 : Int) < 4 + (fn : Int) := by omega
        have i1 : (1 : Int) < 4 + (fn : Int) := by omega
        have i2 : (2 : Int) < 4 + (fn : Int) := by omega
        have i3 : (3 : Int) < 4 + (fn : Int) := by omega
        have i4 : (4 : Int) ≤ 4 + (fn : Int) := by omega
        have i5 : 4 + (fn : Int) ≤ 4 := by omega
        go_wp2_with fail
        go_region_held3 (fun w' => ((w'.cell? ⟨ob, 0, none⟩ = some (.string m) ∧ w'.cell? ⟨ob, 1, none⟩ = some (.string s) ∧ w'.cell? ⟨ob, 2, none⟩ = some (.string au) ∧ w'.cell? ⟨ob, 3, none⟩ = some (.string p) ∧ w'.cell? ⟨ob, 4, none⟩ = some (.slice fa fn fc)) ∧
          (w'.cell? ⟨g, off, none⟩ = some (.string ⟨#[58, 109, 101, 116, 104, 111, 100]⟩) ∧ w'.cell? ⟨g, off + 1, none⟩ = some (.string m) ∧ w'.cell? ⟨g, off + 2, none⟩ = some (.string ⟨#[58, 115, 99, 104, 101, 109, 101]⟩) ∧ w'.cell? ⟨g, off + 3, none⟩ = some (.string s) ∧
          w'.cell? ⟨g, off + 4, none⟩ = some (.string ⟨#[58, 97, 117, 116, 104, 111, 114, 105, 116, 121]⟩) ∧ w'.cell? ⟨g, off + 5, none⟩ = some (.string au) ∧ w'.cell? ⟨g, off + 6, none⟩ = some (.string ⟨#[58, 112, 97, 116, 104]⟩) ∧ w'.cell? ⟨g, off + 7, none⟩ = some (.string p))))
          (first
            | exact qB
            | exact qA
            | exact HQ.out _ ((Fr.refl No W3).drew)
            | go_keep)
          (first
            | (go_at_call 16; refine (HSB2.out _ ((Fr.refl No W3).drew)).mono ?_; rintro e wA ⟨rfl, mA, rfl⟩; have hfA : Fr No W3 (W3.drewN (1 + mA)) := (Fr.refl No W3).drewN (1 + mA); have qA := HQ.out _ hfA)
            | (go_at_call 17; refine (HSM.out _ hfA).mono ?_; rintro e wB ⟨rfl, hfB'⟩; have hfB : Fr No W3 wB := hfA.then_ hfB'; have qB := HQ.out _ hfB))
        go_wp2
        go_ret
        exact ⟨rfl, HW3.out.then_ hfB⟩
      · have i0 : (0 : Int) < 4 + (fn : Int) := by omega
        have i1 : (1 : Int) < 4 + (fn : Int) := by omega
        have i2 : (2 : Int) < 4 + (fn : Int) := by omega
        have i3 : (3 : Int) < 4 + (fn : Int) := by omega
        have i4 : (4 : Int) ≤ 4 + (fn : Int) := by omega
        have i5 : 4 + (fn : Int) ≤ (k : Int) := by omega
        go_wp2_with fail
        go_region_held3 (fun w' => ((w'.cell? ⟨ob, 0, none⟩ = some (.string m) ∧ w'.cell? ⟨ob, 1, none⟩ = some (.string s) ∧ w'.cell? ⟨ob, 2, none⟩ = some (.string au) ∧ w'.cell? ⟨ob, 3, none⟩ = some (.string p) ∧ w'.cell? ⟨ob, 4, none⟩ = some (.slice fa fn fc)) ∧
          (w'.cell? ⟨g, off, none⟩ = some (.string ⟨#[58, 109, 101, 116, 104, 111, 100]⟩) ∧ w'.cell? ⟨g, off + 1, none⟩ = some (.string m) ∧ w'.cell? ⟨g, off + 2, none⟩ = some (.string ⟨#[58, 115, 99, 104, 101, 109, 101]⟩) ∧ w'.cell? ⟨g, off + 3, none⟩ = some (.string s) ∧
          w'.cell? ⟨g, off + 4, none⟩ = some (.string ⟨#[58, 97, 117, 116, 104, 111, 114, 105, 116, 121]⟩) ∧ w'.cell? ⟨g, off + 5, none⟩ = some (.string au) ∧ w'.cell? ⟨g, off + 6, none⟩ = some (.string ⟨#[58, 112, 97, 116, 104]⟩) ∧ w'.cell? ⟨g, off + 7, none⟩ = some (.string p))))
          (first
            | exact qB
            | exact qA
            | exact HQ.out _ ((Fr.refl No W3).drew)
            | go_keep)
          (first
            | (go_at_call 16; refine (HSA.out _ ((Fr.refl No W3).drew)).mono ?_; rintro e wA ⟨rfl, mA, rfl⟩; have hfA : Fr No W3 (W3.drewN (1 + mA)) := (Fr.refl No W3).drewN (1 + mA); have qA := HQ.out _ hfA)
            | (go_at_call 17; refine (HSM.out _ hfA).mono ?_; rintro e wB ⟨rfl, hfB'⟩; have hfB : Fr No W3 wB := hfA.then_ hfB'; have qB := HQ.out _ hfB))
        go_wp2
        go_ret
        exact ⟨rfl, HW3.out.then_ hfB⟩
    · have HV0 := Lib.hid hv0
      have HW3 := Lib.hid (HW2.out.then_ hf3)
      have HB3 := Lib.hid (HB2.out.no hf3)
      have HF3 := Lib.hid (HF2.out.no hf3)
      have HT3 := Lib.hid (HT2.out.no hf3)
      have hR := HRC.out W3 HF3.out HT3.out HMF.out HMT.out
      have hd : decide (v = 0) = false := by simpa using hv0
      rw [hd] at hR
      have HR := Lib.hid hR
      clear d0 d1 d2 d3 d4 d5 d6 hf3 HRC HFC hR hd
      have d0 : W3.cell? ⟨ob, 0, none⟩ = some (.string m) := HB3.out.cell 0
      have d1 : W3.cell? ⟨ob, 1, none⟩ = some (.string s) := HB3.out.cell 1
      have d2 : W3.cell? ⟨ob, 2, none⟩ = some (.string au) := HB3.out.cell 2
      have d3 : W3.cell? ⟨ob, 3, none⟩ = some (.string p) := HB3.out.cell 3
      have d4 : W3.cell? ⟨ob, 4, none⟩ = some (.slice fa fn fc) := HB3.out.cell 4
      have d5 : W3.cell? ⟨ob, 5, none⟩ = some (.string b) := HB3.out.cell 5
      have d6 : W3.cell? ⟨ob, 6, none⟩ = some (.slice ta tn tc) := HB3.out.cell 6
      have hvv : (v == 0) = false := by simpa using hv0
      go_wp2_with fail
      refine HR.out.mono ?_
      rintro e W4 ⟨rfl, hf4⟩
      go_wp2
      go_ret
      exact ⟨rfl, HW3.out.then_ hf4⟩
end Go.Proofs.YtfejfaldjfichaaDoor
