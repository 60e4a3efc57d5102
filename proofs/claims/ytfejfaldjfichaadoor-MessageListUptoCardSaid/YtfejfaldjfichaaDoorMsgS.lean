/- Messages: a call of the reader's ends; bytes come. -/
import Derived.Test.YtfejfaldjfichaaDoorMsgR
namespace Go.Proofs.YtfejfaldjfichaaDoor
open Go.RowKit Go.Hp
set_option maxRecDepth 100000

/-- The error with which a call ends. -/
def toldC (m : ByteArray) (A : Ans) (en : Bool) (e : Int) : Int := if e = 0 ∧ longB m A en = false then 22 else e
/-- The reader behind it. -/
def ToldQ (q : Nat) (m : ByteArray) (A0 A : Ans) (br en : Bool) (c : Int) (w : World) (e : Ending) (w' : World) : Prop :=
  e = .returned (.int .i64 c) ∧ Fr (fun b => b = q) w w' ∧ ((c = 0 ∧ RdB w' q m { A with dn := en } br) ∨ (c ≠ 0 ∧ RdB w' q m A0 true))
set_option maxHeartbeats 1000000 in
theorem told_calls (q : Nat) (m : ByteArray) (A0 A : Ans) (br en : Bool) (e : Int) (w : World) (h : RdB w q m A0 br) (hf : ∃ a n c, A.fv = .slice a n c) (ht : ∃ a n c, A.tv = .slice a n c) :
    Calls Tryd.prog 25 #[.pointer (some ⟨q, 0, none⟩), .agg (ansL A).toArray, .bool en, .int .i64 e] w (ToldQ q m A0 A br en (toldC m A en e) w) := by
  obtain ⟨fa, fn, fc, hf⟩ := hf
  obtain ⟨ta, tn, tc, ht⟩ := ht
  obtain ⟨st, fv, tv, ln, cm, dn⟩ := A
  simp only at hf ht
  subst hf; subst ht
  have hG := Bk.new w [.int .i64 st, .slice fa fn fc, .slice ta tn tc, .int .i64 ln, .int .i64 cm, .bool dn] 52
  have hq := h.no ((Fr.refl No w).alloc (.cells #[.int .i64 st, .slice fa fn fc, .slice ta tn tc, .int .i64 ln, .int .i64 cm, .bool dn] 52))
  have hl := fun W (hW : RdB W q m A0 br) => long_calls q m A0 ⟨st, .slice fa fn fc, .slice ta tn tc, ln, cm, dn⟩ br en W hW ⟨_, _, _, rfl⟩ ⟨_, _, _, rfl⟩
  have HF := Lib.hid ((Fr.refl (fun b => b = q) w).alloc (.cells #[.int .i64 st, .slice fa fn fc, .slice ta tn tc, .int .i64 ln, .int .i64 cm, .bool dn] 52))
  have hqG : q ≠ w.heap.size := by have := h.1.lt; omega
  have HRD := Lib.hid hq
  have HGB := Lib.hid hG
  have HLG := Lib.hid hl
  obtain ⟨G, hGe⟩ : ∃ G, w.heap.size = G := ⟨_, rfl⟩
  have HGE := Lib.hid hGe
  by_cases he : e = 0
  · subst he
    cases hlb : longB m ⟨st, .slice fa fn fc, .slice ta tn tc, ln, cm, dn⟩ en with
    | false =>
      have hc : toldC m ⟨st, .slice fa fn fc, .slice ta tn tc, ln, cm, dn⟩ en 0 = 22 := by unfold toldC; rw [if_pos ⟨rfl, hlb⟩]
      rw [hc]
      have HLB := Lib.hid hlb
      clear hc hlb hG hq hl h hGe
      unfold ansL
      simp only
      go_enter Tryd.func25, Tryd.ntmps25
      go_wp2_with fail
      refine (HLG.out _ HRD.out).mono ?_
      rintro e w1 ⟨rfl, hf1⟩
      rw [HLB.out]
      have HF1 := Lib.hid (HF.out.then_ hf1)
      have HR1 := Lib.hid (HRD.out.no hf1)
      have d7 : w1.cell? ⟨q, 7, none⟩ = some (.bool br) := HR1.out.1.cell 7
      have f7 : w1.frozen? ⟨q, 7, none⟩ = false := HR1.out.1.frozen 7
      clear hf1
      go_wp2
      go_ret
      exact ⟨rfl, HF1.out.setCell (a := ⟨q, 7, none⟩) (.inl rfl) _, .inr ⟨by decide, HR1.out.1.set 7 (.bool true), HR1.out.2⟩⟩
    | true =>
      have hc : toldC m ⟨st, .slice fa fn fc, .slice ta tn tc, ln, cm, dn⟩ en 0 = 0 := by unfold toldC; rw [if_neg (by rw [hlb]; simp)]
      rw [hc]
      have HLB := Lib.hid hlb
      clear hc hlb hG hq hl h hGe
      unfold ansL
      simp only
      go_enter Tryd.func25, Tryd.ntmps25
      go_wp2_with fail
      refine (HLG.out _ HRD.out).mono ?_
      rintro e w1 ⟨rfl, hf1⟩
      rw [HLB.out]
      have HF1 := Lib.hid (HF.out.then_ hf1)
      have HR1 := Lib.hid (HRD.out.no hf1)
      have HG1 := Lib.hid (HGB.out.no hf1)
      have g5 : w1.cell? ⟨w.heap.size, 5, none⟩ = some (.bool dn) := HG1.out.cell 5
      have gf5 : w1.frozen? ⟨w.heap.size, 5, none⟩ = false := HG1.out.frozen 5
      clear hf1
      have g0 : w1.cell? ⟨w.heap.size, 0, none⟩ = some (.int .i64 st) := HG1.out.cell 0
      have g1 : w1.cell? ⟨w.heap.size, 1, none⟩ = some (.slice fa fn fc) := HG1.out.cell 1
      have g2 : w1.cell? ⟨w.heap.size, 2, none⟩ = some (.slice ta tn tc) := HG1.out.cell 2
      have g3 : w1.cell? ⟨w.heap.size, 3, none⟩ = some (.int .i64 ln) := HG1.out.cell 3
      have g4 : w1.cell? ⟨w.heap.size, 4, none⟩ = some (.int .i64 cm) := HG1.out.cell 4
      have q1 : w1.cell? ⟨q, 1, none⟩ = some (.int .i64 A0.st) := HR1.out.1.cell 1
      have q2 : w1.cell? ⟨q, 2, none⟩ = some A0.fv := HR1.out.1.cell 2
      have q3 : w1.cell? ⟨q, 3, none⟩ = some A0.tv := HR1.out.1.cell 3
      have q4 : w1.cell? ⟨q, 4, none⟩ = some (.int .i64 A0.ln) := HR1.out.1.cell 4
      have q5 : w1.cell? ⟨q, 5, none⟩ = some (.int .i64 A0.cm) := HR1.out.1.cell 5
      have q6 : w1.cell? ⟨q, 6, none⟩ = some (.bool A0.dn) := HR1.out.1.cell 6
      have qf : ∀ o, w1.frozen? ⟨q, o, none⟩ = false := fun o => HR1.out.1.frozen o
      go_wp2
      go_ret
      exact ⟨rfl, ((((((HF1.out.setCell (a := ⟨w.heap.size, 5, none⟩) (.inr (Nat.le_refl _)) (.bool en)).setCell (a := ⟨q, 1, none⟩) (.inl rfl) (.int .i64 st)).setCell (a := ⟨q, 2, none⟩) (.inl rfl) (.slice fa fn fc)).setCell (a := ⟨q, 3, none⟩) (.inl rfl) (.slice ta tn tc)).setCell (a := ⟨q, 4, none⟩) (.inl rfl) (.int .i64 ln)).setCell (a := ⟨q, 5, none⟩) (.inl rfl) (.int .i64 cm)).setCell (a := ⟨q, 6, none⟩) (.inl rfl) (.bool en),
        .inl ⟨rfl, ((((((HR1.out.1.set_ne (a := ⟨w.heap.size, 5, none⟩) hqG (.bool en)).set 1 (.int .i64 st)).set 2 (.slice fa fn fc)).set 3 (.slice ta tn tc)).set 4 (.int .i64 ln)).set 5 (.int .i64 cm)).set 6 (.bool en), ⟨_, _, _, rfl⟩, ⟨_, _, _, rfl⟩⟩⟩
  · have hc : toldC m ⟨st, .slice fa fn fc, .slice ta tn tc, ln, cm, dn⟩ en e = e := by unfold toldC; rw [if_neg (fun h => he h.1)]
    rw [hc]
    have he' : (e == 0) = false := by simpa using he
    have d7 : w.cell? ⟨q, 7, none⟩ = some (.bool br) := h.1.cell 7
    have f7 : w.frozen? ⟨q, 7, none⟩ = false := h.1.frozen 7
    have hqw : q < w.heap.size := h.1.lt
    have HH := Lib.hid h
    clear hc hG hq hl h hGe
    unfold ansL
    simp only
    go_enter Tryd.func25, Tryd.ntmps25
    go_wp2
    go_ret
    exact ⟨rfl, ((Fr.refl (fun b => b = q) w).setCell (a := ⟨q, 7, none⟩) (.inl rfl) _).alloc _, .inr ⟨he, (HH.out.1.set 7 (.bool true)).alloc _, HH.out.2⟩⟩

/-- The answer to bytes. -/
def DataQ (q : Nat) (m : ByteArray) (A : Ans) (br : Bool) (n : Int) (en : Bool) (w : World) (e : Ending) (w' : World) : Prop :=
  ∃ c : Int, e = .returned (.int .i64 c) ∧ Fr (fun b => b = q) w w' ∧
    ((br || A.dn) = true ∧ c = 8 ∧ RdB w' q m A br ∨ (br || A.dn) = false ∧ ((A.st = 0 ∧ c = 11 ∧ RdB w' q m A true) ∨ (A.st ≠ 0 ∧ n < 0 ∧ c = 1 ∧ RdB w' q m A true) ∨
      (A.st ≠ 0 ∧ 0 ≤ n ∧ c = toldC m { A with cm := A.cm + n } en 0 ∧ ((c = 0 ∧ RdB w' q m { A with cm := A.cm + n, dn := en } br) ∨ (c ≠ 0 ∧ RdB w' q m A true)))))
set_option maxHeartbeats 2000000 in
theorem data_calls (q : Nat) (m : ByteArray) (A : Ans) (br : Bool) (n : Int) (en : Bool) (w : World) (h : RdB w q m A br) (hc : 0 ≤ A.cm ∧ A.cm ≤ 4611686018427387904) (hn : n ≤ 4611686018427387903) :
    Calls Tryd.prog 18 #[.pointer (some ⟨q, 0, none⟩), .int .i64 n, .bool en] w (DataQ q m A br n en w) := by
  obtain ⟨st, fv, tv, ln, cm, dn⟩ := A
  obtain ⟨⟨fa, fn, fc, hfe⟩, ⟨ta, tn, tc, hte⟩⟩ := h.2
  simp only at hfe hte hc
  subst hfe; subst hte
  have HR := Lib.hid h
  have hO : Calls Tryd.prog 22 #[.pointer (some ⟨q, 0, none⟩)] w (fun e w' => e = .returned (.bool (br || dn)) ∧ w = w') := over_calls q m _ br w h
  have HO := Lib.hid hO
  clear hO
  cases hov : (br || dn) with
  | true =>
    rw [hov] at HO
    have HV := Lib.hid hov
    clear h hov
    go_enter Tryd.func18, Tryd.ntmps18
    go_wp2_with fail
    refine HO.out.mono ?_
    rintro e w' ⟨rfl, rfl⟩
    go_wp2
    go_ret
    exact ⟨8, rfl, Fr.refl _ _, .inl ⟨HV.out, rfl, HR.out⟩⟩
  | false =>
    rw [hov] at HO
    have HV := Lib.hid hov
    have hc1 := hc.1; have hc2 := hc.2
    have d1 : w.cell? ⟨q, 1, none⟩ = some (.int .i64 st) := h.1.cell 1
    have d2 : w.cell? ⟨q, 2, none⟩ = some (.slice fa fn fc) := h.1.cell 2
    have d3 : w.cell? ⟨q, 3, none⟩ = some (.slice ta tn tc) := h.1.cell 3
    have d4 : w.cell? ⟨q, 4, none⟩ = some (.int .i64 ln) := h.1.cell 4
    have d5 : w.cell? ⟨q, 5, none⟩ = some (.int .i64 cm) := h.1.cell 5
    have d6 : w.cell? ⟨q, 6, none⟩ = some (.bool dn) := h.1.cell 6
    have HT := Lib.hid (fun W cm' e (hW : RdB W q m ⟨st, .slice fa fn fc, .slice ta tn tc, ln, cm, dn⟩ br) => told_calls q m _ ⟨st, .slice fa fn fc, .slice ta tn tc, ln, cm', dn⟩ br en e W hW ⟨_, _, _, rfl⟩ ⟨_, _, _, rfl⟩)
    have HRA := Lib.hid (fun cs e => h.no ((Fr.refl No w).alloc (.cells cs e)))
    have HFA := Lib.hid (fun cs e => (Fr.refl (fun b => b = q) w).alloc (.cells cs e))
    have b1 : 0 ≤ n → IntKind.i64.wrap (cm + n) = cm + n := fun _ => by apply IntWalk.i64_in; omega
    clear h hov hc
    by_cases h0 : st = 0
    · subst h0
      clear b1
      go_enter Tryd.func18, Tryd.ntmps18
      go_wp2_with fail
      refine HO.out.mono ?_
      rintro e w' ⟨rfl, rfl⟩
      go_wp2_with fail
      refine (HT.out _ cm 11 (HRA.out _ _)).mono ?_
      have hc : toldC m ⟨0, .slice fa fn fc, .slice ta tn tc, ln, cm, dn⟩ en 11 = 11 := by unfold toldC; rw [if_neg (fun h => by have := h.1; omega)]
      rw [hc]
      clear hc
      rintro e w' ⟨rfl, hf, ⟨h1, _⟩ | ⟨_, h1⟩⟩
      · omega
      · have HH := Lib.hid h1
        have HF := Lib.hid ((HFA.out _ _).trans hf (fun _ _ h => h))
        clear hf h1 d1 d2 d3 d4 d5 d6
        go_wp2
        go_ret
        exact ⟨11, rfl, HF.out, .inr ⟨HV.out, .inl ⟨rfl, rfl, HH.out⟩⟩⟩
    · have h0' : (st == 0) = false := by simpa using h0
      by_cases hn0 : n < 0
      · clear b1
        go_enter Tryd.func18, Tryd.ntmps18
        go_wp2_with fail
        refine HO.out.mono ?_
        rintro e w' ⟨rfl, rfl⟩
        go_wp2_with fail
        refine (HT.out _ cm 1 (HRA.out _ _)).mono ?_
        have hc : toldC m ⟨st, .slice fa fn fc, .slice ta tn tc, ln, cm, dn⟩ en 1 = 1 := by unfold toldC; rw [if_neg (fun h => by have := h.1; omega)]
        rw [hc]
        clear hc
        rintro e w' ⟨rfl, hf, ⟨h1, _⟩ | ⟨_, h1⟩⟩
        · omega
        · have HH := Lib.hid h1
          have HF := Lib.hid ((HFA.out _ _).trans hf (fun _ _ h => h))
          clear hf h1 d1 d2 d3 d4 d5 d6
          go_wp2
          go_ret
          exact ⟨1, rfl, HF.out, .inr ⟨HV.out, .inr (.inl ⟨h0, hn0, rfl, HH.out⟩)⟩⟩
      · have b1 := b1 (by omega)
        obtain ⟨cn, hcn⟩ : ∃ v, cm + n = v := ⟨_, rfl⟩
        rw [hcn] at b1
        go_enter Tryd.func18, Tryd.ntmps18
        go_wp2_with fail
        refine HO.out.mono ?_
        rintro e w' ⟨rfl, rfl⟩
        go_wp2_with fail
        refine (HT.out _ cn 0 (HRA.out _ _)).mono ?_
        obtain ⟨c, hc⟩ : ∃ c, toldC m ⟨st, .slice fa fn fc, .slice ta tn tc, ln, cn, dn⟩ en 0 = c := ⟨_, rfl⟩
        rw [hc]
        have HCC := Lib.hid hc
        have HCN := Lib.hid hcn
        clear hc hcn
        rintro e w' ⟨rfl, hf, hcase⟩
        have HF := Lib.hid ((HFA.out _ _).trans hf (fun _ _ h => h))
        have HCS := Lib.hid hcase
        clear hf hcase d1 d2 d3 d4 d5 d6
        go_wp2
        go_ret
        exact ⟨c, rfl, HF.out, .inr ⟨HV.out, .inr (.inr ⟨h0, by omega, by rw [← HCC.out, ← HCN.out], by rw [HCN.out]; exact HCS.out⟩)⟩⟩
end Go.Proofs.YtfejfaldjfichaaDoor
