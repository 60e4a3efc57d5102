/- Messages: a request's headers. -/
import Derived.Test.YtfejfaldjfichaaDoorMsgG
namespace Go.Proofs.YtfejfaldjfichaaDoor
open Go.RowKit Go.Hp
set_option maxRecDepth 100000

/-- A request's own four headers. -/
def headL (m s a p : ByteArray) : List El := [(⟨#[58, 109, 101, 116, 104, 111, 100]⟩, m), (⟨#[58, 115, 99, 104, 101, 109, 101]⟩, s), (⟨#[58, 97, 117, 116, 104, 111, 114, 105, 116, 121]⟩, a), (⟨#[58, 112, 97, 116, 104]⟩, p)]
/-- Whether a request may be. -/
def fieldsE (l T : List El) (b : ByteArray) : Int :=
  if decide ((400 : Int) < b.size) || (!(decide (trailersF T = 0)) || decide (600 < sumE T)) then 1
  else if requestF l = 0 then
    (if 600 < sumE l then 5 else if (lengthF l).2 = 0 then (if 0 ≤ (lengthF l).1 ∧ (lengthF l).1 ≠ (b.size : Int) then 22 else 0) else (lengthF l).2)
  else requestF l
/-- A request, as it is handed over. -/
structure Req where
  m : ByteArray
  s : ByteArray
  a : ByteArray
  p : ByteArray
  fa : Option Addr
  fn : Nat
  fc : Nat
  b : ByteArray
  ta : Option Addr
  tn : Nat
  tc : Nat
def Req.cells (r : Req) : List Value := [.string r.m, .string r.s, .string r.a, .string r.p, .slice r.fa r.fn r.fc, .string r.b, .slice r.ta r.tn r.tc]
def FieldsQ (l : List El) (c : Int) (w : World) (e : Ending) (w' : World) : Prop :=
  Fr No w w' ∧ ((c = 0 ∧ ∃ a k r, e = .returned (.tuple #[.slice a l.length k, .int .i64 0]) ∧ Row w' 30 2 a l.length k r (cells l) ∧ (∀ b, r = some b → w.heap.size ≤ b)) ∨ (c ≠ 0 ∧ e = .returned (.tuple #[.slice none 0 0, .int .i64 c])))

/-- A row that was just made. -/
theorem Row.new (w : World) (e z n : Nat) (cs : List Value) (h : cs.length = n * z) (hn : n ≤ 9223372036854775807) : Row (w.alloc (.cells cs.toArray e)) e z (some ⟨w.heap.size, 0, none⟩) n n (some w.heap.size) cs :=
  ⟨h, Nat.le_refl _, hn, (fun h => by cases h), .inr ⟨w.heap.size, 0, cs, rfl, rfl, Bk.new w cs e, by omega, by rw [List.drop_zero, ← h]; exact List.take_length⟩⟩

set_option maxHeartbeats 4000000 in
theorem fields_calls (m s au p b : ByteArray) (fa : Option Addr) (fn fc : Nat) (ta : Option Addr) (tn tc : Nat) (F T : List El) (w : World) (hF : Rd w 2 fa fn fc (cells F)) (hT : Rd w 2 ta tn tc (cells T))
    (hmF : Mid (headL m s au p ++ F)) (hmT : Mid T) :
    Calls Tryd.prog 13 #[.agg #[.string m, .string s, .string au, .string p, .slice fa fn fc, .string b, .slice ta tn tc]] w (FieldsQ (headL m s au p ++ F) (fieldsE (headL m s au p ++ F) T b) w) := by
  obtain ⟨i0, hi0, hz0, hz1, hz2⟩ := info_parts infoE
  have hfn := rd_xlen hF
  have hmF1 := hmF.1
  have hfn1 : fn ≤ 2000000 := by rw [← hfn]; rw [List.length_append] at hmF1; omega
  have HFN := Lib.hid hfn
  have HFL := Lib.hid hF
  have HTL := Lib.hid hT
  have HMF := Lib.hid hmF
  have HMT := Lib.hid hmT
  have HB0 := Lib.hid (Bk.new w [.string m, .string s, .string au, .string p, .slice fa fn fc, .string b, .slice ta tn tc] 34)
  have hrow := Row.new (w.alloc (.cells #[.string m, .string s, .string au, .string p, .slice fa fn fc, .string b, .slice ta tn tc] 34)) 30 2 4 (cells (headL m s au p)) (by rw [cells_len]; rfl) (by omega)
  rw [show (w.alloc (.cells #[.string m, .string s, .string au, .string p, .slice fa fn fc, .string b, .slice ta tn tc] 34)).heap.size = w.heap.size + 1 by simp] at hrow
  have HR0 := Lib.hid hrow
  have HW := Lib.hid (((Fr.refl No w).alloc (.cells #[.string m, .string s, .string au, .string p, .slice fa fn fc, .string b, .slice ta tn tc] 34)).alloc (.cells (cells (headL m s au p)).toArray 30))
  have HB1 := Lib.hid (HB0.out.alloc (.cells (cells (headL m s au p)).toArray 30))
  clear hfn hF hT hmF hmT hmF1 hrow HB0
  obtain ⟨l, hl⟩ : ∃ l, headL m s au p ++ F = l := ⟨_, rfl⟩
  have hln : 4 + fn = l.length := by rw [← hl, List.length_append, HFN.out]; rfl
  have HLN := Lib.hid hln
  rw [hl] at HMF ⊢
  obtain ⟨v, hv⟩ : ∃ v, fieldsE l T b = v := ⟨_, rfl⟩
  rw [hv]
  have HV := Lib.hid hv
  have HLL := Lib.hid hl
  clear hl hv hln
  go_enter Tryd.func13, Tryd.ntmps13
  go_wp2_with (at_builtin; refine wpList_app _ rfl (.tmp 21) (.tmp 23) 32 rfl 30 i0 (.agg #[.string ⟨#[]⟩, .string ⟨#[]⟩]) 2 32 Tryd.underlying32 hi0 hz0 hz1 hz2 rfl (some ⟨w.heap.size + 1, 0, none⟩) 4 4 rfl (some (w.heap.size + 1)) (cells (headL m s au p)) HR0.out fa fn fc rfl (cells F) (HFL.out.no HW.out) (cells_one F) (by omega) (by omega) ?hK)
  intro a' c' r' w1 hA
  have hrow1 : Row w1 30 2 a' l.length c' r' (cells l) := by
    have h1 := hA.1
    rw [← cells_append, HLL.out, HLN.out] at h1; exact h1
  have hfr1 : Fr No w w1 := HW.out.trans hA.fr (fun b hb h => by injection h with h; omega)
  have hnew : ∀ b, r' = some b → w.heap.size ≤ b := by
    intro b hb
    rcases hA.rr with e | ⟨e, _⟩
    · rw [e] at hb; injection hb with hb; omega
    · rw [e] at hb; injection hb with hb; exact Nat.le_trans HW.out.size (Nat.le_of_eq hb)
  have hb1 : Bk w1 w.heap.size [.string m, .string s, .string au, .string p, .slice fa fn fc, .string b, .slice ta tn tc] 34 := HB1.out.fr hA.fr (fun h => by injection h with h; omega)
  have HR := Lib.hid hrow1
  have HF1 := Lib.hid hfr1
  have HNW := Lib.hid hnew
  have HB := Lib.hid hb1
  clear hrow1 hfr1 hnew hb1 hA HR0 HW HB1
  rw [HLN.out]
  have d5 : w1.cell? ⟨w.heap.size, 5, none⟩ = some (.string b) := HB.out.cell 5
  have d6 : w1.cell? ⟨w.heap.size, 6, none⟩ = some (.slice ta tn tc) := HB.out.cell 6
  by_cases hbig : (400 : Int) < b.size
  · have hv : v = 1 := by
      rw [← HV.out]; unfold fieldsE
      rw [show decide ((400 : Int) < b.size) = true by simpa using hbig]; rfl
    have HV1 := Lib.hid hv
    clear hv
    go_wp2
    go_ret2
    exact ⟨HF1.out, .inr ⟨by rw [HV1.out]; decide, by rw [HV1.out]; rfl⟩⟩
  · have e1 : decide ((400 : Int) < b.size) = false := by simpa using hbig
    have HBG := Lib.hid e1
    clear e1
    go_wp2_with fail
    refine (trailers_calls ta tn tc T _ (HTL.out.no HF1.out) HMT.out.sz).mono ?_
    rintro e w2 ⟨rfl, hf2⟩
    have HF2 := Lib.hid (HF1.out.then_ hf2)
    have HB2 := Lib.hid (HB.out.no hf2)
    have HR2 := Lib.hid (HR.out.no hf2)
    clear hf2 d5 d6 HR HB
    have d5 : w2.cell? ⟨w.heap.size, 5, none⟩ = some (.string b) := HB2.out.cell 5
    have d6 : w2.cell? ⟨w.heap.size, 6, none⟩ = some (.slice ta tn tc) := HB2.out.cell 6
    obtain ⟨tf, htf⟩ : ∃ tf, trailersF T = tf := ⟨_, rfl⟩
    rw [htf]
    have HTF := Lib.hid htf
    clear htf
    by_cases ht : tf = 0
    · subst ht
      have HTT := HTF
      go_wp2_with fail
      refine (pack_sum_calls ta tn tc T _ (HTL.out.no HF2.out) HMT.out).mono ?_
      rintro e w3 ⟨rfl, hf3⟩
      have HF3 := Lib.hid (HF2.out.then_ hf3)
      have HB3 := Lib.hid (HB2.out.no hf3)
      have HR3 := Lib.hid (HR2.out.no hf3)
      clear hf3 d5 d6 HR2 HB2
      have d5 : w3.cell? ⟨w.heap.size, 5, none⟩ = some (.string b) := HB3.out.cell 5
      obtain ⟨st, hst⟩ : ∃ st, sumE T = st := ⟨_, rfl⟩
      rw [hst]
      have HST := Lib.hid hst
      clear hst
      by_cases h6 : 600 < st
      · have hv : v = 1 := by
          rw [← HV.out]; unfold fieldsE
          rw [HBG.out, HTT.out, HST.out, show decide ((600 : Int) < st) = true by simpa using h6]; rfl
        have HV1 := Lib.hid hv
        clear hv
        go_wp2
        go_ret2
        exact ⟨HF3.out, .inr ⟨by rw [HV1.out]; decide, by rw [HV1.out]; rfl⟩⟩
      · have hv : v = if requestF l = 0 then (if 600 < sumE l then 5 else if (lengthF l).2 = 0 then (if 0 ≤ (lengthF l).1 ∧ (lengthF l).1 ≠ (b.size : Int) then 22 else 0) else (lengthF l).2) else requestF l := by
          rw [← HV.out]; unfold fieldsE
          rw [HBG.out, HTT.out, HST.out, show decide ((600 : Int) < st) = false by simpa using h6]; rfl
        have HV1 := Lib.hid hv
        clear hv HBG HTT HST HV
        go_wp2_with fail
        refine (request_calls a' l.length c' l _ HR3.out.rd HMF.out.sz).mono ?_
        rintro e w4 ⟨rfl, hf4⟩
        have HF4 := Lib.hid (HF3.out.then_ hf4)
        have HB4 := Lib.hid (HB3.out.no hf4)
        have HR4 := Lib.hid (HR3.out.no hf4)
        clear hf4 d5 HR3 HB3
        have d5 : w4.cell? ⟨w.heap.size, 5, none⟩ = some (.string b) := HB4.out.cell 5
        obtain ⟨rq, hrq⟩ : ∃ rq, requestF l = rq := ⟨_, rfl⟩
        rw [hrq] at HV1 ⊢
        clear hrq
        by_cases hr0 : rq = 0
        · subst hr0
          have hv : v = (if 600 < sumE l then 5 else if (lengthF l).2 = 0 then (if 0 ≤ (lengthF l).1 ∧ (lengthF l).1 ≠ (b.size : Int) then 22 else 0) else (lengthF l).2) := by rw [HV1.out, if_pos rfl]
          have HV2 := Lib.hid hv
          clear hv HV1
          go_wp2_with fail
          refine (length_calls a' l.length c' l _ HR4.out.rd HMF.out.sz).mono ?_
          rintro e w5 ⟨rfl, hf5⟩
          have HF5 := Lib.hid (HF4.out.then_ hf5)
          have HB5 := Lib.hid (HB4.out.no hf5)
          have HR5 := Lib.hid (HR4.out.no hf5)
          clear hf5 d5 HR4 HB4
          obtain ⟨⟨ln, le⟩, hln⟩ : ∃ q, lengthF l = q := ⟨_, rfl⟩
          rw [hln] at HV2 ⊢
          clear hln
          have d5 : w5.cell? ⟨w.heap.size, 5, none⟩ = some (.string b) := HB5.out.cell 5
          go_wp2_with fail
          refine (pack_sum_calls a' l.length c' l _ HR5.out.rd HMF.out).mono ?_
          rintro e w6 ⟨rfl, hf6⟩
          have HF6 := Lib.hid (HF5.out.then_ hf6)
          have HB6 := Lib.hid (HB5.out.no hf6)
          have HR6 := Lib.hid (HR5.out.no hf6)
          clear hf6 d5 HR5 HB5
          have d5 : w6.cell? ⟨w.heap.size, 5, none⟩ = some (.string b) := HB6.out.cell 5
          obtain ⟨sl, hsl⟩ : ∃ sl, sumE l = sl := ⟨_, rfl⟩
          rw [hsl] at HV2 ⊢
          clear hsl
          by_cases h6l : 600 < sl
          · have hv : v = 5 := by rw [HV2.out, if_pos h6l]
            have HV3 := Lib.hid hv
            clear hv HV2
            go_wp2
            go_ret2
            exact ⟨HF6.out, .inr ⟨by rw [HV3.out]; decide, by rw [HV3.out]; rfl⟩⟩
          · have hv : v = (if le = 0 then (if 0 ≤ ln ∧ ln ≠ (b.size : Int) then 22 else 0) else le) := by rw [HV2.out, if_neg h6l]
            have HV3 := Lib.hid hv
            clear hv HV2
            by_cases hle : le = 0
            · subst hle
              have hv : v = (if 0 ≤ ln ∧ ln ≠ (b.size : Int) then 22 else 0) := by rw [HV3.out, if_pos rfl]
              have HV4 := Lib.hid hv
              clear hv HV3
              by_cases hl0 : 0 ≤ ln
              · by_cases hlb : ln = (b.size : Int)
                · have hv : v = 0 := by rw [HV4.out, if_neg (fun h => h.2 hlb)]
                  have HV5 := Lib.hid hv
                  have hlb' : (ln == (b.size : Int)) = true := by simpa using hlb
                  have HLB := Lib.hid hlb
                  clear hv HV4 hlb
                  go_wp2
                  go_ret2
                  exact ⟨HF6.out, .inl ⟨HV5.out, a', c', r', rfl, HR6.out, HNW.out⟩⟩
                · have hv : v = 22 := by rw [HV4.out, if_pos ⟨hl0, hlb⟩]
                  have HV5 := Lib.hid hv
                  have hlb' : (ln == (b.size : Int)) = false := by simpa using hlb
                  clear hv HV4
                  go_wp2
                  go_ret2
                  exact ⟨HF6.out, .inr ⟨by rw [HV5.out]; decide, by rw [HV5.out]; rfl⟩⟩
              · have hv : v = 0 := by rw [HV4.out, if_neg (fun h => hl0 h.1)]
                have HV5 := Lib.hid hv
                clear hv HV4
                go_wp2
                go_ret2
                exact ⟨HF6.out, .inl ⟨HV5.out, a', c', r', rfl, HR6.out, HNW.out⟩⟩
            · have hv : v = le := by rw [HV3.out, if_neg hle]
              have HV4 := Lib.hid hv
              have HLE := Lib.hid hle
              have hle' : (le == 0) = false := by simpa using hle
              clear hv HV3 hle
              go_wp2
              go_ret2
              exact ⟨HF6.out, .inr ⟨by rw [HV4.out]; exact HLE.out, by rw [HV4.out]; rfl⟩⟩
        · have hv : v = rq := by rw [HV1.out, if_neg hr0]
          have HV2 := Lib.hid hv
          have HR0 := Lib.hid hr0
          have hr0' : (rq == 0) = false := by simpa using hr0
          clear hv HV1 hr0
          go_wp2
          go_ret2
          exact ⟨HF4.out, .inr ⟨by rw [HV2.out]; exact HR0.out, by rw [HV2.out]; rfl⟩⟩
    · have hv : v = 1 := by
        rw [← HV.out]; unfold fieldsE
        rw [HBG.out, HTF.out, show decide (tf = 0) = false by simpa using ht]; rfl
      have HV1 := Lib.hid hv
      have ht' : (tf == 0) = false := by simpa using ht
      clear hv
      go_wp2
      go_ret2
      exact ⟨HF2.out, .inr ⟨by rw [HV1.out]; decide, by rw [HV1.out]; rfl⟩⟩

set_option maxHeartbeats 1000000 in
theorem right_calls (m s au p b : ByteArray) (fa : Option Addr) (fn fc : Nat) (ta : Option Addr) (tn tc : Nat) (F T : List El) (w : World) (hF : Rd w 2 fa fn fc (cells F)) (hT : Rd w 2 ta tn tc (cells T))
    (hmF : Mid (headL m s au p ++ F)) (hmT : Mid T) :
    Calls Tryd.prog 14 #[.agg #[.string m, .string s, .string au, .string p, .slice fa fn fc, .string b, .slice ta tn tc]] w fun e w' => e = .returned (.bool (decide (fieldsE (headL m s au p ++ F) T b = 0))) ∧ Fr No w w' := by
  have HA := Lib.hid ((Fr.refl No w).alloc (.cells #[.string m, .string s, .string au, .string p, .slice fa fn fc, .string b, .slice ta tn tc] 34))
  have HC := Lib.hid (fields_calls m s au p b fa fn fc ta tn tc F T _ (hF.no HA.out) (hT.no HA.out) hmF hmT)
  obtain ⟨v, hv⟩ : ∃ v, fieldsE (headL m s au p ++ F) T b = v := ⟨_, rfl⟩
  rw [hv] at HC ⊢
  clear hF hT hmF hmT hv
  go_enter Tryd.func14, Tryd.ntmps14
  go_wp2_with fail
  refine HC.out.mono ?_
  rintro e w1 ⟨hf, ⟨rfl, a, k, r, rfl, _, _⟩ | ⟨hv, rfl⟩⟩
  · have HF := Lib.hid (HA.out.then_ hf)
    clear hf
    go_wp2
    go_ret
    exact ⟨rfl, HF.out⟩
  · have HF := Lib.hid (HA.out.then_ hf)
    have hv' : (v == 0) = false := by simpa using hv
    clear hf
    go_wp2
    go_ret
    exact ⟨ret_bool (by simpa using hv), HF.out⟩
end Go.Proofs.YtfejfaldjfichaaDoor
