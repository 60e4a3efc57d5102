/- Messages: the reader, as a whole: headers and bytes. -/
import Derived.Test.YtfejfaldjfichaaDoorMsgT
namespace Go.Proofs.YtfejfaldjfichaaDoor
open Go.RowKit Go.Hp
set_option maxRecDepth 100000

/-- What a reader knows. -/
structure St where
  st : Int
  F : List El
  T : List El
  ln : Int
  cm : Int
  dn : Bool
  br : Bool
def st0 : St := ⟨0, [], [], 0, 0, false, false⟩
def St.ans (S : St) (fv tv : Value) : Ans := ⟨S.st, fv, tv, S.ln, S.cm, S.dn⟩
def toldP (m : ByteArray) (S : St) (en : Bool) (e : Int) : Int := toldC m (S.ans (.slice none 0 0) (.slice none 0 0)) en e
theorem toldC_eq (m : ByteArray) (S : St) (fv tv : Value) (en : Bool) (e : Int) : toldC m (S.ans fv tv) en e = toldP m S en e := rfl
def St.bad (S : St) : St := { S with br := true }
def St.end_ (S : St) (en : Bool) : St := { S with dn := en }
def dataP (m : ByteArray) (S : St) (n : Int) (en : Bool) : Int × St :=
  if S.br || S.dn then (8, S) else if S.st = 0 then (11, S.bad) else if n < 0 then (1, S.bad)
  else (toldP m { S with cm := S.cm + n } en 0, if toldP m { S with cm := S.cm + n } en 0 = 0 then ({ S with cm := S.cm + n } : St).end_ en else S.bad)
/-- The status of a response. -/
def stOf (l : List El) : Int := (decV (fstV stN l).data.toList 0 : Nat)
def St.first (S : St) (l : List El) : St := { S with st := stOf l, F := delSt l, ln := (lengthF l).1 }
def headersP (m : ByteArray) (S : St) (en : Bool) (l : List El) : Int × St :=
  if S.br || S.dn then (8, S)
  else if 0 < S.st then
    (toldP m { S with T := l } en (if en then trailersF l else 11), if toldP m { S with T := l } en (if en then trailersF l else 11) = 0 then ({ S with T := l } : St).end_ en else S.bad)
  else if responseF l = 0 then
    (if stOf l < 200 then (if en then (11, S.bad) else (0, S))
     else (toldP m (S.first l) en (lengthF l).2, if toldP m (S.first l) en (lengthF l).2 = 0 then (S.first l).end_ en else S.bad))
  else (responseF l, S.bad)

/-- A reader at block q; its lists in blocks rf, rt. -/
def RdS (w : World) (q : Nat) (m : ByteArray) (S : St) (rf rt : Option Nat) : Prop :=
  ∃ fa fc ta tc, Bk w q (rdL m (S.ans (.slice fa S.F.length fc) (.slice ta S.T.length tc)) S.br) 54 ∧ Row w 30 2 fa S.F.length fc rf (cells S.F) ∧ Row w 30 2 ta S.T.length tc rt (cells S.T)
/-- What may have changed. -/
def RStep (w : World) (q : Nat) (rf rt : Option Nat) (w' : World) (rf' rt' : Option Nat) : Prop :=
  (rf' = rf ∨ ∀ b, rf' = some b → w.heap.size ≤ b) ∧ (rt' = rt ∨ ∀ b, rt' = some b → w.heap.size ≤ b) ∧ Fr (fun b => b = q) w w'
theorem RdS.no {w w' : World} {q : Nat} {m : ByteArray} {S : St} {rf rt : Option Nat} (h : RdS w q m S rf rt) (hf : Fr No w w') : RdS w' q m S rf rt := by
  obtain ⟨fa, fc, ta, tc, h1, h2, h3⟩ := h
  exact ⟨fa, fc, ta, tc, h1.no hf, h2.no hf, h3.no hf⟩
theorem RdS.lt {w : World} {q : Nat} {m : ByteArray} {S : St} {rf rt : Option Nat} (h : RdS w q m S rf rt) : q < w.heap.size := by
  obtain ⟨fa, fc, ta, tc, h1, h2, h3⟩ := h
  exact h1.lt
theorem row_q {w w' : World} {q : Nat} {cs : List Value} {a : Option Addr} {n c : Nat} {r : Option Nat} {xs : List El} (hr : Row w 30 2 a n c r (cells xs)) (hb : Bk w q cs 54) (hf : Fr (fun b => b = q) w w') : Row w' 30 2 a n c r (cells xs) :=
  hr.fr hf (fun _ h h' => row_nebk hr hb (by decide) (h' ▸ h))

theorem RdS.rdb {w : World} {q : Nat} {m : ByteArray} {S : St} {fa : Option Addr} {fc : Nat} {ta : Option Addr} {tc : Nat} (h : Bk w q (rdL m (S.ans (.slice fa S.F.length fc) (.slice ta S.T.length tc)) S.br) 54) :
    RdB w q m (S.ans (.slice fa S.F.length fc) (.slice ta S.T.length tc)) S.br := ⟨h, ⟨_, _, _, rfl⟩, ⟨_, _, _, rfl⟩⟩

theorem data_s (q : Nat) (m : ByteArray) (S : St) (rf rt : Option Nat) (n : Int) (en : Bool) (w : World) (h : RdS w q m S rf rt) (hc : 0 ≤ S.cm ∧ S.cm ≤ 4611686018427387904) (hn : n ≤ 4611686018427387903) :
    Calls Tryd.prog 18 #[.pointer (some ⟨q, 0, none⟩), .int .i64 n, .bool en] w fun e w' => e = .returned (.int .i64 (dataP m S n en).1) ∧ RdS w' q m (dataP m S n en).2 rf rt ∧ Fr (fun b => b = q) w w' := by
  obtain ⟨fa, fc, ta, tc, h1, h2, h3⟩ := h
  refine (data_calls q m _ S.br n en w (RdS.rdb h1) hc hn).mono ?_
  rintro e w' ⟨c, rfl, hf, hcase⟩
  have r2 := row_q h2 h1 hf
  have r3 := row_q h3 h1 hf
  have mk : ∀ S' : St, S'.F = S.F → S'.T = S.T → Bk w' q (rdL m (S'.ans (.slice fa S.F.length fc) (.slice ta S.T.length tc)) S'.br) 54 → RdS w' q m S' rf rt := by
    intro S' e1 e2 hb
    refine ⟨fa, fc, ta, tc, ?_, ?_, ?_⟩
    · rw [e1, e2]; exact hb
    · rw [e1]; exact r2
    · rw [e2]; exact r3
  have hdn : (S.ans (.slice fa S.F.length fc) (.slice ta S.T.length tc)).dn = S.dn := rfl
  have hst : (S.ans (.slice fa S.F.length fc) (.slice ta S.T.length tc)).st = S.st := rfl
  rw [hdn, hst] at hcase
  rcases hcase with ⟨ho, rfl, hb⟩ | ⟨ho, ⟨h0, rfl, hb⟩ | ⟨h0, hn0, rfl, hb⟩ | ⟨h0, hn0, hcc, hb⟩⟩
  · have e : dataP m S n en = (8, S) := by unfold dataP; rw [if_pos ho]
    rw [e]
    exact ⟨rfl, mk S rfl rfl hb.1, hf⟩
  · have e : dataP m S n en = (11, S.bad) := by unfold dataP; rw [if_neg (by rw [ho]; decide), if_pos h0]
    rw [e]
    exact ⟨rfl, mk _ rfl rfl hb.1, hf⟩
  · have e : dataP m S n en = (1, S.bad) := by unfold dataP; rw [if_neg (by rw [ho]; decide), if_neg h0, if_pos hn0]
    rw [e]
    exact ⟨rfl, mk _ rfl rfl hb.1, hf⟩
  · have hcc : c = toldP m { S with cm := S.cm + n } en 0 := hcc
    have e : dataP m S n en = (c, if c = 0 then ({ S with cm := S.cm + n } : St).end_ en else S.bad) := by unfold dataP; rw [if_neg (by rw [ho]; decide), if_neg h0, if_neg (by omega), ← hcc]
    rw [e]
    rcases hb with ⟨h0, hb⟩ | ⟨h0, hb⟩
    · rw [if_pos h0]
      exact ⟨rfl, mk _ rfl rfl hb.1, hf⟩
    · rw [if_neg h0]
      exact ⟨rfl, mk _ rfl rfl hb.1, hf⟩

def ToldS (q : Nat) (m : ByteArray) (S S' : St) (en : Bool) (rf rt rf' rt' : Option Nat) (c : Int) (w : World) (e : Ending) (w' : World) : Prop :=
  e = .returned (.int .i64 c) ∧ Fr (fun b => b = q) w w' ∧ ((c = 0 ∧ RdS w' q m (S'.end_ en) rf' rt') ∨ (c ≠ 0 ∧ RdS w' q m S.bad rf rt))
theorem told_s (q : Nat) (m : ByteArray) (S S' : St) (en : Bool) (e : Int) (rf rt rf' rt' : Option Nat) (fa : Option Addr) (fl fc : Nat) (ta : Option Addr) (tl tc : Nat) (w : World) (h : RdS w q m S rf rt) (hbr : S'.br = S.br)
    (hF : Row w 30 2 fa fl fc rf' (cells S'.F)) (hT : Row w 30 2 ta tl tc rt' (cells S'.T)) :
    Calls Tryd.prog 25 #[.pointer (some ⟨q, 0, none⟩), .agg (ansL (S'.ans (.slice fa fl fc) (.slice ta tl tc))).toArray, .bool en, .int .i64 e] w (ToldS q m S S' en rf rt rf' rt' (toldP m S' en e) w) := by
  have e1 := rd_xlen hF.rd
  have e2 := rd_xlen hT.rd
  subst e1; subst e2
  obtain ⟨fa0, fc0, ta0, tc0, h1, h2, h3⟩ := h
  refine (told_calls q m _ (S'.ans (.slice fa S'.F.length fc) (.slice ta S'.T.length tc)) S.br en e w (RdS.rdb h1) ⟨_, _, _, rfl⟩ ⟨_, _, _, rfl⟩).mono ?_
  rintro e w' ⟨rfl, hf, ⟨h0, hb⟩ | ⟨h0, hb⟩⟩
  · refine ⟨rfl, hf, .inl ⟨h0, fa, fc, ta, tc, ?_, row_q hF h1 hf, row_q hT h1 hf⟩⟩
    have := hb.1
    rw [← hbr] at this
    exact this
  · exact ⟨rfl, hf, .inr ⟨h0, fa0, fc0, ta0, tc0, hb.1, row_q h2 h1 hf, row_q h3 h1 hf⟩⟩

theorem response_ok {l : List El} (h : responseF l = 0) : dgOK (fstV stN l) = true ∧ (fstV stN l).size = 3 := by
  unfold responseF at h
  split at h
  · split at h
    · omega
    · rename_i hb
      unfold badSt at hb
      simp only [Bool.or_eq_true, not_or] at hb
      obtain ⟨h1, h2, _⟩ := hb
      exact ⟨by simpa using h2, by have := h1; simp at this; omega⟩
  · rename_i h1; exact absurd h h1
def HeadQ (q : Nat) (m : ByteArray) (p : Int × St) (rf rt : Option Nat) (w : World) (e : Ending) (w' : World) : Prop :=
  e = .returned (.int .i64 p.1) ∧ ∃ rf' rt', RdS w' q m p.2 rf' rt' ∧ RStep w q rf rt w' rf' rt'
set_option maxHeartbeats 4000000 in
theorem headers_s (q : Nat) (m : ByteArray) (S : St) (rf rt : Option Nat) (en : Bool) (a : Option Addr) (n c : Nat) (xs : List El) (w : World) (h : RdS w q m S rf rt) (hx : Rd w 2 a n c (cells xs)) (hmid : Mid xs) :
    Calls Tryd.prog 11 #[.pointer (some ⟨q, 0, none⟩), .bool en, .slice a n c] w (HeadQ q m (headersP m S en xs) rf rt w) := by
  have hn := rd_xlen hx
  have hn1 : n ≤ 2000000 := by rw [← hn]; exact hmid.1
  have HN := Lib.hid hn
  have HX := Lib.hid hx
  have HMD := Lib.hid hmid
  have HS := Lib.hid h
  obtain ⟨fa, fc, ta, tc, h1, h2, h3⟩ := h
  have hO : Calls Tryd.prog 22 #[.pointer (some ⟨q, 0, none⟩)] w (fun e w' => e = .returned (.bool (S.br || S.dn)) ∧ w = w') := over_calls q m _ S.br w (RdS.rdb h1)
  have HO := Lib.hid hO
  have HF2 := Lib.hid h2
  have HT2 := Lib.hid h3
  obtain ⟨hp, hhp⟩ : ∃ v, headersP m S en xs = v := ⟨_, rfl⟩
  rw [hhp]
  have HHP := Lib.hid hhp
  clear hO hn hx hmid h2 h3 hhp
  cases hov : (S.br || S.dn) with
  | true =>
    have e1 : headersP m S en xs = (8, S) := by unfold headersP; rw [if_pos hov]
    have E1 := Lib.hid (HHP.out.symm.trans e1)
    rw [hov] at HO
    clear e1 hov h1
    go_enter Tryd.func11, Tryd.ntmps11
    go_wp2_with fail
    refine HO.out.mono ?_
    rintro e w' ⟨rfl, rfl⟩
    go_wp2
    go_ret
    rw [E1.out]
    exact ⟨rfl, rf, rt, HS.out, .inl rfl, .inl rfl, Fr.refl _ _⟩
  | false =>
    rw [hov] at HO
    have HOV := Lib.hid hov
    obtain ⟨st, F, T, ln, cm, dn, br⟩ := S
    have d1 : w.cell? ⟨q, 1, none⟩ = some (.int .i64 st) := h1.cell 1
    have d2 : w.cell? ⟨q, 2, none⟩ = some (.slice fa F.length fc) := h1.cell 2
    have d3 : w.cell? ⟨q, 3, none⟩ = some (.slice ta T.length tc) := h1.cell 3
    have d4 : w.cell? ⟨q, 4, none⟩ = some (.int .i64 ln) := h1.cell 4
    have d5 : w.cell? ⟨q, 5, none⟩ = some (.int .i64 cm) := h1.cell 5
    have d6 : w.cell? ⟨q, 6, none⟩ = some (.bool dn) := h1.cell 6
    have HQ := Lib.hid h1
    obtain ⟨fl, hfl⟩ : ∃ v, F.length = v := ⟨_, rfl⟩
    obtain ⟨tl, htl⟩ : ∃ v, T.length = v := ⟨_, rfl⟩
    rw [hfl] at d2
    rw [htl] at d3
    have HFL := Lib.hid hfl
    have HTL := Lib.hid htl
    have HFA := Lib.hid ((Fr.refl No w).alloc (.cells #[.int .i64 st, .slice fa fl fc, .slice ta tl tc, .int .i64 ln, .int .i64 cm, .bool dn] 52))
    have HGB := Lib.hid (Bk.new w [.int .i64 st, .slice fa fl fc, .slice ta tl tc, .int .i64 ln, .int .i64 cm, .bool dn] 52)
    obtain ⟨G, hG⟩ : ∃ G, w.heap.size = G := ⟨_, rfl⟩
    rw [hG] at HGB
    have HGE := Lib.hid hG
    clear h1 hov hfl htl
    by_cases hst : 0 < st
    · have HST := Lib.hid hst
      go_enter Tryd.func11, Tryd.ntmps11
      go_wp2_with fail
      refine HO.out.mono ?_
      rintro e w' ⟨rfl, rfl⟩
      go_wp2_with fail
      refine (clone_calls a n c xs _ (HX.out.no HFA.out) (by omega)).mono ?_
      rintro e w2 ⟨a2, c2, r2, rfl, hrow2, hnew2, hf2⟩
      have HF0 := Lib.hid (HFA.out.then_ hf2)
      have HR2 := Lib.hid hrow2
      have HG2 := Lib.hid (HGB.out.no hf2)
      have HN2 := Lib.hid (fun b hb => Nat.le_trans HFA.out.size (hnew2 b hb) : ∀ b, r2 = some b → w.heap.size ≤ b)
      have g2 : w2.cell? ⟨G, 2, none⟩ = some (.slice ta tl tc) := HG2.out.cell 2
      have gf2 : w2.frozen? ⟨G, 2, none⟩ = false := HG2.out.frozen 2
      clear hrow2 hnew2 hf2 d1 d2 d3 d4 d5 d6
      go_wp2_with fail
      have HF3 := Lib.hid (Fr.trans_new HF0.out ((Fr.refl (fun b => b = G) w2).setCell (a := ⟨G, 2, none⟩) (.inl rfl) (.slice a2 n c2)) (by have := HGE.out; omega))
      have HG3 := Lib.hid (HG2.out.set 2 (.slice a2 n c2))
      have HR3 := Lib.hid (HR2.out.fr ((Fr.refl (fun b => b = G) w2).setCell (a := ⟨G, 2, none⟩) (.inl rfl) (.slice a2 n c2)) (fun b hb h => by subst h; exact row_nebk HR2.out HG2.out (by decide) hb))
      clear g2 gf2
      generalize w2.setCell ⟨G, 2, none⟩ (.slice a2 n c2) = w3 at *
      refine (trailers_calls a n c xs _ (HX.out.no HF3.out) HMD.out.sz).mono ?_
      rintro e w4 ⟨rfl, hf4⟩
      have HF4 := Lib.hid (HF3.out.then_ hf4)
      have HG4 := Lib.hid (HG3.out.no hf4)
      have HR4 := Lib.hid (HR3.out.no hf4)
      clear hf4
      have g0 : w4.cell? ⟨G, 0, none⟩ = some (.int .i64 st) := HG4.out.cell 0
      have g1 : w4.cell? ⟨G, 1, none⟩ = some (.slice fa fl fc) := HG4.out.cell 1
      have g2 : w4.cell? ⟨G, 2, none⟩ = some (.slice a2 n c2) := HG4.out.cell 2
      have g3 : w4.cell? ⟨G, 3, none⟩ = some (.int .i64 ln) := HG4.out.cell 3
      have g4 : w4.cell? ⟨G, 4, none⟩ = some (.int .i64 cm) := HG4.out.cell 4
      have g5 : w4.cell? ⟨G, 5, none⟩ = some (.bool dn) := HG4.out.cell 5
      have HRS := Lib.hid (HS.out.no HF4.out)
      have HFF := Lib.hid (HF2.out.no HF4.out)
      have hTS := fun e => told_s q m ⟨st, F, T, ln, cm, dn, br⟩ ⟨st, F, xs, ln, cm, dn, br⟩ en e rf rt rf r2 fa fl fc a2 n c2 w4 HRS.out rfl (by rw [← HFL.out]; exact HFF.out) HR4.out
      cases en with
      | true =>
        obtain ⟨cv, hcv⟩ : ∃ v, toldP m ⟨st, F, xs, ln, cm, dn, br⟩ true (trailersF xs) = v := ⟨_, rfl⟩
        have e1 : headersP m ⟨st, F, T, ln, cm, dn, br⟩ true xs = (cv, if cv = 0 then (⟨st, F, xs, ln, cm, dn, br⟩ : St).end_ true else (⟨st, F, T, ln, cm, dn, br⟩ : St).bad) := by
          unfold headersP; rw [if_neg (by rw [HOV.out]; decide), if_pos hst, ← hcv]; rfl
        have hTT := hTS (trailersF xs)
        rw [hcv] at hTT
        have E1 := Lib.hid (HHP.out.symm.trans e1)
        have HTT := Lib.hid hTT
        obtain ⟨tv, htv⟩ : ∃ v, trailersF xs = v := ⟨_, rfl⟩
        rw [htv] at HTT ⊢
        clear e1 hTT hTS hcv htv
        go_wp2_with fail
        refine HTT.out.mono ?_
        rintro e w5 ⟨rfl, hf5, hcase⟩
        have HF5 := Lib.hid ((HF4.out.mono (S' := fun b => b = q) (fun _ _ h => h.elim)).trans hf5 (fun _ _ h => h))
        have HCS := Lib.hid hcase
        clear hf5 hcase g0 g1 g2 g3 g4 g5
        go_wp2
        go_ret
        rw [E1.out]
        rcases HCS.out with ⟨h0, hr⟩ | ⟨h0, hr⟩
        · exact ⟨rfl, rf, r2, by rw [if_pos h0]; exact hr, .inl rfl, .inr HN2.out, HF5.out⟩
        · exact ⟨rfl, rf, rt, by rw [if_neg h0]; exact hr, .inl rfl, .inl rfl, HF5.out⟩
      | false =>
        obtain ⟨cv, hcv⟩ : ∃ v, toldP m ⟨st, F, xs, ln, cm, dn, br⟩ false 11 = v := ⟨_, rfl⟩
        have e1 : headersP m ⟨st, F, T, ln, cm, dn, br⟩ false xs = (cv, if cv = 0 then (⟨st, F, xs, ln, cm, dn, br⟩ : St).end_ false else (⟨st, F, T, ln, cm, dn, br⟩ : St).bad) := by
          unfold headersP; rw [if_neg (by rw [HOV.out]; decide), if_pos hst, ← hcv]; rfl
        have hTT := hTS 11
        rw [hcv] at hTT
        have E1 := Lib.hid (HHP.out.symm.trans e1)
        have HTT := Lib.hid hTT
        clear e1 hTT hTS hcv
        go_wp2_with fail
        refine HTT.out.mono ?_
        rintro e w5 ⟨rfl, hf5, hcase⟩
        have HF5 := Lib.hid ((HF4.out.mono (S' := fun b => b = q) (fun _ _ h => h.elim)).trans hf5 (fun _ _ h => h))
        have HCS := Lib.hid hcase
        clear hf5 hcase g0 g1 g2 g3 g4 g5
        go_wp2
        go_ret
        rw [E1.out]
        rcases HCS.out with ⟨h0, hr⟩ | ⟨h0, hr⟩
        · exact ⟨rfl, rf, r2, by rw [if_pos h0]; exact hr, .inl rfl, .inr HN2.out, HF5.out⟩
        · exact ⟨rfl, rf, rt, by rw [if_neg h0]; exact hr, .inl rfl, .inl rfl, HF5.out⟩
    · have hst' : st ≤ 0 := by omega
      have HST := Lib.hid hst
      go_enter Tryd.func11, Tryd.ntmps11
      go_wp2_with fail
      refine HO.out.mono ?_
      rintro e w' ⟨rfl, rfl⟩
      go_wp2_with fail
      refine (response_calls a n c xs _ (HX.out.no HFA.out) HMD.out.sz).mono ?_
      rintro e w2 ⟨rfl, hf2⟩
      have HW2 := Lib.hid (HFA.out.then_ hf2)
      have HG2 := Lib.hid (HGB.out.no hf2)
      clear hf2 d1 d2 d3 d4 d5 d6
      obtain ⟨re, hre⟩ : ∃ v, responseF xs = v := ⟨_, rfl⟩
      rw [hre]
      have HRE := Lib.hid hre
      clear hre
      have g0 : w2.cell? ⟨G, 0, none⟩ = some (.int .i64 st) := HG2.out.cell 0
      have g1 : w2.cell? ⟨G, 1, none⟩ = some (.slice fa fl fc) := HG2.out.cell 1
      have g2 : w2.cell? ⟨G, 2, none⟩ = some (.slice ta tl tc) := HG2.out.cell 2
      have g3 : w2.cell? ⟨G, 3, none⟩ = some (.int .i64 ln) := HG2.out.cell 3
      have g4 : w2.cell? ⟨G, 4, none⟩ = some (.int .i64 cm) := HG2.out.cell 4
      have g5 : w2.cell? ⟨G, 5, none⟩ = some (.bool dn) := HG2.out.cell 5
      by_cases hr0 : re = 0
      · subst hr0
        obtain ⟨hdg, hs3⟩ := response_ok HRE.out
        obtain ⟨s, hs⟩ : ∃ v, fstV stN xs = v := ⟨_, rfl⟩
        rw [hs] at hdg hs3
        have HDG := Lib.hid hdg
        have HSE := Lib.hid hs
        have hG : Calls Tryd.prog 27 #[.string stN, .slice a n c] w2 fun e w' => e = .returned (.tuple #[.string s, .bool (getF stN xs).isSome]) ∧ Fr No w2 w' := by
          have h := get_calls stN a n c xs w2 (HX.out.no HW2.out)
          have e : (getF stN xs).getD ⟨#[]⟩ = s := hs
          rw [e] at h; exact h
        have HGT := Lib.hid hG
        obtain ⟨gb, hgb⟩ : ∃ v, (getF stN xs).isSome = v := ⟨_, rfl⟩
        rw [hgb] at HGT
        obtain ⟨sd, hsd⟩ : ∃ v, ((decV s.data.toList 0 : Nat) : Int) = v := ⟨_, rfl⟩
        have hso : stOf xs = sd := by unfold stOf; rw [hs]; exact hsd
        have HSD := Lib.hid hsd
        have HSO := Lib.hid hso
        clear hdg hs hG hgb hsd hso
        go_wp2_with fail
        refine HGT.out.mono ?_
        rintro e w3 ⟨rfl, hf3⟩
        have HW3 := Lib.hid (HW2.out.then_ hf3)
        have HG3 := Lib.hid (HG2.out.no hf3)
        clear hf3 g0 g1 g2 g3 g4 g5
        go_wp2_with fail
        refine (atoi_calls s w3 HDG.out (by omega)).mono ?_
        rintro e w4 ⟨rfl, hf4⟩
        rw [HSD.out]
        have HW4 := Lib.hid (HW3.out.then_ hf4)
        have HG4 := Lib.hid (HG3.out.no hf4)
        clear hf4
        have g0 : w4.cell? ⟨G, 0, none⟩ = some (.int .i64 st) := HG4.out.cell 0
        have g1 : w4.cell? ⟨G, 1, none⟩ = some (.slice fa fl fc) := HG4.out.cell 1
        have g2 : w4.cell? ⟨G, 2, none⟩ = some (.slice ta tl tc) := HG4.out.cell 2
        have g3 : w4.cell? ⟨G, 3, none⟩ = some (.int .i64 ln) := HG4.out.cell 3
        have g4 : w4.cell? ⟨G, 4, none⟩ = some (.int .i64 cm) := HG4.out.cell 4
        have g5 : w4.cell? ⟨G, 5, none⟩ = some (.bool dn) := HG4.out.cell 5
        by_cases h2 : sd < 200
        · cases en with
          | true =>
            have hte : toldP m ⟨st, F, T, ln, cm, dn, br⟩ true 11 = 11 := by unfold toldP toldC; rw [if_neg (fun h => by have := h.1; omega)]
            have HTT := Lib.hid (told_s q m ⟨st, F, T, ln, cm, dn, br⟩ ⟨st, F, T, ln, cm, dn, br⟩ true 11 rf rt rf rt fa fl fc ta tl tc w4 (HS.out.no HW4.out) rfl (by rw [← HFL.out]; exact HF2.out.no HW4.out) (by rw [← HTL.out]; exact HT2.out.no HW4.out))
            rw [hte] at HTT
            have e1 : headersP m ⟨st, F, T, ln, cm, dn, br⟩ true xs = (11, (⟨st, F, T, ln, cm, dn, br⟩ : St).bad) := by
              unfold headersP; rw [if_neg (by rw [HOV.out]; decide), if_neg (show ¬ (0 : Int) < st by omega), HRE.out, if_pos rfl, HSO.out, if_pos h2]; rfl
            have E1 := Lib.hid (HHP.out.symm.trans e1)
            clear e1 hte
            go_wp2_with fail
            refine HTT.out.mono ?_
            rintro e w5 ⟨rfl, hf5, hcase⟩
            have HF5 := Lib.hid ((HW4.out.mono (S' := fun b => b = q) (fun _ _ h => h.elim)).trans hf5 (fun _ _ h => h))
            have HCS := Lib.hid hcase
            clear hf5 hcase g0 g1 g2 g3 g4 g5
            go_wp2
            go_ret
            rw [E1.out]
            rcases HCS.out with ⟨h0, hr⟩ | ⟨h0, hr⟩
            · exact absurd h0 (by decide)
            · exact ⟨rfl, rf, rt, hr, .inl rfl, .inl rfl, HF5.out⟩
          | false =>
            have e1 : headersP m ⟨st, F, T, ln, cm, dn, br⟩ false xs = (0, ⟨st, F, T, ln, cm, dn, br⟩) := by
              unfold headersP; rw [if_neg (by rw [HOV.out]; decide), if_neg (show ¬ (0 : Int) < st by omega), HRE.out, if_pos rfl, HSO.out, if_pos h2]; rfl
            have E1 := Lib.hid (HHP.out.symm.trans e1)
            clear e1
            go_wp2
            go_ret
            rw [E1.out]
            exact ⟨rfl, rf, rt, HS.out.no HW4.out, .inl rfl, .inl rfl, HW4.out.mono (fun _ _ h => h.elim)⟩
        · obtain ⟨⟨nl, ne⟩, hnl⟩ : ∃ v, lengthF xs = v := ⟨_, rfl⟩
          have e1 : headersP m ⟨st, F, T, ln, cm, dn, br⟩ en xs = (toldP m ⟨sd, delSt xs, T, nl, cm, dn, br⟩ en ne, if toldP m ⟨sd, delSt xs, T, nl, cm, dn, br⟩ en ne = 0 then (⟨sd, delSt xs, T, nl, cm, dn, br⟩ : St).end_ en else (⟨st, F, T, ln, cm, dn, br⟩ : St).bad) := by
            unfold headersP St.first; rw [if_neg (by rw [HOV.out]; decide), if_neg (show ¬ (0 : Int) < st by omega), HRE.out, if_pos rfl, HSO.out, if_neg h2, hnl]
          obtain ⟨cv, hcv⟩ : ∃ v, toldP m ⟨sd, delSt xs, T, nl, cm, dn, br⟩ en ne = v := ⟨_, rfl⟩
          rw [hcv] at e1
          have E1 := Lib.hid (HHP.out.symm.trans e1)
          have HCV := Lib.hid hcv
          have HNL := Lib.hid hnl
          have gf : ∀ o, w4.frozen? ⟨G, o, none⟩ = false := fun o => HG4.out.frozen o
          clear e1 hcv hnl
          go_wp2_with fail
          have HW5 := Lib.hid (Fr.trans_new HW4.out ((Fr.refl (fun b => b = G) w4).setCell (a := ⟨G, 0, none⟩) (.inl rfl) (.int .i64 sd)) (by have := HGE.out; omega))
          have HG5 := Lib.hid (HG4.out.set 0 (.int .i64 sd))
          clear g0 g1 g2 g3 g4 g5 gf
          generalize w4.setCell ⟨G, 0, none⟩ (.int .i64 sd) = w5 at *
          refine (clone_calls a n c xs _ (HX.out.no HW5.out) (by omega)).mono ?_
          rintro e w6 ⟨a6, c6, r6, rfl, hrow6, hnew6, hf6⟩
          have HW6 := Lib.hid (HW5.out.then_ hf6)
          have HR6 := Lib.hid hrow6
          have HG6 := Lib.hid (HG5.out.no hf6)
          have HN6 := Lib.hid (fun b hb => Nat.le_trans HW5.out.size (hnew6 b hb) : ∀ b, r6 = some b → w.heap.size ≤ b)
          clear hrow6 hnew6 hf6
          go_wp2_with fail
          refine (delst_calls a6 n c6 r6 xs _ HR6.out).mono ?_
          rintro e w7 ⟨rfl, hrow7, hf7⟩
          have HW7 := Lib.hid (HW6.out.trans hf7 (fun b hb h => absurd (HN6.out b h.symm) (by omega)))
          have HR7 := Lib.hid hrow7
          have HG7 := Lib.hid (HG6.out.fr hf7 (fun h => row_nebk HR6.out HG6.out (by decide) h.symm))
          obtain ⟨dl, hdl⟩ : ∃ v, (delSt xs).length = v := ⟨_, rfl⟩
          rw [hdl] at HR7 ⊢
          have HDL := Lib.hid hdl
          clear hrow7 hf7 hdl
          have g1 : w7.cell? ⟨G, 1, none⟩ = some (.slice fa fl fc) := HG7.out.cell 1
          have gf1 : w7.frozen? ⟨G, 1, none⟩ = false := HG7.out.frozen 1
          go_wp2_with fail
          have HW8 := Lib.hid (Fr.trans_new HW7.out ((Fr.refl (fun b => b = G) w7).setCell (a := ⟨G, 1, none⟩) (.inl rfl) (.slice a6 dl c6)) (by have := HGE.out; omega))
          have HG8 := Lib.hid (HG7.out.set 1 (.slice a6 dl c6))
          have HR8 := Lib.hid (HR7.out.fr ((Fr.refl (fun b => b = G) w7).setCell (a := ⟨G, 1, none⟩) (.inl rfl) (.slice a6 dl c6)) (fun b hb h => by subst h; exact row_nebk HR7.out HG7.out (by decide) hb))
          clear g1 gf1
          generalize w7.setCell ⟨G, 1, none⟩ (.slice a6 dl c6) = w8 at *
          have hLN := length_calls a n c xs w8 (HX.out.no HW8.out) HMD.out.sz
          rw [HNL.out] at hLN
          have HLN := Lib.hid hLN
          clear hLN
          refine HLN.out.mono ?_
          rintro e w9 ⟨rfl, hf9⟩
          have HW9 := Lib.hid (HW8.out.then_ hf9)
          have HG9 := Lib.hid (HG8.out.no hf9)
          have HR9 := Lib.hid (HR8.out.no hf9)
          clear hf9
          have g0 : w9.cell? ⟨G, 0, none⟩ = some (.int .i64 sd) := HG9.out.cell 0
          have g1 : w9.cell? ⟨G, 1, none⟩ = some (.slice a6 dl c6) := HG9.out.cell 1
          have g2 : w9.cell? ⟨G, 2, none⟩ = some (.slice ta tl tc) := HG9.out.cell 2
          have g3 : w9.cell? ⟨G, 3, none⟩ = some (.int .i64 ln) := HG9.out.cell 3
          have g4 : w9.cell? ⟨G, 4, none⟩ = some (.int .i64 cm) := HG9.out.cell 4
          have g5 : w9.cell? ⟨G, 5, none⟩ = some (.bool dn) := HG9.out.cell 5
          have gf3 : w9.frozen? ⟨G, 3, none⟩ = false := HG9.out.frozen 3
          have HWA := Lib.hid (Fr.trans_new HW9.out ((Fr.refl (fun b => b = G) w9).setCell (a := ⟨G, 3, none⟩) (.inl rfl) (.int .i64 nl)) (by have := HGE.out; omega))
          have HRA := Lib.hid (HR9.out.fr ((Fr.refl (fun b => b = G) w9).setCell (a := ⟨G, 3, none⟩) (.inl rfl) (.int .i64 nl)) (fun b hb h => by subst h; exact row_nebk HR9.out HG9.out (by decide) hb))
          have HTT := Lib.hid (told_s q m ⟨st, F, T, ln, cm, dn, br⟩ ⟨sd, delSt xs, T, nl, cm, dn, br⟩ en ne rf rt r6 rt a6 dl c6 ta tl tc _ (HS.out.no HWA.out) rfl HRA.out (by rw [← HTL.out]; exact HT2.out.no HWA.out))
          rw [HCV.out] at HTT
          go_wp2_with fail
          refine HTT.out.mono ?_
          rintro e wb ⟨rfl, hfb, hcase⟩
          have HFB := Lib.hid ((HWA.out.mono (S' := fun b => b = q) (fun _ _ h => h.elim)).trans hfb (fun _ _ h => h))
          have HCS := Lib.hid hcase
          clear hfb hcase g0 g1 g2 g3 g4 g5 gf3
          go_wp2
          go_ret
          rw [E1.out]
          rcases HCS.out with ⟨h0, hr⟩ | ⟨h0, hr⟩
          · exact ⟨rfl, r6, rt, by rw [if_pos h0]; exact hr, .inr HN6.out, .inl rfl, HFB.out⟩
          · exact ⟨rfl, rf, rt, by rw [if_neg h0]; exact hr, .inl rfl, .inl rfl, HFB.out⟩
      · have hr0' : (re == 0) = false := by simpa using hr0
        have hte : toldP m ⟨st, F, T, ln, cm, dn, br⟩ en re = re := by unfold toldP toldC; rw [if_neg (fun h => hr0 h.1)]
        have HTT := Lib.hid (told_s q m ⟨st, F, T, ln, cm, dn, br⟩ ⟨st, F, T, ln, cm, dn, br⟩ en re rf rt rf rt fa fl fc ta tl tc w2 (HS.out.no HW2.out) rfl (by rw [← HFL.out]; exact HF2.out.no HW2.out) (by rw [← HTL.out]; exact HT2.out.no HW2.out))
        rw [hte] at HTT
        have e1 : headersP m ⟨st, F, T, ln, cm, dn, br⟩ en xs = (re, (⟨st, F, T, ln, cm, dn, br⟩ : St).bad) := by
          unfold headersP; rw [if_neg (by rw [HOV.out]; decide), if_neg (show ¬ (0 : Int) < st by omega), HRE.out, if_neg hr0]
        have E1 := Lib.hid (HHP.out.symm.trans e1)
        clear e1 hte
        go_wp2_with fail
        refine HTT.out.mono ?_
        rintro e w5 ⟨rfl, hf5, hcase⟩
        have HF5 := Lib.hid ((HW2.out.mono (S' := fun b => b = q) (fun _ _ h => h.elim)).trans hf5 (fun _ _ h => h))
        have HCS := Lib.hid hcase
        have HR0 := Lib.hid hr0
        clear hf5 hcase g0 g1 g2 g3 g4 g5 hr0 hr0'
        go_wp2
        go_ret
        rw [E1.out]
        rcases HCS.out with ⟨h0, hr⟩ | ⟨h0, hr⟩
        · exact absurd h0 HR0.out
        · exact ⟨rfl, rf, rt, hr, .inl rfl, .inl rfl, HF5.out⟩
end Go.Proofs.YtfejfaldjfichaaDoor
