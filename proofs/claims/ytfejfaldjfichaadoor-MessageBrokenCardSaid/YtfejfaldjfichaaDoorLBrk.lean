/- MessageBroken: the walk. -/
import Derived.Test.YtfejfaldjfichaaDoorMsgFew
import Derived.Test.YtfejfaldjfichaaDoorLHead
namespace Go.Proofs.YtfejfaldjfichaaDoor
open Go.RowKit Go.Hp
set_option maxRecDepth 100000

theorem status_v (q : Nat) (m : ByteArray) (S : St) (rf rt : Option Nat) (s : Int) (w : World) (h : RdS w q m S rf rt) (hs : S.st = s) : Calls Tryd.prog 20 #[.pointer (some ⟨q, 0, none⟩)] w fun e w' => e = .returned (.int .i64 s) ∧ w = w' := by
  subst hs; exact status_s q m S rf rt w h
theorem done_v (q : Nat) (m : ByteArray) (S : St) (rf rt : Option Nat) (d : Bool) (w : World) (h : RdS w q m S rf rt) (hs : S.dn = d) : Calls Tryd.prog 12 #[.pointer (some ⟨q, 0, none⟩)] w fun e w' => e = .returned (.bool d) ∧ w = w' := by
  subst hs; exact done_s q m S rf rt w h
theorem data_v (q : Nat) (m : ByteArray) (S : St) (rf rt : Option Nat) (n : Int) (en : Bool) (w : World) (h : RdS w q m S rf rt) (ho : (S.br || S.dn) = true) (hc : 0 ≤ S.cm ∧ S.cm ≤ 4611686018427387904) (hn : n ≤ 4611686018427387903) :
    Calls Tryd.prog 18 #[.pointer (some ⟨q, 0, none⟩), .int .i64 n, .bool en] w fun e w' => e = .returned (.int .i64 8) ∧ RdS w' q m S rf rt ∧ Fr (fun b => b = q) w w' := by
  have := data_s q m S rf rt n en w h hc hn
  rw [data_over m S n en ho] at this
  exact this
theorem head_v (q : Nat) (m : ByteArray) (S : St) (rf rt : Option Nat) (en : Bool) (a : Option Addr) (n c : Nat) (xs : List El) (w : World) (h : RdS w q m S rf rt) (hx : Rd w 2 a n c (cells xs)) (hmid : Mid xs) (ho : (S.br || S.dn) = true) :
    Calls Tryd.prog 11 #[.pointer (some ⟨q, 0, none⟩), .bool en, .slice a n c] w fun e w' => e = .returned (.int .i64 8) ∧ ∃ rf' rt', RdS w' q m S rf' rt' ∧ Fr (fun b => b = q) w w' := by
  have := headers_s q m S rf rt en a n c xs w h hx hmid
  rw [head_over m S en xs ho] at this
  refine this.mono ?_
  rintro e w' ⟨rfl, rf', rt', h1, h2⟩
  exact ⟨rfl, rf', rt', h1, h2.2.2⟩

/-- A step of the play. -/
structure OpM where
  kind : Int
  n : Int
  en : Bool
  la : Option Addr
  ln : Nat
  lc : Nat
  l : List El
def op0 : OpM := ⟨0, 0, false, none, 0, 0, []⟩
def OpM.cells (o : OpM) : List Value := [.int .i64 o.kind, .int .i64 o.n, .bool o.en, .slice o.la o.ln o.lc]
def opcells (ops : List OpM) : List Value := ops.flatMap OpM.cells
theorem opcells_len (ops : List OpM) : (opcells ops).length = ops.length * 4 := by
  induction ops with
  | nil => rfl
  | cons o ops ih => simp only [opcells, OpM.cells, List.flatMap_cons, List.length_append, List.length_cons, List.length_nil] at *; rw [ih]; omega
theorem opcells_get (ops : List OpM) (k : Nat) (h : k < ops.length) : (opcells ops)[k * 4]? = some (.int .i64 (ops.getD k op0).kind) ∧ (opcells ops)[k * 4 + 1]? = some (.int .i64 (ops.getD k op0).n) ∧ (opcells ops)[k * 4 + 2]? = some (.bool (ops.getD k op0).en) ∧ (opcells ops)[k * 4 + 3]? = some (.slice (ops.getD k op0).la (ops.getD k op0).ln (ops.getD k op0).lc) := by
  induction ops generalizing k with
  | nil => simp at h
  | cons o ops ih =>
    cases k with
    | zero => exact ⟨rfl, rfl, rfl, rfl⟩
    | succ k =>
      have := ih k (by simpa using h)
      simp only [opcells, OpM.cells, List.flatMap_cons] at *
      have e1 : (k + 1) * 4 = k * 4 + 4 := by omega
      rw [e1, List.getElem?_append_right (by simp), List.getElem?_append_right (by simp), List.getElem?_append_right (by simp), List.getElem?_append_right (by simp)]
      simpa using this

theorem brk_out (m : Int) (en : Bool) (a : Option Addr) (n c : Nat) (w : World) (hc : n ≤ 9223372036854775807) (h : 30 < n ∨ m < 0 ∨ 1000 < m) :
    Calls Tryd.prog 7 #[.slice a n c, .int .i64 m, .bool en] w (TrueQ w) := by
  by_cases h1 : 30 < n
  · go_enter Tryd.func7, Tryd.ntmps7
    go_wp2_with fail
    refine (alive_calls w).mono ?_
    rintro e w' ⟨rfl, hf⟩
    go_wp2
    go_ret
    exact ⟨rfl, hf⟩
  · by_cases h2 : m < 0
    · go_enter Tryd.func7, Tryd.ntmps7
      go_wp2_with fail
      refine (alive_calls w).mono ?_
      rintro e w' ⟨rfl, hf⟩
      go_wp2
      go_ret
      exact ⟨rfl, hf⟩
    · have h3 : 1000 < m := by omega
      go_enter Tryd.func7, Tryd.ntmps7
      go_wp2_with fail
      refine (alive_calls w).mono ?_
      rintro e w' ⟨rfl, hf⟩
      go_wp2
      go_ret
      exact ⟨rfl, hf⟩

set_option maxHeartbeats 4000000 in
theorem brk_in (m : Int) (en : Bool) (a : Option Addr) (n c : Nat) (ops : List OpM) (w : World) (hl : Rd w 4 a n c (opcells ops)) (hls : ∀ o ∈ ops, Rd w 2 o.la o.ln o.lc (cells o.l) ∧ InR o.l) (hn : n ≤ 30) (hm0 : 0 ≤ m) (hm1 : m ≤ 1000) :
    Calls Tryd.prog 7 #[.slice a n c, .int .i64 m, .bool en] w (TrueQ w) := by
  have hon : ops.length = n := by have := hl.len; rw [opcells_len] at this; omega
  have hcap := hl.capLe; have hle := hl.le
  have HL := Lib.hid hl
  have HO := Lib.hid hon
  have HLS := Lib.hid hls
  clear hl hon hls
  go_enter Tryd.func7, Tryd.ntmps7
  go_wp2_with fail
  refine (alive_calls w).mono ?_
  rintro e w1 ⟨rfl, hf1⟩
  have hs1 := hf1.size
  have HF1 := Lib.hid hf1
  clear hf1
  go_wp2_with fail
  refine (new_calls bGET w1).mono ?_
  rintro e w2 ⟨rfl, hr2, hf2⟩
  have hS2 : RdS w2 w1.heap.size bGET st0 none none := ⟨none, 0, none, 0, hr2.1, Row.nil _ _ _, Row.nil _ _ _⟩
  obtain ⟨q, hq⟩ : ∃ q, w1.heap.size = q := ⟨_, rfl⟩
  rw [hq] at hS2 ⊢
  have hqw : w.heap.size ≤ q := by omega
  have HS2 := Lib.hid hS2
  have HF2 := Lib.hid (HF1.out.then_ hf2)
  clear hr2 hf2 hS2 hq hs1
  go_wp2
  go_loopg [34] n (fun gg i wr => ∃ k : Nat, k ≤ n ∧ gg = n - k ∧ i = .int .i64 k ∧ ∃ S rf rt, RdS wr q bGET S rf rt ∧ 0 ≤ S.cm ∧ S.cm ≤ 1099511627776 * (k : Int) ∧ Fr No w wr)
  case atStart => exact ⟨0, by omega, by omega, rfl, st0, none, none, HS2.out, by decide, by decide, HF2.out⟩
  case round =>
    obtain ⟨k, hk, rfl, rfl, S, rf, rt, hS, hcm0, hcm1, hfr⟩ := hrel
    have HS := Lib.hid hS
    have HF := Lib.hid hfr
    have HCM0 := Lib.hid (And.intro hcm0 hcm1)
    clear hS hcm0 hcm1 HS2 HF2
    by_cases hlt : k < n
    · have hko : k < ops.length := by have := HO.out; omega
      obtain ⟨g1, g2, g3, g4⟩ := opcells_get ops k hko
      obtain ⟨hrd, hin⟩ := HLS.out (ops.getD k op0) (by rw [List.getD, List.getElem?_eq_getElem hko]; exact List.getElem_mem _)
      generalize ops.getD k op0 = o at *
      obtain ⟨kd, N, oe, la, ln, lc, xs⟩ := o
      simp only at g1 g2 g3 g4 hrd hin
      have hla := hrd.le; have hlc := hrd.capLe
      have HRD := Lib.hid (hrd.no hfr)
      have HIN := Lib.hid hin
      have hx := HL.out.no hfr
      obtain ⟨g, off, ha, o1⟩ := hx.cell g1
      subst ha
      obtain ⟨_, _, e2, o2⟩ := hx.cell g2
      injection e2 with e2; injection e2 with e2 e3; subst e2; subst e3
      obtain ⟨_, _, e2, o3⟩ := hx.cell g3
      injection e2 with e2; injection e2 with e2 e3; subst e2; subst e3
      obtain ⟨_, _, e2, o4⟩ := hx.cell g4
      injection e2 with e2; injection e2 with e2 e3; subst e2; subst e3
      rw [← Nat.add_assoc] at o2 o3 o4
      clear g1 g2 g3 g4 hx hrd hin hfr
      have b0 : (0 : Int) ≤ (k : Int) := by omega
      have b1 : (k : Int) < (n : Int) := by omega
      go_wp2_with fail
      obtain ⟨ob, hob⟩ : ∃ ob, wr.heap.size = ob := ⟨_, rfl⟩
      have hobk : Bk (wr.alloc (.cells #[.int .i64 kd, .int .i64 N, .bool oe, .slice la ln lc] 46)) ob [.int .i64 kd, .int .i64 N, .bool oe, .slice la ln lc] 46 := by rw [← hob]; exact Bk.new wr _ _
      have hfa : Fr No wr (wr.alloc (.cells #[.int .i64 kd, .int .i64 N, .bool oe, .slice la ln lc] 46)) := (Fr.refl No wr).alloc _
      rw [hob]
      generalize wr.alloc (.cells #[.int .i64 kd, .int .i64 N, .bool oe, .slice la ln lc] 46) = W0 at *
      have hqb : q ≠ ob := by have := HS.out.lt; omega
      have HFA := Lib.hid (HF.out.then_ hfa)
      have HS0 := Lib.hid (HS.out.no hfa)
      have HRD0 := Lib.hid (HRD.out.no hfa)
      have HB0 := Lib.hid hobk
      clear o1 o2 o3 o4 hob hfa HS HF HRD hobk
      refine (few_calls la ln lc xs W0 HRD0.out HIN.out).mono ?_
      rintro e W1 ⟨b, rfl, hbm, hfw⟩
      have HS1 := Lib.hid (HS0.out.no hfw)
      have HRD1 := Lib.hid (HRD0.out.no hfw)
      have HB1 := Lib.hid (HB0.out.no hfw)
      have HFW := Lib.hid (HFA.out.then_ hfw)
      have p1 : W1.cell? ⟨ob, 0, none⟩ = some (.int .i64 kd) := HB1.out.cell 0
      have p2 : W1.cell? ⟨ob, 1, none⟩ = some (.int .i64 N) := HB1.out.cell 1
      have p3 : W1.cell? ⟨ob, 2, none⟩ = some (.bool oe) := HB1.out.cell 2
      have p4 : W1.cell? ⟨ob, 3, none⟩ = some (.slice la ln lc) := HB1.out.cell 3
      have HBM := Lib.hid hbm
      clear HS0 HRD0 HB0 HFA hfw hbm
      cases b with
      | false =>
        go_wp2
        go_ret
        exact ⟨rfl, HFW.out⟩
      | true =>
      have hmid := (HBM.out rfl).1
      have HM := Lib.hid hmid
      clear HBM hmid
      by_cases hN : 1099511627776 < N
      · go_wp2
        go_ret
        exact ⟨rfl, HFW.out⟩
      obtain ⟨s, hs⟩ : ∃ s, S.st = s := ⟨_, rfl⟩
      obtain ⟨d, hd⟩ : ∃ d, S.dn = d := ⟨_, rfl⟩
      have HST := Lib.hid hs
      have HDN := Lib.hid hd
      clear hs hd
      have hN' : N ≤ 1099511627776 := by omega
      go_wp2_with fail
      refine (status_v q bGET S rf rt s W1 HS1.out HST.out).mono ?_
      rintro e w4 ⟨rfl, rfl⟩
      go_wp2_with fail
      refine (done_v q bGET S rf rt d W1 HS1.out HDN.out).mono ?_
      rintro e w4 ⟨rfl, rfl⟩
      have hkk : kd = 1 ∨ ¬ kd = 1 := by omega
      rcases hkk with hk1 | hk1
      · subst hk1
        have hH := headers_s q bGET S rf rt oe la ln lc xs W1 HS1.out HRD1.out HM.out
        have hstop := head_stop bGET S oe xs
        have hcm := head_cm bGET S oe xs
        obtain ⟨⟨cv, S'⟩, hcv⟩ : ∃ p, headersP bGET S oe xs = p := ⟨_, rfl⟩
        rw [hcv] at hH hstop hcm
        simp only at hstop hcm
        have HSTOP := Lib.hid (show cv ≠ 0 → S'.st = s ∧ S'.dn = d ∧ (S'.br || S'.dn) = true ∧ S'.cm = S.cm by rw [← HST.out, ← HDN.out]; exact hstop)
        have HCM := Lib.hid (show 0 ≤ S'.cm ∧ S'.cm ≤ 1099511627776 * ((k : Int) + 1) by have := HCM0.out; omega)
        have HH := Lib.hid hH
        clear hH hstop hcm hcv
        go_wp2_with fail
        refine HH.out.mono ?_
        rintro e W2 ⟨rfl, rf2, rt2, hs2, hst2⟩
        have HS2 := Lib.hid hs2
        have HF2 := Lib.hid (Fr.trans_new HFW.out hst2.2.2 (by omega))
        clear hs2 hst2
        by_cases hc0 : cv = 0
        · subst hc0
          go_wp2
          go_roundg (n - (k + 1))
          case rel => exact ⟨k + 1, by omega, rfl, by go_num, S', rf2, rt2, HS2.out, HCM.out.1, by have := HCM.out.2; omega, HF2.out⟩
          case measure => omega
        · obtain ⟨z1, z2, z3, z4⟩ := HSTOP.out hc0
          have HZ1 := Lib.hid z1
          have HZ3 := Lib.hid z3
          have HZ2 := Lib.hid z2
          clear z1 z2 z3 z4
          go_wp2_with fail
          refine (status_v q bGET S' rf2 rt2 s W2 HS2.out HZ1.out).mono ?_
          rintro e w4 ⟨rfl, rfl⟩
          go_wp2_with fail
          refine (done_v q bGET S' rf2 rt2 d W2 HS2.out HZ2.out).mono ?_
          rintro e w4 ⟨rfl, rfl⟩
          go_wp2_with fail
          refine (data_v q bGET S' rf2 rt2 _ _ W2 HS2.out HZ3.out ⟨HCM.out.1, by have := HCM.out.2; omega⟩ (by omega)).mono ?_
          rintro e w4 ⟨rfl, hs4, hf4⟩
          have HS4 := Lib.hid hs4
          have HF4 := Lib.hid (Fr.trans_new HF2.out hf4 (by omega))
          have HFA := Lib.hid ((Fr.refl No w4).alloc (.cells (cells [(stN, b200)]).toArray 30))
          have HN4 := Lib.hid (Rd.fields_new w4 [(stN, b200)] 1 rfl (by decide))
          clear hs4 hf4
          go_wp2_with fail
          refine (head_v q bGET S' rf2 rt2 _ (some ⟨w4.heap.size, 0, none⟩) 1 1 [(stN, b200)] _ (HS4.out.no HFA.out) HN4.out ⟨by decide, by decide⟩ HZ3.out).mono ?_
          rintro e w5 ⟨rfl, rf5, rt5, hs5, hf5⟩
          have HS5 := Lib.hid hs5
          have HF5 := Lib.hid (Fr.trans_new (HF4.out.then_ HFA.out) hf5 (by omega))
          clear hs5 hf5
          go_wp2_with fail
          refine (status_v q bGET S' rf5 rt5 s w5 HS5.out HZ1.out).mono ?_
          rintro e w6 ⟨rfl, rfl⟩
          go_wp2
          go_ret
          exact ⟨rfl, HF5.out⟩
      · have hH := data_s q bGET S rf rt N oe W1 HS1.out ⟨HCM0.out.1, by have := HCM0.out.2; omega⟩ (by omega)
        have hstop := data_stop bGET S N oe
        have hcm := data_cm bGET S N oe
        obtain ⟨⟨cv, S'⟩, hcv⟩ : ∃ p, dataP bGET S N oe = p := ⟨_, rfl⟩
        rw [hcv] at hH hstop hcm
        simp only at hstop hcm
        have HSTOP := Lib.hid (show cv ≠ 0 → S'.st = s ∧ S'.dn = d ∧ (S'.br || S'.dn) = true ∧ S'.cm = S.cm by rw [← HST.out, ← HDN.out]; exact hstop)
        have HCM := Lib.hid (show 0 ≤ S'.cm ∧ S'.cm ≤ 1099511627776 * ((k : Int) + 1) by have := HCM0.out; omega)
        have HH := Lib.hid hH
        clear hH hstop hcm hcv
        go_wp2_with fail
        refine HH.out.mono ?_
        rintro e W2 ⟨rfl, hs2, hst2⟩
        obtain ⟨rf2, hrf2⟩ : ∃ r, rf = r := ⟨_, rfl⟩
        obtain ⟨rt2, hrt2⟩ : ∃ r, rt = r := ⟨_, rfl⟩
        have HS2 := Lib.hid (show RdS W2 q bGET S' rf2 rt2 by rw [← hrf2, ← hrt2]; exact hs2)
        have HF2 := Lib.hid (Fr.trans_new HFW.out hst2 (by omega))
        clear hs2 hst2 hrf2 hrt2
        by_cases hc0 : cv = 0
        · subst hc0
          go_wp2
          go_roundg (n - (k + 1))
          case rel => exact ⟨k + 1, by omega, rfl, by go_num, S', rf2, rt2, HS2.out, HCM.out.1, by have := HCM.out.2; omega, HF2.out⟩
          case measure => omega
        · obtain ⟨z1, z2, z3, z4⟩ := HSTOP.out hc0
          have HZ1 := Lib.hid z1
          have HZ3 := Lib.hid z3
          have HZ2 := Lib.hid z2
          clear z1 z2 z3 z4
          go_wp2_with fail
          refine (status_v q bGET S' rf2 rt2 s W2 HS2.out HZ1.out).mono ?_
          rintro e w4 ⟨rfl, rfl⟩
          go_wp2_with fail
          refine (done_v q bGET S' rf2 rt2 d W2 HS2.out HZ2.out).mono ?_
          rintro e w4 ⟨rfl, rfl⟩
          go_wp2_with fail
          refine (data_v q bGET S' rf2 rt2 _ _ W2 HS2.out HZ3.out ⟨HCM.out.1, by have := HCM.out.2; omega⟩ (by omega)).mono ?_
          rintro e w4 ⟨rfl, hs4, hf4⟩
          have HS4 := Lib.hid hs4
          have HF4 := Lib.hid (Fr.trans_new HF2.out hf4 (by omega))
          have HFA := Lib.hid ((Fr.refl No w4).alloc (.cells (cells [(stN, b200)]).toArray 30))
          have HN4 := Lib.hid (Rd.fields_new w4 [(stN, b200)] 1 rfl (by decide))
          clear hs4 hf4
          go_wp2_with fail
          refine (head_v q bGET S' rf2 rt2 _ (some ⟨w4.heap.size, 0, none⟩) 1 1 [(stN, b200)] _ (HS4.out.no HFA.out) HN4.out ⟨by decide, by decide⟩ HZ3.out).mono ?_
          rintro e w5 ⟨rfl, rf5, rt5, hs5, hf5⟩
          have HS5 := Lib.hid hs5
          have HF5 := Lib.hid (Fr.trans_new (HF4.out.then_ HFA.out) hf5 (by omega))
          clear hs5 hf5
          go_wp2_with fail
          refine (status_v q bGET S' rf5 rt5 s w5 HS5.out HZ1.out).mono ?_
          rintro e w6 ⟨rfl, rfl⟩
          go_wp2
          go_ret
          exact ⟨rfl, HF5.out⟩
    · have hkn : (k : Int) = (n : Int) := by omega
      go_wp2
      go_ret
      exact ⟨rfl, HF.out⟩
end Go.Proofs.YtfejfaldjfichaaDoor
