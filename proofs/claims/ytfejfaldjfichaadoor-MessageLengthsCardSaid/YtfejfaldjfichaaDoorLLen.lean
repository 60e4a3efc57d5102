/- MessageLengths: the walk. -/
import Derived.Test.YtfejfaldjfichaaDoorLHead
namespace Go.Proofs.YtfejfaldjfichaaDoor
open Go.RowKit Go.Hp
set_option maxRecDepth 100000

def intsL (xs : List Int) : List Value := xs.map (Value.int .i64)
theorem intsL_len (xs : List Int) : (intsL xs).length = xs.length := by simp [intsL]
theorem intsL_get (xs : List Int) (j : Nat) (h : j < xs.length) : (intsL xs)[j]? = some (.int .i64 (xs.getD j 0)) := by
  simp [intsL, List.getD, List.getElem?_eq_getElem h]

set_option maxHeartbeats 1000000 in
theorem len_out (said : Int) (a : Option Addr) (n c : Nat) (w : World) (hc : n ≤ 9223372036854775807) (h : said < 0 ∨ 100000 < said ∨ 30 < n) :
    Calls Tryd.prog 6 #[.int .i64 said, .slice a n c] w (TrueQ w) := by
  by_cases h1 : said < 0
  · go_enter Tryd.func6, Tryd.ntmps6
    go_wp2_with fail
    refine (alive_calls w).mono ?_
    rintro e w' ⟨rfl, hf⟩
    go_wp2
    go_ret
    exact ⟨rfl, hf⟩
  · by_cases h2 : 100000 < said
    · go_enter Tryd.func6, Tryd.ntmps6
      go_wp2_with fail
      refine (alive_calls w).mono ?_
      rintro e w' ⟨rfl, hf⟩
      go_wp2
      go_ret
      exact ⟨rfl, hf⟩
    · have h3 : 30 < n := by omega
      go_enter Tryd.func6, Tryd.ntmps6
      go_wp2_with fail
      refine (alive_calls w).mono ?_
      rintro e w' ⟨rfl, hf⟩
      go_wp2
      go_ret
      exact ⟨rfl, hf⟩

abbrev bPOST : ByteArray := ⟨#[80, 79, 83, 84]⟩
abbrev b201 : ByteArray := ⟨#[50, 48, 49]⟩
/-- A response that said how long it is, of which N bytes came. -/
def lenS (F : List El) (sd N : Int) (dn : Bool) : St := ⟨201, F, [], sd, N, dn, false⟩
theorem len_start (sd : Nat) (h : sd < 1000000) : ∃ F, headersP bPOST st0 false [(stN, b201), (clN, dgB sd)] = (0, lenS F sd 0 false) := by
  refine ⟨delSt [(stN, b201), (clN, dgB sd)], ?_⟩
  have e : dgB 201 = b201 := by kernel_rfl
  have h1 := two_headers bPOST 201 sd (by omega) (by omega) h false
  rw [e] at h1
  rw [h1]
  have hc : toldP bPOST ⟨((201 : Nat) : Int), delSt [(stN, b201), (clN, dgB sd)], [], sd, 0, false, false⟩ false 0 = 0 := by
    unfold toldP toldC longB St.ans
    simp only
    rw [if_neg (fun h => by
      have h := h.2
      split at h
      · cases h
      · rw [if_neg (by omega)] at h; simp at h)]
  rw [hc, if_pos rfl]; rfl
theorem len_more (F : List El) (sd N k : Nat) : dataP bPOST (lenS F sd N false) k false = if N + k ≤ sd then (0, lenS F sd ((N + k : Nat) : Int) false) else (22, (lenS F sd N false).bad) := by
  have hc : toldP bPOST { lenS F sd N false with cm := (N : Int) + k } false 0 = if N + k ≤ sd then 0 else 22 := by
    unfold toldP toldC longB St.ans lenS
    simp only
    by_cases h1 : N + k = sd
    · rw [if_pos (show (sd : Int) < 0 ∨ (N : Int) + k = sd by omega), if_neg (by simp), if_pos (show N + k ≤ sd by omega)]
    · rw [if_neg (show ¬ ((sd : Int) < 0 ∨ (N : Int) + k = sd) by omega)]
      by_cases h2 : N + k ≤ sd
      · rw [if_neg (show ¬ ((sd : Int) < (N : Int) + k) by omega), if_pos h2]; simp
      · rw [if_pos (show (sd : Int) < (N : Int) + k by omega), if_neg h2]; simp
  unfold dataP
  rw [if_neg (by simp [lenS]), if_neg (by simp [lenS]), if_neg (by omega)]
  have e : (lenS F sd N false).cm + k = (N : Int) + k := rfl
  rw [e, hc]
  by_cases h : N + k ≤ sd
  · rw [if_pos h, if_pos h, if_pos rfl]
    simp [lenS, St.end_]
  · rw [if_neg h, if_neg h, if_neg (by decide)]
theorem len_end (F : List El) (sd N : Nat) (h : N ≤ sd) : dataP bPOST (lenS F sd N false) 0 true = if N = sd then (0, lenS F sd N true) else (22, (lenS F sd N false).bad) := by
  have hc : toldP bPOST { lenS F sd N false with cm := (N : Int) + 0 } true 0 = if N = sd then 0 else 22 := by
    unfold toldP toldC longB St.ans lenS
    simp only
    by_cases h1 : N = sd
    · rw [if_pos (show (sd : Int) < 0 ∨ (N : Int) + 0 = sd by omega), if_pos h1]; simp
    · rw [if_neg (show ¬ ((sd : Int) < 0 ∨ (N : Int) + 0 = sd) by omega), if_neg (show ¬ ((sd : Int) < (N : Int) + 0) by omega), if_neg h1]
      have e : emptyB bPOST 201 = false := by kernel_rfl
      rw [e]; simp
  unfold dataP
  rw [if_neg (by simp [lenS]), if_neg (by simp [lenS]), if_neg (by omega)]
  have e : (lenS F sd N false).cm + 0 = (N : Int) + 0 := rfl
  rw [e, hc]
  by_cases h1 : N = sd
  · rw [if_pos h1, if_pos h1, if_pos rfl]
    simp [lenS, St.end_]
  · rw [if_neg h1, if_neg h1, if_neg (by decide)]
theorem bad_data (m : ByteArray) (S : St) (n : Int) (en : Bool) (h : S.br = true) : dataP m S n en = (8, S) := by
  unfold dataP; rw [if_pos (by rw [h]; rfl)]

set_option maxHeartbeats 4000000 in
theorem len_in (sd : Nat) (a : Option Addr) (n c : Nat) (xs : List Int) (w : World) (hx : Rd w 1 a n c (intsL xs)) (h1 : sd ≤ 100000) (h2 : n ≤ 30) :
    Calls Tryd.prog 6 #[.int .i64 sd, .slice a n c] w (TrueQ w) := by
  have hn := rnil
  have hcv := conv1
  have hxl : xs.length = n := by have := hx.len; rw [intsL_len] at this; omega
  have hcap := hx.capLe; have hle := hx.le
  have k1 : ¬ ((sd : Int) < 0) := by omega
  have k2 : ¬ (100000 < (sd : Int)) := by omega
  have HX := Lib.hid hx
  have HXL := Lib.hid hxl
  clear hx hxl
  go_enter Tryd.func6, Tryd.ntmps6
  go_wp2_with fail
  refine (alive_calls w).mono ?_
  rintro e w1 ⟨rfl, hf1⟩
  have HF1 := Lib.hid hf1
  clear hf1
  go_wp2_with fail
  go_loopg [6, 5] 7 (fun gg iv dv wr => ∃ (g v : Nat) (d : ByteArray), g = gg ∧ iv = .int .i64 v ∧ dv = .string d ∧ DgI sd g v d ∧ Fr No w wr)
  case atStart => exact ⟨7, sd, ⟨#[]⟩, rfl, rfl, rfl, DgI.start sd (by omega), HF1.out⟩
  case round =>
    obtain ⟨g, v, d, rfl, rfl, rfl, hdg, hfr⟩ := hrel
    have HDG := Lib.hid hdg
    have HFR := Lib.hid hfr
    have hvm := hdg.lt
    have hcat := cat_size v d hdg.size
    clear hfr hdg
    have b0 : (0 : Int) ≤ (v : Int) := by omega
    by_cases hv0 : 0 < v
    · have b1 : (0 : Int) < (v : Int) := by omega
      have HST := Lib.hid (HDG.out.step (by omega))
      go_wp2
      go_roundg (g - 1)
      case rel => exact ⟨g - 1, v / 10, _, rfl, by go_num, rfl, HST.out.2, HFR.out.alloc _⟩
      case measure => have := HST.out.1; omega
    · obtain rfl : v = 0 := by omega
      cases he : d.toList.isEmpty with
      | true =>
        have HST := Lib.hid (HDG.out.step (fun _ => by rw [ba_toList] at he; simpa using he))
        go_wp2
        go_roundg (g - 1)
        case rel => exact ⟨g - 1, 0, _, rfl, by first | rfl | go_num, rfl, HST.out.2, HFR.out.alloc _⟩
        case measure => have := HST.out.1; omega
      | false =>
        have hD := HDG.out.done (by rw [ba_toList] at he; simpa using he)
        subst hD
        clear hcv HDG hcat hvm hv0 b0
        go_wp2_with fail
        refine (new_calls bPOST wr).mono ?_
        rintro e w2 ⟨rfl, hr2, hf2⟩
        have hS2 : RdS w2 wr.heap.size bPOST st0 none none := ⟨none, 0, none, 0, hr2.1, Row.nil _ _ _, Row.nil _ _ _⟩
        obtain ⟨q, hq⟩ : ∃ q, wr.heap.size = q := ⟨_, rfl⟩
        have hqw : w.heap.size ≤ q := by rw [← hq]; exact HFR.out.size
        rw [hq] at hS2 ⊢
        have HS2 := Lib.hid hS2
        have HF2 := Lib.hid (HFR.out.then_ hf2)
        clear hr2 hf2 hS2 hq
        have HFA := Lib.hid ((Fr.refl No w2).alloc (.cells (cells [(stN, b201), (clN, dgB sd)]).toArray 30))
        have hH := headers_s q bPOST st0 none none false (some ⟨w2.heap.size, 0, none⟩) 2 2 [(stN, b201), (clN, dgB sd)] _ (HS2.out.no HFA.out) (Rd.fields_new w2 [(stN, b201), (clN, dgB sd)] 2 rfl (by decide))
          ⟨by simp, fun x hx => by
            have a2 := dgB_size sd
            simp only [List.mem_cons, List.not_mem_nil, or_false] at hx
            rcases hx with rfl | rfl
            · exact ⟨by simp only; decide, by simp only; decide⟩
            · exact ⟨by simp only; decide, by simp only; omega⟩⟩
        obtain ⟨F, hF⟩ := len_start sd (by omega)
        rw [hF] at hH
        have HH := Lib.hid hH
        clear hH hF
        go_wp2_with fail
        refine HH.out.mono ?_
        rintro e w3 ⟨rfl, rf3, rt3, hS3, hst3⟩
        have HS3 := Lib.hid hS3
        have HF3 := Lib.hid (Fr.trans_new (HF2.out.then_ HFA.out) hst3.2.2 hqw)
        clear hS3 hst3
        go_wp2_with fail
        go_loopg [60, 8] n (fun gg i nv wq => ∃ k N : Nat, k ≤ n ∧ gg = n - k ∧ i = .int .i64 k ∧ nv = .int .i64 N ∧ N ≤ sd ∧ RdS wq q bPOST (lenS F sd N false) rf3 rt3 ∧ Fr No w wq)
        case atStart => exact ⟨0, 0, by omega, by omega, rfl, rfl, by omega, HS3.out, HF3.out⟩
        case round =>
          obtain ⟨k, N, hk, rfl, rfl, rfl, hN, hS, hfr⟩ := hrel
          have HS := Lib.hid hS
          have HFQ := Lib.hid hfr
          by_cases hlt : k < n
          · have hkl : k < xs.length := by have := HXL.out; omega
            obtain ⟨g, off, rfl, hc⟩ := (HX.out.no hfr).cell (intsL_get xs k hkl)
            obtain ⟨x, hxe⟩ : ∃ x, xs.getD k 0 = x := ⟨_, rfl⟩
            rw [hxe] at hc
            clear hS hfr hxe
            have b0 : (0 : Int) ≤ (k : Int) := by omega
            have b1 : (k : Int) < (n : Int) := by omega
            go_wp2_with fail
            obtain ⟨kk, hkk, hk1⟩ : ∃ kk : Nat, min (max x 0) 100000 = (kk : Int) ∧ kk ≤ 100000 := ⟨(min (max x 0) 100000).toNat, by omega, by omega⟩
            rw [hkk]
            have hD := data_s q bPOST (lenS F sd N false) rf3 rt3 kk false wr HS.out (show 0 ≤ (N : Int) ∧ (N : Int) ≤ 4611686018427387904 by omega) (by omega)
            rw [len_more] at hD
            clear hkk hc
            by_cases hle2 : N + kk ≤ sd
            · rw [if_pos hle2] at hD
              have HD := Lib.hid hD
              have b3 : (N : Int) + (kk : Int) ≤ (sd : Int) := by omega
              clear hD
              refine HD.out.mono ?_
              rintro e w5 ⟨rfl, hS5, hf5⟩
              have HS5 := Lib.hid hS5
              have HF5 := Lib.hid (Fr.trans_new HFQ.out hf5 hqw)
              clear hS5 hf5
              go_wp2
              go_roundg (n - (k + 1))
              case rel => exact ⟨k + 1, N + kk, by omega, rfl, by go_num, by go_num, hle2, HS5.out, HF5.out⟩
              case measure => omega
            · rw [if_neg hle2] at hD
              have HD := Lib.hid hD
              have b3 : ¬ ((N : Int) + (kk : Int) ≤ (sd : Int)) := by omega
              clear hD
              refine HD.out.mono ?_
              rintro e w5 ⟨rfl, hS5, hf5⟩
              have HF5 := Lib.hid (Fr.trans_new HFQ.out hf5 hqw)
              have hD2 := data_s q bPOST (lenS F sd N false).bad rf3 rt3 0 true w5 hS5 (show 0 ≤ (N : Int) ∧ (N : Int) ≤ 4611686018427387904 by omega) (by omega)
              rw [bad_data _ _ _ _ rfl] at hD2
              have HD2 := Lib.hid hD2
              clear hS5 hf5 hD2
              go_wp2_with fail
              refine HD2.out.mono ?_
              rintro e w6 ⟨rfl, hS6, hf6⟩
              have HS6 := Lib.hid hS6
              have HF6 := Lib.hid (Fr.trans_new HF5.out hf6 hqw)
              clear hS6 hf6
              go_wp2_with fail
              refine (done_s q bPOST _ _ _ w6 HS6.out).mono ?_
              rintro e w7 ⟨rfl, rfl⟩
              go_wp2
              go_ret
              exact ⟨rfl, HF6.out⟩
          · have hD := data_s q bPOST (lenS F sd N false) rf3 rt3 0 true wr hS (show 0 ≤ (N : Int) ∧ (N : Int) ≤ 4611686018427387904 by omega) (by omega)
            rw [len_end F sd N hN] at hD
            clear hS hfr
            by_cases heq : N = sd
            · rw [if_pos heq] at hD
              have HD := Lib.hid hD
              have b3 : ((N : Int) == (sd : Int)) = true := by rw [beq_iff_eq]; omega
              clear hD
              go_wp2_with fail
              refine HD.out.mono ?_
              rintro e w5 ⟨rfl, hS5, hf5⟩
              have HS5 := Lib.hid hS5
              have HF5 := Lib.hid (Fr.trans_new HFQ.out hf5 hqw)
              clear hS5 hf5
              go_wp2_with fail
              refine (done_s q bPOST _ _ _ w5 HS5.out).mono ?_
              rintro e w7 ⟨rfl, rfl⟩
              go_wp2
              go_ret
              exact ⟨rfl, HF5.out⟩
            · rw [if_neg heq] at hD
              have HD := Lib.hid hD
              have b3 : ((N : Int) == (sd : Int)) = false := by rw [beq_eq_false_iff_ne]; omega
              clear hD
              go_wp2_with fail
              refine HD.out.mono ?_
              rintro e w5 ⟨rfl, hS5, hf5⟩
              have HS5 := Lib.hid hS5
              have HF5 := Lib.hid (Fr.trans_new HFQ.out hf5 hqw)
              clear hS5 hf5
              go_wp2_with fail
              refine (done_s q bPOST _ _ _ w5 HS5.out).mono ?_
              rintro e w7 ⟨rfl, rfl⟩
              go_wp2
              go_ret
              exact ⟨rfl, HF5.out⟩
end Go.Proofs.YtfejfaldjfichaaDoor
