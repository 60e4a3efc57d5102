/- MessageHead: the walk. -/
import Derived.Test.YtfejfaldjfichaaDoorMsgY
namespace Go.Proofs.YtfejfaldjfichaaDoor
open Go.RowKit Go.Hp
set_option maxRecDepth 100000

def TrueQ (w : World) (e : Ending) (w' : World) : Prop := e = .returned (.bool true) ∧ Fr No w w'

set_option maxHeartbeats 1000000 in
theorem head_out (m : ByteArray) (status said : Int) (w : World) (hs : m.size ≤ 9223372036854775807) (h : 20 < m.size ∨ said < 1 ∨ 100000 < said ∨ status < 200 ∨ 599 < status) :
    Calls Tryd.prog 3 #[.string m, .int .i64 status, .int .i64 said] w (TrueQ w) := by
  by_cases h1 : 20 < m.size
  · go_enter Tryd.func3, Tryd.ntmps3
    go_wp2_with fail
    refine (alive_calls w).mono ?_
    rintro e w' ⟨rfl, hf⟩
    go_wp2
    go_ret
    exact ⟨rfl, hf⟩
  · by_cases h2 : said < 1
    · go_enter Tryd.func3, Tryd.ntmps3
      go_wp2_with fail
      refine (alive_calls w).mono ?_
      rintro e w' ⟨rfl, hf⟩
      go_wp2
      go_ret
      exact ⟨rfl, hf⟩
    · by_cases h3 : 100000 < said
      · go_enter Tryd.func3, Tryd.ntmps3
        go_wp2_with fail
        refine (alive_calls w).mono ?_
        rintro e w' ⟨rfl, hf⟩
        go_wp2
        go_ret
        exact ⟨rfl, hf⟩
      · by_cases h4 : status < 200
        · go_enter Tryd.func3, Tryd.ntmps3
          go_wp2_with fail
          refine (alive_calls w).mono ?_
          rintro e w' ⟨rfl, hf⟩
          go_wp2
          go_ret
          exact ⟨rfl, hf⟩
        · have h5 : 599 < status := by omega
          go_enter Tryd.func3, Tryd.ntmps3
          go_wp2_with fail
          refine (alive_calls w).mono ?_
          rintro e w' ⟨rfl, hf⟩
          go_wp2
          go_ret
          exact ⟨rfl, hf⟩

theorem head_code (m : ByteArray) (st v : Nat) (F : List El) (h : 1 ≤ v) : toldP m ⟨st, F, [], v, 0, false, false⟩ true 0 = if emptyB m st then 0 else 22 := by
  unfold toldP toldC longB St.ans
  simp only
  rw [if_neg (show ¬ ((v : Int) < 0 ∨ (0 : Int) = v) by omega), if_neg (show ¬ ((v : Int) < 0) by omega)]
  cases emptyB m st <;> simp

set_option maxHeartbeats 4000000 in
theorem head_in (m : ByteArray) (st sd : Nat) (w : World) (h1 : m.size ≤ 20) (h2 : 1 ≤ sd) (h3 : sd ≤ 100000) (h4 : 200 ≤ st) (h5 : st ≤ 599) :
    Calls Tryd.prog 3 #[.string m, .int .i64 st, .int .i64 sd] w (TrueQ w) := by
  have hn := rnil
  have k1 : ¬ (20 < m.size) := by omega
  have k2 : ¬ ((sd : Int) < 1) := by omega
  have k3 : ¬ (100000 < (sd : Int)) := by omega
  have k4 : ¬ ((st : Int) < 200) := by omega
  have k5 : ¬ (599 < (st : Int)) := by omega
  go_enter Tryd.func3, Tryd.ntmps3
  go_wp2_with fail
  refine (alive_calls w).mono ?_
  rintro e w1 ⟨rfl, hf1⟩
  have HF1 := Lib.hid hf1
  clear hf1
  go_wp2_with fail
  refine (new_calls m w1).mono ?_
  rintro e w2 ⟨rfl, hr2, hf2⟩
  have hS2 : RdS w2 w1.heap.size m st0 none none := ⟨none, 0, none, 0, hr2.1, Row.nil _ _ _, Row.nil _ _ _⟩
  obtain ⟨q, hq⟩ : ∃ q, w1.heap.size = q := ⟨_, rfl⟩
  have hqw : w.heap.size ≤ q := by rw [← hq]; exact HF1.out.size
  rw [hq] at hS2 ⊢
  have HS2 := Lib.hid hS2
  have HF2 := Lib.hid (HF1.out.then_ hf2)
  clear hr2 hf2 hS2 hq
  go_wp2_with fail
  refine (digits_of_calls st w2 (by omega)).mono ?_
  rintro e w3 ⟨rfl, hf3⟩
  have HS3 := Lib.hid (HS2.out.no hf3)
  have HF3 := Lib.hid (HF2.out.then_ hf3)
  clear hf3
  go_wp2_with fail
  refine (digits_of_calls sd w3 (by omega)).mono ?_
  rintro e w4 ⟨rfl, hf4⟩
  have HS4 := Lib.hid (HS3.out.no hf4)
  have HF4 := Lib.hid (HF3.out.then_ hf4)
  clear hf4
  have HFA := Lib.hid ((Fr.refl No w4).alloc (.cells (cells [(stN, dgB st), (clN, dgB sd)]).toArray 30))
  have hH := headers_s q m st0 none none true (some ⟨w4.heap.size, 0, none⟩) 2 2 [(stN, dgB st), (clN, dgB sd)] _ (HS4.out.no HFA.out) (Rd.fields_new w4 [(stN, dgB st), (clN, dgB sd)] 2 rfl (by decide))
    ⟨by simp, fun x hx => by
      have a1 := dgB_size st
      have a2 := dgB_size sd
      simp only [List.mem_cons, List.not_mem_nil, or_false] at hx
      rcases hx with rfl | rfl
      · exact ⟨by simp only; decide, by simp only; omega⟩
      · exact ⟨by simp only; decide, by simp only; omega⟩⟩
  rw [two_headers m st sd h4 h5 (by omega), head_code m st sd _ h2] at hH
  have HT := Lib.hid (fun h => by rw [h] at hH; exact hH : emptyB m st = true → Calls Tryd.prog 11 #[.pointer (some ⟨q, 0, none⟩), .bool true, .slice (some ⟨w4.heap.size, 0, none⟩) 2 2] (w4.alloc (.cells (cells [(stN, dgB st), (clN, dgB sd)]).toArray 30)) (HeadQ q m (0, ⟨st, delSt [(stN, dgB st), (clN, dgB sd)], [], sd, 0, true, false⟩) none none (w4.alloc (.cells (cells [(stN, dgB st), (clN, dgB sd)]).toArray 30))))
  have HN := Lib.hid (fun h => by rw [h] at hH; exact hH : emptyB m st = false → Calls Tryd.prog 11 #[.pointer (some ⟨q, 0, none⟩), .bool true, .slice (some ⟨w4.heap.size, 0, none⟩) 2 2] (w4.alloc (.cells (cells [(stN, dgB st), (clN, dgB sd)]).toArray 30)) (HeadQ q m (22, st0.bad) none none (w4.alloc (.cells (cells [(stN, dgB st), (clN, dgB sd)]).toArray 30))))
  clear hH
  have k1' : ¬ (20 < (m.size : Int)) := by omega
  have fin : ∀ w5 rf rt, RStep (w4.alloc (.cells (cells [(stN, dgB st), (clN, dgB sd)]).toArray 30)) q none none w5 rf rt → Fr No w w5 := fun w5 rf rt h => Fr.trans_new (HF4.out.then_ HFA.out) h.2.2 hqw
  have FIN := Lib.hid fin
  clear fin
  by_cases h204 : (st : Int) = 204
  · have HE := Lib.hid (by unfold emptyB; rw [show decide ((st : Int) = 204) = true by simpa using h204]; rfl : emptyB m st = true)
    have HH := Lib.hid (HT.out HE.out)
    cases hh : (m.toList == [72, 69, 65, 68])
    all_goals
      go_wp2_with fail
      refine HH.out.mono ?_
      rintro e w5 ⟨rfl, rf5, rt5, hS5, hst5⟩
      have HS5 := Lib.hid hS5
      have HF5 := Lib.hid (FIN.out w5 rf5 rt5 hst5)
      clear hS5 hst5
      go_wp2_with fail
      refine (done_s q m _ _ _ w5 HS5.out).mono ?_
      rintro e w6 ⟨rfl, rfl⟩
      go_wp2
      go_ret
      exact ⟨rfl, HF5.out⟩
  · have b204 : ((st : Int) == 204) = false := by simpa using h204
    by_cases h304 : (st : Int) = 304
    · have HE := Lib.hid (by unfold emptyB; rw [show decide ((st : Int) = 304) = true by simpa using h304]; simp : emptyB m st = true)
      have HH := Lib.hid (HT.out HE.out)
      cases hh : (m.toList == [72, 69, 65, 68])
      all_goals
        go_wp2_with fail
        refine HH.out.mono ?_
        rintro e w5 ⟨rfl, rf5, rt5, hS5, hst5⟩
        have HS5 := Lib.hid hS5
        have HF5 := Lib.hid (FIN.out w5 rf5 rt5 hst5)
        clear hS5 hst5
        go_wp2_with fail
        refine (done_s q m _ _ _ w5 HS5.out).mono ?_
        rintro e w6 ⟨rfl, rfl⟩
        go_wp2
        go_ret
        exact ⟨rfl, HF5.out⟩
    · have b304 : ((st : Int) == 304) = false := by simpa using h304
      cases hh : (m.toList == [72, 69, 65, 68]) with
      | true =>
        have HE := Lib.hid (by unfold emptyB; rw [hh]; simp : emptyB m st = true)
        have HH := Lib.hid (HT.out HE.out)
        go_wp2_with fail
        refine HH.out.mono ?_
        rintro e w5 ⟨rfl, rf5, rt5, hS5, hst5⟩
        have HS5 := Lib.hid hS5
        have HF5 := Lib.hid (FIN.out w5 rf5 rt5 hst5)
        clear hS5 hst5
        go_wp2_with fail
        refine (done_s q m _ _ _ w5 HS5.out).mono ?_
        rintro e w6 ⟨rfl, rfl⟩
        go_wp2
        go_ret
        exact ⟨rfl, HF5.out⟩
      | false =>
        have HE := Lib.hid (by unfold emptyB; rw [hh, show decide ((st : Int) = 204) = false by simpa using h204, show decide ((st : Int) = 304) = false by simpa using h304]; rfl : emptyB m st = false)
        have HH := Lib.hid (HN.out HE.out)
        go_wp2_with fail
        refine HH.out.mono ?_
        rintro e w5 ⟨rfl, rf5, rt5, hS5, hst5⟩
        have HS5 := Lib.hid hS5
        have HF5 := Lib.hid (FIN.out w5 rf5 rt5 hst5)
        clear hS5 hst5
        go_wp2_with fail
        refine (done_s q m _ _ _ w5 HS5.out).mono ?_
        rintro e w6 ⟨rfl, rfl⟩
        go_wp2
        go_ret
        exact ⟨rfl, HF5.out⟩
end Go.Proofs.YtfejfaldjfichaaDoor
