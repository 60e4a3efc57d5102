/- MessageBodies: the walk. -/
import Derived.Test.YtfejfaldjfichaaDoorLHead
namespace Go.Proofs.YtfejfaldjfichaaDoor
open Go.RowKit Go.Hp
set_option maxRecDepth 100000

set_option maxHeartbeats 1000000 in
theorem bod_out (n said : Int) (w : World) (h : n < 0 ∨ 500 < n ∨ said < 0 ∨ 500 < said) :
    Calls Tryd.prog 4 #[.int .i64 n, .int .i64 said] w (TrueQ w) := by
  by_cases h1 : n < 0
  · go_enter Tryd.func4, Tryd.ntmps4
    go_wp2_with fail
    refine (alive_calls w).mono ?_
    rintro e w' ⟨rfl, hf⟩
    go_wp2
    go_ret
    exact ⟨rfl, hf⟩
  · by_cases h2 : 500 < n
    · go_enter Tryd.func4, Tryd.ntmps4
      go_wp2_with fail
      refine (alive_calls w).mono ?_
      rintro e w' ⟨rfl, hf⟩
      go_wp2
      go_ret
      exact ⟨rfl, hf⟩
    · by_cases h3 : said < 0
      · go_enter Tryd.func4, Tryd.ntmps4
        go_wp2_with fail
        refine (alive_calls w).mono ?_
        rintro e w' ⟨rfl, hf⟩
        go_wp2
        go_ret
        exact ⟨rfl, hf⟩
      · have h4 : 500 < said := by omega
        go_enter Tryd.func4, Tryd.ntmps4
        go_wp2_with fail
        refine (alive_calls w).mono ?_
        rintro e w' ⟨rfl, hf⟩
        go_wp2
        go_ret
        exact ⟨rfl, hf⟩

abbrev bPUT : ByteArray := ⟨#[80, 85, 84]⟩
abbrev putL (F : List El) : List El := headL bPUT bHTTP bA bSlash ++ F
theorem put_none : requestF (putL []) = 0 := by kernel_rfl
theorem put_walk {d : ByteArray} (hd : valueOK d = true) : walkE reqN [] (putL [(clN, d)]) = 0 := by
  have s1 : stepE reqN [] (⟨#[58, 109, 101, 116, 104, 111, 100]⟩, bPUT) = 0 := by kernel_rfl
  have s2 : stepE reqN ([] ++ [(⟨#[58, 109, 101, 116, 104, 111, 100]⟩, bPUT)]) (⟨#[58, 115, 99, 104, 101, 109, 101]⟩, bHTTP) = 0 := by kernel_rfl
  have s3 : stepE reqN ([] ++ [(⟨#[58, 109, 101, 116, 104, 111, 100]⟩, bPUT)] ++ [(⟨#[58, 115, 99, 104, 101, 109, 101]⟩, bHTTP)]) (⟨#[58, 97, 117, 116, 104, 111, 114, 105, 116, 121]⟩, bA) = 0 := by kernel_rfl
  have s4 : stepE reqN ([] ++ [(⟨#[58, 109, 101, 116, 104, 111, 100]⟩, bPUT)] ++ [(⟨#[58, 115, 99, 104, 101, 109, 101]⟩, bHTTP)] ++ [(⟨#[58, 97, 117, 116, 104, 111, 114, 105, 116, 121]⟩, bA)]) (⟨#[58, 112, 97, 116, 104]⟩, bSlash) = 0 := by kernel_rfl
  have m5 : memS reqN clN = false := by decide
  have n5 : nameOK clN = true := by kernel_rfl
  have f5 : forbB (clN, d) = false := by kernel_rfl
  have s5 : ∀ pre, stepE reqN pre (clN, d) = 0 := by intro pre; unfold stepE; simp [m5, n5, f5, hd]
  unfold putL headL
  rw [List.cons_append, List.cons_append, List.cons_append, List.cons_append, List.nil_append, walkE, if_pos s1, walkE, if_pos s2, walkE, if_pos s3, walkE, if_pos s4, walkE, if_pos (s5 _), walkE]
theorem put_request {d : ByteArray} (hd : valueOK d = true) : requestF (putL [(clN, d)]) = 0 := by
  have h1 : reqN.any (fun nm => (fstV nm (putL [(clN, d)])).toList.isEmpty) = false := by kernel_rfl
  have h2 : Lib.hasPrefix (fstV pathN (putL [(clN, d)])).data.toList [47] = true := by kernel_rfl
  unfold requestF
  rw [if_pos (put_walk hd), h1, h2]; rfl
theorem put_sum (d : ByteArray) (h : d.size ≤ 6) : ¬ (600 < sumE (putL [(clN, d)])) := by
  have e1 : sumE (headL bPUT bHTTP bA bSlash) = 166 := by decide
  have e2 : sumE [(clN, d)] = costE (clN, d) := by simp [sumE]
  have e3 : costE (clN, d) = 46 + (d.size : Int) := by
    have e4 : clN.size = 14 := by decide
    unfold costE
    simp only [e4]
    omega
  rw [sumE_append, e1, e2, e3]; omega
theorem put_length (v : Nat) (hv : v < 1000000) : lengthF (putL [(clN, dgB v)]) = ((v : Int), 0) := by
  have hg : getF clN (putL [(clN, dgB v)]) = some (dgB v) := by kernel_rfl
  have ho : (putL [(clN, dgB v)]).any (otherB (dgB v)) = false := by
    have h1 : otherB (dgB v) (⟨#[58, 109, 101, 116, 104, 111, 100]⟩, bPUT) = false := by kernel_rfl
    have h2 : otherB (dgB v) (⟨#[58, 115, 99, 104, 101, 109, 101]⟩, bHTTP) = false := by kernel_rfl
    have h3 : otherB (dgB v) (⟨#[58, 97, 117, 116, 104, 111, 114, 105, 116, 121]⟩, bA) = false := by kernel_rfl
    have h4 : otherB (dgB v) (⟨#[58, 112, 97, 116, 104]⟩, bSlash) = false := by kernel_rfl
    have h5 : otherB (dgB v) (clN, dgB v) = false := by unfold otherB; simp
    unfold putL headL
    simp [h1, h2, h3, h4, h5]
  unfold lengthF
  rw [hg]
  simp only
  rw [ho, dgB_ok, dgB_val v hv]
  have := dgB_size v
  rw [if_neg (by simp; omega)]
theorem put_with (v n : Nat) (b : ByteArray) (hb : b.size = n) (hv : v < 1000000) : fieldsE (putL [(clN, dgB v)]) [] b = if 400 < n then 1 else if n = v then 0 else 22 := by
  have ht : trailersF [] = 0 := rfl
  have hs : sumE [] = 0 := rfl
  unfold fieldsE
  rw [ht, hs, put_request (value_dgB v), put_length v hv, hb, if_neg (put_sum _ (dgB_size v))]
  by_cases h1 : 400 < n
  · rw [if_pos h1, if_pos (by simp; omega)]
  · rw [if_neg h1, if_neg (by simp; omega), if_pos rfl, if_pos rfl]
    by_cases h2 : n = v
    · rw [if_pos h2, if_neg (fun h => h.2 (by rw [h2]))]
    · rw [if_neg h2, if_pos ⟨by omega, by simp only; omega⟩]
theorem put_without (n : Nat) (b : ByteArray) (hb : b.size = n) : fieldsE (putL []) [] b = if 400 < n then 1 else 0 := by
  have ht : trailersF [] = 0 := rfl
  have hs : sumE [] = 0 := rfl
  have h2 : sumE (putL []) = 166 := by decide
  have h3 : lengthF (putL []) = (-1, 0) := by kernel_rfl
  unfold fieldsE
  rw [ht, hs, put_none, h2, h3, hb]
  by_cases h1 : 400 < n
  · rw [if_pos h1, if_pos (by simp; omega)]
  · rw [if_neg h1, if_neg (by simp; omega), if_pos rfl, if_neg (by omega), if_pos rfl, if_neg (fun h => by have := h.1; simp at this)]

def zb (n : Nat) : ByteArray := strOfNums (List.replicate n 0)
theorem zb_size (n : Nat) : (zb n).size = n := by unfold zb; rw [strOfNums_size]; simp

set_option maxHeartbeats 4000000 in
theorem bod_in (n sd : Nat) (w : World) (h1 : n ≤ 500) (h2 : sd ≤ 500) :
    Calls Tryd.prog 4 #[.int .i64 n, .int .i64 sd] w (TrueQ w) := by
  have hcv := conv1
  have k1 : ¬ ((n : Int) < 0) := by omega
  have k2 : ¬ (500 < (n : Int)) := by omega
  have k3 : ¬ ((sd : Int) < 0) := by omega
  have k4 : ¬ (500 < (sd : Int)) := by omega
  have infoU : (Tryd.prog.info? 5).map (fun i => (i.zero, i.size, i.bytes)) = some (some (.int .u8 0), 1, 1) := by kernel_rfl
  obtain ⟨iu, hiu, hu0, hu1, hu2⟩ := info_parts infoU
  obtain ⟨C, hC⟩ : ∃ C, madeCells (Value.cells (.int .u8 0)) (n * 1) = C := ⟨_, rfl⟩
  have hmk : ∀ W : World, (Instr.makeSlice 23 (.int .i64 n) (.int .i64 n)).run Tryd.prog W = .ok (.slice (some ⟨W.heap.size, 0, none⟩) n n) (W.alloc (.cells C 5)) := by
    intro W
    have h := run_make (P := Tryd.prog) W 23 5 iu (.int .u8 0) Tryd.underlying23 hiu hu0 .i64 .i64 (n : Int) (n : Int) (by omega) (by omega) (by rw [hu2]; omega) (by omega)
    rw [hu1] at h
    rw [h]
    simp only [Int.toNat_natCast]
    rw [hC]
  have hct : ∀ W : World, (convert 23 9 (.slice (some ⟨W.heap.size, 0, none⟩) n n)).run Tryd.prog (W.alloc (.cells C 5)) = .ok (.string (zb n)) (W.alloc (.cells C 5)) := by
    intro W
    have hC2 : C = (List.replicate n (.int .u8 0 : Value)).toArray := by
      rw [← hC, Nat.mul_one]
      apply Array.toList_inj.1
      rw [show Value.cells (.int .u8 0) = #[.int .u8 0] from rfl, toList_madeCells_one]
    refine run_convert_bytes_arg _ 23 5 Tryd.underlying23 Tryd.underlying5 W.heap.size 0 n n (List.replicate n 0) (by simp) (fun i hi => ?_) 9 Tryd.underlying9
    have hb := Bk.new W (List.replicate n (.int .u8 0 : Value)) 5
    rw [Nat.zero_add, hC2, hb.cell]
    have hi' : i < n := by simpa using hi
    simp [hi']
  have HC := Lib.hid hC
  clear hC infoU hiu hu0 hu1 hu2
  go_enter Tryd.func4, Tryd.ntmps4
  go_wp2_with fail
  refine (alive_calls w).mono ?_
  rintro e w1 ⟨rfl, hf1⟩
  have HF1 := Lib.hid hf1
  clear hf1
  go_wp2_with fail
  go_loopg [6, 5] 7 (fun gg iv dv wr => ∃ (g v : Nat) (d : ByteArray), g = gg ∧ iv = .int .i64 v ∧ dv = .string d ∧ DgI sd g v d ∧ Fr No w wr)
  case atStart => exact ⟨7, sd, ⟨#[]⟩, rfl, rfl, rfl, DgI.start sd (by omega), HF1.out⟩
  case round =>
    obtain ⟨g, v, d, rfl, rfl, rfl, hdg, hfr⟩ := hrel
    have HDG := Lib.hid hdg
    have HFR := Lib.hid hfr
    have hvm := hdg.lt
    have hcat := cat_size v d hdg.size
    clear hfr hdg
    have b0 : (0 : Int) ≤ (v : Int) := by omega
    by_cases hv0 : 0 < v
    · have b1 : (0 : Int) < (v : Int) := by omega
      have HST := Lib.hid (HDG.out.step (by omega))
      go_wp2
      go_roundg (g - 1)
      case rel => exact ⟨g - 1, v / 10, _, rfl, by go_num, rfl, HST.out.2, HFR.out.alloc _⟩
      case measure => have := HST.out.1; omega
    · obtain rfl : v = 0 := by omega
      cases he : d.toList.isEmpty with
      | true =>
        have HST := Lib.hid (HDG.out.step (fun _ => by rw [ba_toList] at he; simpa using he))
        go_wp2
        go_roundg (g - 1)
        case rel => exact ⟨g - 1, 0, _, rfl, by first | rfl | go_num, rfl, HST.out.2, HFR.out.alloc _⟩
        case measure => have := HST.out.1; omega
      | false =>
        have hD := HDG.out.done (by rw [ba_toList] at he; simpa using he)
        subst hD
        clear hcv HDG hcat hvm hv0 b0
        go_wp2_with fail
        have hA1 := (Fr.refl No wr).alloc (.cells C 5)
        have hz : (wr.alloc (.cells C 5)).heap.size = wr.heap.size + 1 := by simp
        have hL2 := Rd.fields_new (wr.alloc (.cells C 5)) [(clN, dgB sd)] 1 rfl (by decide)
        have hA2 := (Fr.refl No (wr.alloc (.cells C 5))).alloc (.cells (cells [(clN, dgB sd)]).toArray 30)
        have hz2 : ((wr.alloc (.cells C 5)).alloc (.cells (cells [(clN, dgB sd)]).toArray 30)).heap.size = wr.heap.size + 2 := by simp
        have hA3 := (Fr.refl No ((wr.alloc (.cells C 5)).alloc (.cells (cells [(clN, dgB sd)]).toArray 30))).alloc (.cells #[.string bPUT, .string bHTTP, .string bA, .string bSlash, .slice (some ⟨wr.heap.size + 1, 0, none⟩) 1 1, .string (zb n), .slice none 0 0] 34)
        have hB3 := Bk.new ((wr.alloc (.cells C 5)).alloc (.cells (cells [(clN, dgB sd)]).toArray 30)) [.string bPUT, .string bHTTP, .string bA, .string bSlash, .slice (some ⟨wr.heap.size + 1, 0, none⟩) 1 1, .string (zb n), .slice none 0 0] 34
        rw [hz] at hL2
        rw [hz2] at hB3
        have HFT := Lib.hid ((HFR.out.then_ (hA1.then_ hA2)).then_ hA3)
        have HL := Lib.hid (hL2.no hA3)
        have HB := Lib.hid hB3
        have HQS := Lib.hid HFR.out.size
        clear hA1 hz hL2 hA2 hz2 hA3 hB3
        obtain ⟨wq, hW⟩ : ∃ wq, ((wr.alloc (.cells C 5)).alloc (.cells (cells [(clN, dgB sd)]).toArray 30)).alloc (.cells #[.string bPUT, .string bHTTP, .string bA, .string bSlash, .slice (some ⟨wr.heap.size + 1, 0, none⟩) 1 1, .string (zb n), .slice none 0 0] 34) = wq := ⟨_, rfl⟩
        have HFT : Hid (Fr No w wq) := hW ▸ HFT
        have HL : Hid (Rd wq 2 (some ⟨wr.heap.size + 1, 0, none⟩) 1 1 (cells [(clN, dgB sd)])) := hW ▸ HL
        have HB : Hid (Bk wq (wr.heap.size + 2) [.string bPUT, .string bHTTP, .string bA, .string bSlash, .slice (some ⟨wr.heap.size + 1, 0, none⟩) 1 1, .string (zb n), .slice none 0 0] 34) := hW ▸ HB
        have hmid : Mid (putL [(clN, dgB sd)]) := ⟨by simp [putL, headL], fun x hx => by
          have a2 := dgB_size sd
          unfold putL headL at hx
          simp only [List.cons_append, List.nil_append, List.mem_cons, List.not_mem_nil, or_false] at hx
          rcases hx with rfl | rfl | rfl | rfl | rfl
          · exact ⟨by simp only; decide, by simp only; decide⟩
          · exact ⟨by simp only; decide, by simp only; decide⟩
          · exact ⟨by simp only; decide, by simp only; decide⟩
          · exact ⟨by simp only; decide, by simp only; decide⟩
          · exact ⟨by simp only; decide, by simp only; omega⟩⟩
        have hF1 := fields_calls bPUT bHTTP bA bSlash (zb n) (some ⟨wr.heap.size + 1, 0, none⟩) 1 1 none 0 0 [(clN, dgB sd)] [] wq HL.out (Rd.nil _ _) hmid ⟨by decide, by decide⟩
        rw [put_with sd n (zb n) (zb_size n) (by omega)] at hF1
        have HF1' := Lib.hid hF1
        have HMD := Lib.hid hmid
        obtain ⟨RQ, hRQ⟩ : ∃ RQ, wr.heap.size + 2 = RQ := ⟨_, rfl⟩
        have hRQw : w.heap.size ≤ RQ := by have := HQS.out; omega
        rw [hRQ] at HB ⊢
        clear hF1 hmid hRQ
        obtain ⟨c1, hc1⟩ : ∃ v : Int, (if 400 < n then (1 : Int) else if n = sd then 0 else 22) = v := ⟨_, rfl⟩
        rw [hc1] at HF1'
        have HC1 := Lib.hid hc1
        clear hc1
        have hcase : ∀ e w', FieldsQ (putL [(clN, dgB sd)]) c1 wq e w' → Fr No wq w' ∧ ∃ a k, e = .returned (.tuple #[.slice a (if c1 = 0 then 5 else 0) k, .int .i64 c1]) := by
          rintro e w' ⟨hf, ⟨h0, a, k, r, rfl, _, _⟩ | ⟨h0, rfl⟩⟩
          · exact ⟨hf, a, k, by rw [h0, if_pos rfl]; rfl⟩
          · exact ⟨hf, none, 0, by rw [if_neg h0]⟩
        have HCASE := Lib.hid hcase
        clear hcase
        subst hW
        refine HF1'.out.mono ?_
        intro e w5 hq5
        obtain ⟨hf5, a5, k5, rfl⟩ := HCASE.out e w5 hq5
        have HF5 := Lib.hid (HFT.out.then_ hf5)
        have HB5 := Lib.hid (HB.out.no hf5)
        clear hq5 hf5
        have d0 : w5.cell? ⟨RQ, 0, none⟩ = some (.string bPUT) := HB5.out.cell 0
        have d1 : w5.cell? ⟨RQ, 1, none⟩ = some (.string bHTTP) := HB5.out.cell 1
        have d2 : w5.cell? ⟨RQ, 2, none⟩ = some (.string bA) := HB5.out.cell 2
        have d3 : w5.cell? ⟨RQ, 3, none⟩ = some (.string bSlash) := HB5.out.cell 3
        have d4 : w5.cell? ⟨RQ, 4, none⟩ = some (.slice (some ⟨wr.heap.size + 1, 0, none⟩) 1 1) := HB5.out.cell 4
        have d5 : w5.cell? ⟨RQ, 5, none⟩ = some (.string (zb n)) := HB5.out.cell 5
        have d6 : w5.cell? ⟨RQ, 6, none⟩ = some (.slice none 0 0) := HB5.out.cell 6
        have f4 : w5.frozen? ⟨RQ, 4, none⟩ = false := HB5.out.frozen 4
        have HB6 := Lib.hid (HB5.out.set 4 (.slice none 0 0))
        have HF6 := Lib.hid (Fr.trans_new HF5.out ((Fr.refl (fun b => b = RQ) w5).setCell (a := ⟨RQ, 4, none⟩) (.inl rfl) (.slice none 0 0)) hRQw)
        have hP := fun W => fields_calls bPUT bHTTP bA bSlash (zb n) none 0 0 none 0 0 [] [] W (Rd.nil _ _) (Rd.nil _ _) ⟨by decide, by decide⟩ ⟨by decide, by decide⟩
        rw [show headL bPUT bHTTP bA bSlash ++ ([] : List El) = putL [] from rfl, put_without n (zb n) (zb_size n)] at hP
        have hRI := fun W => right_calls bPUT bHTTP bA bSlash (zb n) none 0 0 none 0 0 [] [] W (Rd.nil _ _) (Rd.nil _ _) ⟨by decide, by decide⟩ ⟨by decide, by decide⟩
        rw [show headL bPUT bHTTP bA bSlash ++ ([] : List El) = putL [] from rfl, put_without n (zb n) (zb_size n)] at hRI
        by_cases h4 : 400 < n
        · have hc1 : c1 = 1 := by rw [← HC1.out, if_pos h4]
          subst hc1
          rw [if_pos h4] at hP
          have k5 : 400 < (n : Int) := by omega
          have HP := Lib.hid hP
          clear hP hRI
          go_wp2_with fail
          refine (HP.out _).mono ?_
          rintro e w7 ⟨hf7, ⟨h0, _⟩ | ⟨_, rfl⟩⟩
          · exact absurd h0 (by decide)
          · have HF7 := Lib.hid (HF6.out.then_ hf7)
            clear hf7 d0 d1 d2 d3 d4 d5 d6 f4
            go_wp2
            go_ret
            exact ⟨rfl, HF7.out⟩
        · rw [if_neg h4] at hP hRI
          have k5' : ¬ (400 < (n : Int)) := by omega
          by_cases hns : n = sd
          · have hc1 : c1 = 0 := by rw [← HC1.out, if_neg h4, if_pos hns]
            subst hc1
            have k6 : ((n : Int) == (sd : Int)) = true := by rw [beq_iff_eq]; omega
            clear hns
            have HRI := Lib.hid hRI
            have HP := Lib.hid hP
            clear hP hRI
            go_wp2_with fail
            refine (HP.out _).mono ?_
            rintro e w7 ⟨hf7, ⟨_, a7, k7, r7, rfl, _, _⟩ | ⟨h0, _⟩⟩
            · have HF7 := Lib.hid (HF6.out.then_ hf7)
              have HB7 := Lib.hid (HB6.out.no hf7)
              clear hf7 d0 d1 d2 d3 d4 d5 d6 f4
              rw [show (putL ([] : List El)).length = 4 from rfl]
              have e0 : w7.cell? ⟨RQ, 0, none⟩ = some (.string bPUT) := HB7.out.cell 0
              have e1 : w7.cell? ⟨RQ, 1, none⟩ = some (.string bHTTP) := HB7.out.cell 1
              have e2 : w7.cell? ⟨RQ, 2, none⟩ = some (.string bA) := HB7.out.cell 2
              have e3 : w7.cell? ⟨RQ, 3, none⟩ = some (.string bSlash) := HB7.out.cell 3
              have e4 : w7.cell? ⟨RQ, 4, none⟩ = some (.slice none 0 0) := HB7.out.cell 4
              have e5 : w7.cell? ⟨RQ, 5, none⟩ = some (.string (zb n)) := HB7.out.cell 5
              have e6 : w7.cell? ⟨RQ, 6, none⟩ = some (.slice none 0 0) := HB7.out.cell 6
              go_wp2_with fail
              refine (HRI.out _).mono ?_
              rintro e w8 ⟨rfl, hf8⟩
              have HF8 := Lib.hid (HF7.out.then_ hf8)
              clear hf8
              go_wp2
              go_ret
              exact ⟨rfl, HF8.out⟩
            · exact absurd rfl h0
          · have hc1 : c1 = 22 := by rw [← HC1.out, if_neg h4, if_neg hns]
            subst hc1
            have k6 : ((n : Int) == (sd : Int)) = false := by rw [beq_eq_false_iff_ne]; omega
            clear hns
            have HP := Lib.hid hP
            clear hP hRI
            go_wp2_with fail
            refine (HP.out _).mono ?_
            rintro e w7 ⟨hf7, ⟨_, a7, k7, r7, rfl, _, _⟩ | ⟨h0, _⟩⟩
            · have HF7 := Lib.hid (HF6.out.then_ hf7)
              have HB7 := Lib.hid (HB6.out.no hf7)
              clear hf7 d0 d1 d2 d3 d4 d5 d6 f4
              rw [show (putL ([] : List El)).length = 4 from rfl]
              go_wp2
              go_ret
              exact ⟨rfl, HF7.out⟩
            · exact absurd rfl h0
end Go.Proofs.YtfejfaldjfichaaDoor
