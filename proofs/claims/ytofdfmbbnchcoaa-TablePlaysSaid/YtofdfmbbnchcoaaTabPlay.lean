/- TablePlays: the walk. -/
import Derived.Test.YtofdfmbbnchcoaaTabAt
import Derived.Deep.DeepCutAuto
import Derived.Deep.CutBlock
import Derived.Deep.RegionHeld3
namespace Go.Proofs.Ytofdfmbbnchcoaa
open Go.RowKit Go.Hp
set_option maxRecDepth 100000
attribute [local go_sem high] eqF

theorem play_many (size : Int) (a : Option Addr) (n c : Nat) (w : World) (hn : 80 < n) (hc : n ≤ 9223372036854775807) :
    Calls Try.prog 3 #[.int .i64 size, .slice a n c] w (AliveT w) := by
  go_enter Try.func3, Try.ntmps3
  go_wp2_with fail
  refine (alive_calls w).mono ?_
  rintro e w' ⟨rfl, hb⟩
  go_wp2
  go_ret
  exact ⟨rfl, hb⟩

theorem add_nil (x0 x1 : ByteArray) (w : World) : Calls Try.prog 6 #[.pointer none, .agg #[.string x0, .string x1]] w fun e w' => e = .returned (.tuple #[]) ∧ Fr No w w' := by
  go_enter Try.func6, Try.ntmps6
  go_wp2
  exact bodyPost_ret (v := .tuple #[]) (by simp [results, Try.results6, go_sem]) rfl ⟨rfl, (Fr.refl No w).alloc _⟩

set_option maxHeartbeats 1000000 in
theorem play_none (size : Int) (a : Option Addr) (n c : Nat) (w : World) (hn : n ≤ 80) (hm : size < 0 ∨ 512 < size) :
    Calls Try.prog 3 #[.int .i64 size, .slice a n c] w (AliveT w) := by
  obtain ⟨B, hB⟩ : ∃ B, w.heap.size = B := ⟨_, rfl⟩
  have HB := Lib.hid hB
  have hT : ∀ w : World, Tabs w [] (.pointer none) := fun _ => .inl ⟨rfl, rfl⟩
  have hO := fun w => at_out (.pointer none) [] 17 w (hT w) (by decide) (.inr (by decide))
  have hI := fun w => at_in (.pointer none) [] 1 w (hT w) (by decide) (by decide)
  rw [show nth (fixedL ++ []) 1 = ((⟨#[58, 109, 101, 116, 104, 111, 100]⟩, ⟨#[71, 69, 84]⟩) : El) from rfl, show ((1 : Nat) : Int) + 1 = 2 from rfl] at hI
  unfold vE z0 at hO
  unfold vE at hI
  have HO := Lib.hid hO
  have HI := Lib.hid hI
  have HNEW := Lib.hid (fun w => new_none size w (by omega))
  clear hB hT hO hI
  rcases hm with hm | hm
  all_goals
    go_enter Try.func3, Try.ntmps3
    go_wp2_with fail
    refine (alive_calls w).mono ?_
    rintro e w1 ⟨rfl, hb⟩
    have HBL := Lib.hid hb
    clear hb
    go_wp2_with fail
    refine (HNEW.out w1).mono ?_
    rintro e w' ⟨rfl, rfl⟩
    go_wp2_with fail
    refine (add_nil _ _ w1).mono ?_
    rintro e w2 ⟨rfl, hf2⟩
    have HF2 := Lib.hid hf2
    clear hf2
    go_wp2_with fail
    refine (HO.out w2).mono ?_
    rintro e w3 ⟨rfl, hf3⟩
    have HF3 := Lib.hid (HF2.out.then_ hf3)
    clear hf3
    go_wp2_with fail
    have hf3' := HF3.out.alloc (.cells #[.string ⟨#[]⟩, .string ⟨#[]⟩] 28)
    have HF4 := Lib.hid hf3'
    refine (HI.out _).mono ?_
    rintro e w4 ⟨rfl, hf4⟩
    have HF5 := Lib.hid (HF4.out.then_ hf4)
    clear hf4 hf3'
    go_wp2_with fail
    refine (resize_nil 5 _).mono ?_
    rintro e w5 ⟨rfl, rfl⟩
    go_wp2_with fail
    refine (size_nil _).mono ?_
    rintro e w5 ⟨rfl, rfl⟩
    go_wp2_with fail
    refine (used_nil _).mono ?_
    rintro e w5 ⟨rfl, rfl⟩
    go_wp2_with fail
    refine (all_nil _).mono ?_
    rintro e w5 ⟨rfl, rfl⟩
    go_wp2
    go_ret
    exact ⟨rfl, by
      have h1 := HF5.out.alloc (.cells #[.string ⟨#[58, 109, 101, 116, 104, 111, 100]⟩, .string ⟨#[71, 69, 84]⟩] 28)
      exact HBL.out.trans (h1.below HBL.out.size (fun _ h => h.elim))⟩

set_option maxHeartbeats 4000000 in
theorem play_calls (size : Int) (a : Option Addr) (n c : Nat) (ops : List OpV) (w : World) (hl : Rd w 4 a n c (opcells ops)) (hlt : ∀ b, abk a n = some b → b < w.heap.size) (hsz : ∀ o ∈ ops, o.x.size ≤ 140737488355328 ∧ o.y.size ≤ 140737488355328) (hn : n ≤ 80) (hm : 0 ≤ size ∧ size ≤ 512) :
    Calls Try.prog 3 #[.int .i64 size, .slice a n c] w (AliveT w) := by
  have hon : ops.length = n := by have := hl.len; rw [opcells_len] at this; omega
  have hcap := hl.capLe; have hle := hl.le
  have HL := Lib.hid hl
  have HO := Lib.hid hon
  have HA := Lib.hid hlt
  have HSZ := Lib.hid hsz
  clear hl hon hlt hsz
  go_enter Try.func3, Try.ntmps3
  go_wp2_with fail
  refine (alive_calls w).mono ?_
  rintro e w1 ⟨rfl, hb1⟩
  go_wp2_with fail
  refine (new_calls size w1 hm).mono ?_
  rintro e w2 ⟨q, rfl, hq, hq2, hf2⟩
  have hsz1 := hb1.size
  have hsz2 := hf2.size
  obtain ⟨B, hB⟩ : ∃ B, B = w.heap.size := ⟨_, rfl⟩
  have hBw : B ≤ w.heap.size := by omega
  have hBw2 : B ≤ w2.heap.size := by omega
  have hqB : B ≤ q := by omega
  have hbel : Below B w w2 := (hb1.mono hBw).trans (hf2.below (by omega) (fun _ h => h.elim))
  have HB := Lib.hid hB
  have HBel := Lib.hid hbel
  have HQ2 := Lib.hid hq2
  clear hbel hB hb1 hf2 hq hq2
  have hm1 := hm.1
  have hm2 := hm.2
  go_wp2_with fail
  obtain ⟨p, hp⟩ : ∃ p, w2.heap.size = p := ⟨_, rfl⟩
  rw [hp]
  have hBp : B ≤ p := by omega
  have hst0 : Core w B q p (p + 1) 0 size size none none [] [] [] ((w2.alloc (.cells #[.int .i64 size, nil0] 37)).alloc (.cells #[nil0, nil0, nil0, nil0, nil0, nil0, nil0, nil0, nil0, nil0] 45)) := by
    have f1 : Fr No w2 (w2.alloc (.cells #[.int .i64 size, nil0] 37)) := (Fr.refl No w2).alloc _
    have b1 := Bk.new w2 [.int .i64 size, nil0] 37
    rw [hp] at b1
    have b2 := Bk.new (w2.alloc (.cells #[.int .i64 size, nil0] 37)) [nil0, nil0, nil0, nil0, nil0, nil0, nil0, nil0, nil0, nil0] 45
    have e2 : (w2.alloc (.cells #[.int .i64 size, nil0] 37)).heap.size = p + 1 := by simp [hp]
    rw [e2] at b2
    refine ⟨HQ2.out.no (f1.alloc _), ⟨none, 0, b1.alloc _, Row.nil _ _ _⟩, ?_, rfl, (fun _ h => by cases h), (fun _ h => by cases h), (fun _ h => by cases h), (fun _ h => by cases h), (fun _ h => by cases h), (fun _ h => by cases h), HBel.out.trans ((f1.alloc _).below hBw2 (fun _ h => h.elim)), hqB, hBp, by simp; omega⟩
    exact ⟨none, 0, none, none, 0, none, by omega, b2, Row.nil _ _ _, Row.nil _ _ _, (fun _ h => by cases h), (fun _ h => by cases h), (fun _ h => by cases h), (fun _ h => by cases h), ⟨fun _ _ _ _ h => by simp at h, fun _ h => by cases h⟩⟩
  generalize (w2.alloc (.cells #[.int .i64 size, nil0] 37)).alloc (.cells #[nil0, nil0, nil0, nil0, nil0, nil0, nil0, nil0, nil0, nil0] 45) = w3 at *
  have HS := Lib.hid hst0
  obtain ⟨bk, hbk⟩ : ∃ bk, p + 1 = bk := ⟨_, rfl⟩
  rw [hbk] at HS ⊢
  clear hst0 hp HBel hsz1 hsz2 hBw2 HQ2 hBp hqB hbk
  go_loopg [93] n (fun gg i wr => ∃ k : Nat, k ≤ n ∧ gg = n - k ∧ i = .int .i64 k ∧ ∃ s rq rp R L, Core w B q p bk k s s rq rp R R L wr ∧ (∀ y ∈ R, costE y ≤ 1000) ∧ R.length ≤ k ∧ 0 ≤ s ∧ s ≤ 512)
  case atStart => exact ⟨0, by omega, by omega, rfl, size, none, none, [], [], HS.out, (fun _ h => by cases h), by simp, hm1, hm2⟩
  case round =>
    clear hm1 hm2 hm HS
    obtain ⟨k, hk, rfl, rfl, s, rq, rp, R, L, hcore, hcost, hlen, hs0, hs1⟩ := hrel
    have HC := Lib.hid hcore
    have HCO := Lib.hid hcost
    clear hcost
    by_cases hlt : k < n
    · obtain ⟨kd, hkd⟩ : ∃ kd, kd = (ops.getD k op0).kind := ⟨_, rfl⟩
      obtain ⟨id, hid⟩ : ∃ id, id = (ops.getD k op0).n := ⟨_, rfl⟩
      obtain ⟨x0, hx0⟩ : ∃ x0, x0 = (ops.getD k op0).x := ⟨_, rfl⟩
      obtain ⟨x1, hx1⟩ : ∃ x1, x1 = (ops.getD k op0).y := ⟨_, rfl⟩
      obtain ⟨g1, g2, g3, g4⟩ := opcells_get ops k (by have := HO.out; omega)
      have hxs : x0.size ≤ 140737488355328 ∧ x1.size ≤ 140737488355328 := by
        rw [hx0, hx1]; exact HSZ.out _ (by
          have hko : k < ops.length := by have := HO.out; omega
          rw [List.getD, List.getElem?_eq_getElem hko]; exact List.getElem_mem _)
      obtain ⟨hxs0, hxs1⟩ := hxs
      rw [← hkd] at g1
      rw [← hid] at g2
      rw [← hx0] at g3
      rw [← hx1] at g4
      clear hkd hid hx0 hx1
      obtain ⟨g, off, ha, hga, hcc⟩ := HL.out.2.2.2.2 (by omega)
      subst ha
      have hgw : g < B := by rw [HB.out]; exact hga
      have o1 : wr.cell? ⟨g, off + k * 4, none⟩ = some (.int .i64 kd) := (hcore.below.cell (p := ⟨g, off + k * 4, none⟩) hgw).trans (hcc _ _ g1)
      have o2 : wr.cell? ⟨g, off + k * 4 + 1, none⟩ = some (.int .i64 id) := (hcore.below.cell (p := ⟨g, off + k * 4 + 1, none⟩) hgw).trans (hcc _ _ g2)
      have o3 : wr.cell? ⟨g, off + k * 4 + 2, none⟩ = some (.string x0) := (hcore.below.cell (p := ⟨g, off + k * 4 + 2, none⟩) hgw).trans (hcc _ _ g3)
      have o4 : wr.cell? ⟨g, off + k * 4 + 3, none⟩ = some (.string x1) := (hcore.below.cell (p := ⟨g, off + k * 4 + 3, none⟩) hgw).trans (hcc _ _ g4)
      clear g1 g2 g3 g4 hcc hcore
      have b0 : (0 : Int) ≤ (k : Int) := by omega
      have b1 : (k : Int) < (n : Int) := by omega
      by_cases hbig : 800 < x0.size + x1.size
      · go_wp2
        go_ret
        refine ⟨rfl, ?_⟩
        rw [← HB.out]
        exact HC.out.below.trans (((Fr.refl No wr).alloc _).below HC.out.size (fun _ h => h.elim))
      · have hsm : x0.size + x1.size ≤ 800 := by omega
        clear hbig
        go_upto_block 2 with fail
        obtain ⟨ob, hob⟩ : ∃ ob, wr.heap.size = ob := ⟨_, rfl⟩
        have hobk : Bk (wr.alloc (.cells #[.int .i64 kd, .int .i64 id, .string x0, .string x1] 47)) ob [.int .i64 kd, .int .i64 id, .string x0, .string x1] 47 := by rw [← hob]; exact Bk.new wr _ _
        have hC0 := HC.out.no ((Fr.refl No wr).alloc (.cells #[.int .i64 kd, .int .i64 id, .string x0, .string x1] 47))
        rw [hob]
        generalize wr.alloc (.cells #[.int .i64 kd, .int .i64 id, .string x0, .string x1] 47) = W0 at *
        clear o1 o2 o3 o4 hob HC
        have p1 : W0.cell? ⟨ob, 0, none⟩ = some (.int .i64 kd) := hobk.cell 0
        have p2 : W0.cell? ⟨ob, 1, none⟩ = some (.int .i64 id) := hobk.cell 1
        have p3 : W0.cell? ⟨ob, 2, none⟩ = some (.string x0) := hobk.cell 2
        have p4 : W0.cell? ⟨ob, 3, none⟩ = some (.string x1) := hobk.cell 3
        have HC := Lib.hid hC0
        have HBO := Lib.hid hobk
        have hcx : costE (x0, x1) ≤ 1000 := by unfold costE; simp only; omega
        have HCX := Lib.hid hcx
        clear hC0 hobk hcx
        go_cut [109] (fun _ wx => ∃ s rq rp R, Core w B q p bk k s s rq rp R R L wx ∧ (∀ y ∈ R, costE y ≤ 1000) ∧ R.length ≤ k + 1 ∧ 0 ≤ s ∧ s ≤ 512 ∧ Bk wx ob [.int .i64 kd, .int .i64 id, .string x0, .string x1] 47)
        case first =>
          by_cases h1 : kd = 1
          · as_aux_lemma =>
            subst h1
            go_wp2_with fail
            refine (add_table_calls q rq R s x0 x1 _ HC.out.tab HCO.out (by omega) HCX.out ⟨hs0, hs1⟩).mono ?_
            rintro e w1 ⟨rfl, j, rq1, hfit, ht, hs⟩
            have HC1 := Lib.hid (HC.out.stepT hs ht)
            have HB1 := Lib.hid (HC.out.keepT hs HBO.out (by decide) (by decide))
            have HFIT := Lib.hid hfit
            clear hfit ht hs p1 p2 p3 p4
            have p3 : w1.cell? ⟨ob, 2, none⟩ = some (.string x0) := HB1.out.cell 2
            have p4 : w1.cell? ⟨ob, 3, none⟩ = some (.string x1) := HB1.out.cell 3
            go_wp2_with fail
            refine (radd_calls p rp R s x0 x1 _ HC1.out.ref HCO.out (by omega) HCX.out).mono ?_
            rintro e w4 ⟨rfl, j2, rp1, hfit2, ht2, hs2⟩
            obtain rfl : j2 = j := hfit2.one HFIT.out
            have HC2 := Lib.hid (HC1.out.stepR hs2 ht2)
            have HB2 := Lib.hid (HC1.out.keepR hs2 HB1.out (by decide) (by decide))
            clear hfit2 ht2 hs2 p3 p4
            go_wp2
            go_meet
            case rel => exact ⟨s, rq1, rp1, _, HC2.out, addL_cost HCO.out HCX.out, addL_len hlen, hs0, hs1, HB2.out⟩
          · by_cases h2 : kd = 2
            · as_aux_lemma =>
              subst h2
              by_cases hmay : 0 ≤ id ∧ id ≤ 512
              · obtain ⟨hm1, hm2⟩ := hmay
                go_wp2_with fail
                go_region_held3 (fun w' => w'.cell? ⟨ob, 1, none⟩ = some (.int .i64 id))
                  (first
                    | go_keep
                    | exact q1
                    | exact q2)
                  (first
                    | (go_at_call 8; refine (resize_calls q rq R s id _ (HC.out.tab.no ((Fr.refl No W0).drew)) HCO.out (by omega) ⟨hm1, hm2⟩).mono ?_; rintro e w1 ⟨rfl, j, hfit, ht, hf⟩; have HFIT := Lib.hid hfit; have hf' : Fr (fun b => b = q) W0 w1 := ⟨hf.os, hf.tape, hf.output, hf.size, hf.block⟩; have HC1 := Lib.hid (HC.out.stepT (TStep.of_fr hf') ht); have HB1 := Lib.hid (HC.out.keepT (TStep.of_fr hf') HBO.out (by decide) (by decide)); clear hfit ht hf hf'; have q1 : w1.cell? ⟨ob, 1, none⟩ = some (.int .i64 id) := HB1.out.cell 1)
                    | (go_at_call 13; refine (rresize_calls p rp R s id _ HC1.out.ref HCO.out (by omega) ⟨hm1, hm2⟩).mono ?_; rintro e w2 ⟨rfl, j2, hfit2, ht2, hf2⟩; obtain rfl : j2 = j := hfit2.one HFIT.out; have HC2 := Lib.hid (HC1.out.stepR (TStep.of_fr hf2) ht2); have HB2 := Lib.hid (HC1.out.keepR (TStep.of_fr hf2) HB1.out (by decide) (by decide)); clear hfit2 ht2 hf2; have q2 : w2.cell? ⟨ob, 1, none⟩ = some (.int .i64 id) := HB2.out.cell 1))
                all_goals
                  clear p1 p2 p3 p4 q1 q2
                  go_wp2
                  go_meet
                  case rel => exact ⟨id, rq, rp, _, HC2.out, take_cost HCO.out, by rw [List.length_take]; omega, hm1, hm2, HB2.out⟩
              · have HMAY := Lib.hid hmay
                go_wp2_with fail
                go_region_held3 (fun w' => w'.cell? ⟨ob, 1, none⟩ = some (.int .i64 id))
                  (first
                    | go_keep)
                  (first
                    | (go_at_call 8; refine (resize_not q id _ HMAY.out).mono ?_; rintro e w1 ⟨rfl, rfl⟩)
                    | (go_at_call 13; refine (rresize_not p id _ HMAY.out).mono ?_; rintro e w2 ⟨rfl, rfl⟩))
                all_goals
                  have HC1 := Lib.hid (HC.out.no ((Fr.refl No W0).drew))
                  have HB1 := Lib.hid (HBO.out.no ((Fr.refl No W0).drew))
                  clear p1 p2 p3 p4
                  go_wp2
                  go_meet
                  case rel => exact ⟨s, rq, rp, R, HC1.out, HCO.out, by omega, hs0, hs1, HB1.out⟩
            · as_aux_lemma =>
              have k1 : (kd == 1) = false := by simpa using h1
              have k2 : (kd == 2) = false := by simpa using h2
              go_wp2
              go_meet
              case rel => exact ⟨s, rq, rp, R, HC.out, HCO.out, by omega, hs0, hs1, HBO.out⟩
        case rest =>
          as_aux_lemma =>
          obtain ⟨s1, rq1, rp1, R1, hC1, hco1, hl1, hs2, hs3, hO1⟩ := hcut
          have HC1 := Lib.hid hC1
          have HCO1 := Lib.hid hco1
          have HO1 := Lib.hid hO1
          clear p1 p2 p3 p4 hC1 hco1 HC HBO HCO
          have p2 : wc.cell? ⟨ob, 1, none⟩ = some (.int .i64 id) := hO1.cell 1
          have hA1 := fun w (h : TAt w q rq1 R1 s1) => at_any (.pointer (some ⟨q, 0, none⟩)) R1 id w (.inr ⟨q, rq1, s1, rfl, h⟩) (by omega)
          have hA2 := fun w (h : RAt w p rp1 R1 s1) => rat_any p rp1 R1 s1 id w h (by omega)
          have hF1 := fun w (h : TAt w q rq1 R1 s1) => find_calls (.pointer (some ⟨q, 0, none⟩)) R1 x0 x1 w (.inr ⟨q, rq1, s1, rfl, h⟩) (by omega)
          have hF2 := fun w (h : RAt w p rp1 R1 s1) => rfind_calls p rp1 R1 s1 x0 x1 w h (by omega)
          obtain ⟨av, hav⟩ : ∃ v, atL (fixedL ++ R1) id = v := ⟨_, rfl⟩
          obtain ⟨fv, hfv⟩ : ∃ v, findL (fixedL ++ R1) (x0, x1) = v := ⟨_, rfl⟩
          rw [hav] at hA1 hA2
          rw [hfv] at hF1 hF2
          clear hav hfv
          obtain ⟨⟨f0, f1⟩, fb⟩ := av
          obtain ⟨fi, fj⟩ := fv
          unfold vE at hA1 hA2
          have HA1 := Lib.hid hA1; have HA2 := Lib.hid hA2; have HF1 := Lib.hid hF1; have HF2 := Lib.hid hF2
          clear hA1 hA2 hF1 hF2 hO1
          go_wp2_with fail
          refine (HA1.out _ HC1.out.tab).mono ?_
          rintro e w4 ⟨rfl, hf4⟩
          have hC4 := HC1.out.no hf4
          have hO4 := HO1.out.no hf4
          have HC4 := Lib.hid hC4
          have HO4 := Lib.hid hO4
          clear p2 hf4 hC4 hO4 HO1 HC1
          have p2 : ∀ o, (w4.alloc o).cell? ⟨ob, 1, none⟩ = some (.int .i64 id) := fun o => (HO4.out.alloc o).cell 1
          go_wp2_with fail
          have hC5 := HC4.out.no ((Fr.refl No w4).alloc (.cells #[.string f0, .string f1] 28))
          have hO5 := HO4.out.alloc (.cells #[.string f0, .string f1] 28)
          have hf5 := Bk.new w4 [.string f0, .string f1] 28
          obtain ⟨bf, hbf⟩ : ∃ bf, w4.heap.size = bf := ⟨_, rfl⟩
          rw [hbf] at hf5 ⊢
          generalize w4.alloc (.cells #[.string f0, .string f1] 28) = w5 at *
          refine (HA2.out _ hC5.ref).mono ?_
          rintro e w6 ⟨rfl, hf6⟩
          have HC6 := Lib.hid (hC5.no hf6)
          have HO6 := Lib.hid (hO5.no hf6)
          have HF6 := Lib.hid (hf5.no hf6)
          clear p2 hf6 hC5 hO5 hf5 HC4 HO4 HA1 HA2 hbf
          have p3 : ∀ o, (w6.alloc o).cell? ⟨ob, 2, none⟩ = some (.string x0) := fun o => (HO6.out.alloc o).cell 2
          have p4 : ∀ o, (w6.alloc o).cell? ⟨ob, 3, none⟩ = some (.string x1) := fun o => (HO6.out.alloc o).cell 3
          go_wp2_with fail
          have hC7 := HC6.out.no ((Fr.refl No w6).alloc (.cells #[.string f0, .string f1] 28))
          have hO7 := HO6.out.alloc (.cells #[.string f0, .string f1] 28)
          have hF7 := HF6.out.alloc (.cells #[.string f0, .string f1] 28)
          have hG7 := Bk.new w6 [.string f0, .string f1] 28
          obtain ⟨bg, hbg⟩ : ∃ bg, w6.heap.size = bg := ⟨_, rfl⟩
          rw [hbg] at hG7 ⊢
          generalize w6.alloc (.cells #[.string f0, .string f1] 28) = w7 at *
          refine (HF1.out _ hC7.tab).mono ?_
          rintro e w8 ⟨rfl, hf8⟩
          have HC8 := Lib.hid (hC7.no hf8)
          have HO8 := Lib.hid (hO7.no hf8)
          have HF8 := Lib.hid (hF7.no hf8)
          have HG8 := Lib.hid (hG7.no hf8)
          clear p3 p4 hf8 hC7 hO7 hF7 hG7 HC6 HO6 HF6 hbg
          have p3 : w8.cell? ⟨ob, 2, none⟩ = some (.string x0) := HO8.out.cell 2
          have p4 : w8.cell? ⟨ob, 3, none⟩ = some (.string x1) := HO8.out.cell 3
          go_wp2_with fail
          refine (HF2.out _ HC8.out.ref).mono ?_
          rintro e w9 ⟨rfl, hf9⟩
          have HC9 := Lib.hid (HC8.out.no hf9)
          have HO9 := Lib.hid (HO8.out.no hf9)
          have HF9 := Lib.hid (HF8.out.no hf9)
          have HG9 := Lib.hid (HG8.out.no hf9)
          clear p3 p4 hf9 HC8 HO8 HF8 HG8
          go_wp2_with fail
          refine (all_calls q rq1 R1 s1 w9 HC9.out.tab (by omega)).mono ?_
          rintro e w10 ⟨a4, c4, r4, rfl, hrow4, hb4, hf4⟩
          have HC10 := Lib.hid (HC9.out.no hf4)
          have HO10 := Lib.hid (HO9.out.no hf4)
          have HF10 := Lib.hid (HF9.out.no hf4)
          have HG10 := Lib.hid (HG9.out.no hf4)
          have HRW := Lib.hid hrow4
          have hfresh : ∀ e ∈ L, ∀ b, r4 = some b → e.r ≠ some b ∧ e.wr ≠ some b := by
            intro e he b hb
            have hbb := hb4 b hb
            obtain ⟨_, _, _, _, _, _, _, _, _, _, _, _, _, hE, _⟩ := HC9.out.book
            exact ⟨fun h1 => by have := (hE e he).1.lt b h1; omega, fun h1 => by have := (hE e he).2.1.lt b h1; omega⟩
          have hrq4 : ∀ b, rq1 = some b → r4 ≠ some b := by
            intro b hb hb'
            have := hb4 b hb'
            obtain ⟨_, _, _, hqr⟩ := HC9.out.tab
            have := hqr.lt b hb; omega
          have hrp4 : ∀ b, rp1 = some b → r4 ≠ some b := by
            intro b hb hb'
            have := hb4 b hb'
            obtain ⟨_, _, _, hqr⟩ := HC9.out.ref
            have := hqr.lt b hb; omega
          have hr4B : ∀ b, r4 = some b → B ≤ b := fun b hb => Nat.le_trans HC9.out.size (hb4 b hb)
          have HFR := Lib.hid hfresh
          have HQ4 := Lib.hid hrq4
          have HP4 := Lib.hid hrp4
          have HB4 := Lib.hid hr4B
          clear hfresh hrq4 hrp4 hr4B hb4 hrow4 hf4 HC9 HO9 HF9 HG9
          go_wp2_with fail
          refine (add_calls B bk L a4 R1.length c4 r4 R1 w10 HC10.out.book (by have := HC10.out.len; omega) HRW.out HB4.out HFR.out HC10.out.size (by omega)).mono ?_
          rintro e w11 hA5
          have he5 := hA5.1
          subst he5
          obtain ⟨L5, hC5⟩ := HC10.out.add hA5 HQ4.out HP4.out (by omega)
          have HC := Lib.hid hC5
          have HO := Lib.hid (HC10.out.keepA hA5 HO10.out (by decide) (by decide))
          have HFB := Lib.hid (HC10.out.keepA hA5 HF10.out (by decide) (by decide))
          have HGB := Lib.hid (HC10.out.keepA hA5 HG10.out (by decide) (by decide))
          have hrow5 : Row w11 28 2 a4 R1.length c4 r4 (cells R1) := by
            obtain ⟨_, _, _, _, _, _, hF⟩ := hA5
            exact HRW.out.fr hF (row_nbs HRW.out)
          have HRD := Lib.hid hrow5.rd
          clear hA5 hC5 hrow5 HC10 HO10 HF10 HG10 HRW HFR HQ4 HP4 HB4 HF1 HF2
          have e0 : w11.cell? ⟨bf, 0, none⟩ = some (.string f0) := HFB.out.cell 0
          have e1 : w11.cell? ⟨bf, 1, none⟩ = some (.string f1) := HFB.out.cell 1
          have e2 : w11.cell? ⟨bg, 0, none⟩ = some (.string f0) := HGB.out.cell 0
          have e3 : w11.cell? ⟨bg, 1, none⟩ = some (.string f1) := HGB.out.cell 1
          have p3 : w11.cell? ⟨ob, 2, none⟩ = some (.string x0) := HO.out.cell 2
          have p4 : w11.cell? ⟨ob, 3, none⟩ = some (.string x1) := HO.out.cell 3
          obtain ⟨ra, rc, hrb, hrr⟩ := HC.out.ref
          have d0 : w11.cell? ⟨p, 0, none⟩ = some (.int .i64 s1) := hrb.cell 0
          have d1 : w11.cell? ⟨p, 1, none⟩ = some (.slice ra R1.length rc) := hrb.cell 1
          have HRB := Lib.hid hrb
          have HRR := Lib.hid hrr
          clear hrb hrr
          have hQ : ∀ w' : World, Fr No w11 w' → (w'.cell? ⟨bf, 0, none⟩ = some (.string f0) ∧ w'.cell? ⟨bf, 1, none⟩ = some (.string f1) ∧ w'.cell? ⟨bg, 0, none⟩ = some (.string f0) ∧ w'.cell? ⟨bg, 1, none⟩ = some (.string f1) ∧ w'.cell? ⟨ob, 2, none⟩ = some (.string x0) ∧ w'.cell? ⟨ob, 3, none⟩ = some (.string x1) ∧ w'.cell? ⟨p, 0, none⟩ = some (.int .i64 s1) ∧ w'.cell? ⟨p, 1, none⟩ = some (.slice ra R1.length rc)) := fun w' hf =>
            ⟨(HFB.out.no hf).cell 0, (HFB.out.no hf).cell 1, (HGB.out.no hf).cell 0, (HGB.out.no hf).cell 1, (HO.out.no hf).cell 2, (HO.out.no hf).cell 3, (HRB.out.no hf).cell 0, (HRB.out.no hf).cell 1⟩
          have hSM := fun (W : World) (hf : Fr No w11 W) => sum_calls ra R1.length rc R1 W (HRR.out.rd.no hf) HCO1.out (by omega)
          have hSA := fun (W : World) (hf : Fr No w11 W) => same_calls a4 ra R1.length c4 R1.length rc R1 R1 W (HRD.out.no hf) (HRR.out.rd.no hf)
          rw [show decide (R1 = R1) = true by simp] at hSA
          have hUS := fun (W : World) (hf : Fr No w11 W) => used_calls q rq1 R1 s1 W (HC.out.tab.no hf)
          have hC1 := fun (W : World) => cost_calls x0 x1 W (by omega) (by omega)
          have hC2 := fun (W : World) => cost_ref_calls x0 x1 W (by omega) (by omega)
          obtain ⟨cx, hcx⟩ : ∃ v, costE (x0, x1) = v := ⟨_, rfl⟩
          obtain ⟨sx, hsx⟩ : ∃ v, sumE R1 = v := ⟨_, rfl⟩
          rw [hcx] at hC1 hC2
          rw [hsx] at hSM hUS
          have HQ := Lib.hid hQ; have HSM := Lib.hid hSM; have HSA := Lib.hid hSA; have HUS := Lib.hid hUS; have HC1 := Lib.hid hC1; have HC2 := Lib.hid hC2
          clear hQ hSM hSA hUS hC1 hC2 hcx hsx
          go_wp2_with fail
          go_region_held3 (fun w' => w'.cell? ⟨bf, 0, none⟩ = some (.string f0) ∧ w'.cell? ⟨bf, 1, none⟩ = some (.string f1) ∧ w'.cell? ⟨bg, 0, none⟩ = some (.string f0) ∧ w'.cell? ⟨bg, 1, none⟩ = some (.string f1) ∧ w'.cell? ⟨ob, 2, none⟩ = some (.string x0) ∧ w'.cell? ⟨ob, 3, none⟩ = some (.string x1) ∧ w'.cell? ⟨p, 0, none⟩ = some (.int .i64 s1) ∧ w'.cell? ⟨p, 1, none⟩ = some (.slice ra R1.length rc))
            (first
              | exact qD
              | exact qC
              | exact qB
              | exact qA
              | exact HQ.out _ ((Fr.refl No w11).drew)
              | go_keep)
            (first
              | (go_at_call 9; refine (size_calls q rq1 R1 s1 _ (HC.out.tab.no ((Fr.refl No w11).drew))).mono ?_; rintro e w' ⟨rfl, rfl⟩)
              | (go_at_call 10; refine (HUS.out _ ((Fr.refl No w11).drew)).mono ?_; rintro e w' ⟨rfl, rfl⟩)
              | (go_at_call 18; refine (HSM.out _ ((Fr.refl No w11).drew)).mono ?_; rintro e wA ⟨rfl, hfA'⟩; have hfA : Fr No w11 wA := ⟨hfA'.os, hfA'.tape, hfA'.output, hfA'.size, hfA'.block⟩; have qA := HQ.out _ hfA)
              | (go_at_call 19; refine (HSA.out _ hfA).mono ?_; rintro e wB ⟨rfl, mB, rfl⟩; have hfB : Fr No w11 (wA.drewN mB) := hfA.drewN mB; have qB := HQ.out _ hfB)
              | (go_at_call 20; refine (HC1.out _).mono ?_; rintro e wC ⟨rfl, hfC'⟩; have hfC : Fr No w11 wC := hfB.then_ hfC'; have qC := HQ.out _ hfC)
              | (go_at_call 21; refine (HC2.out _).mono ?_; rintro e wD ⟨rfl, hfD'⟩; have hfD : Fr No w11 wD := hfC.then_ hfD'; have qD := HQ.out _ hfD))
          have HFD := Lib.hid hfD
          clear qA qB qC qD hfA hfB hfC hfD hfA' hfC' hfD' e0 e1 e2 e3 p3 p4 d0 d1 HQ HSM HSA HUS HC1 HC2
          go_wp2
          go_roundg (n - (k + 1))
          case rel => exact ⟨k + 1, by omega, rfl, by go_num, s1, rq1, rp1, R1, L5, HC.out.no HFD.out, HCO1.out, by omega, hs2, hs3⟩
          case measure => omega
    · have : k = n := by omega
      subst this
      have hsm : ∀ e ∈ L, e.n ≤ 1073741824 := fun e he => by have := HC.out.small e he; omega
      have HSM := Lib.hid hsm
      clear hsm
      go_wp2_with fail
      refine (apart_calls B bk L wr HC.out.book (by have := HC.out.len; omega) HC.out.size HSM.out).mono ?_
      rintro e w' ⟨rfl, hb⟩
      go_wp2
      go_ret
      exact ⟨rfl, by rw [← HB.out]; exact HC.out.below.trans hb⟩
end Go.Proofs.Ytofdfmbbnchcoaa
