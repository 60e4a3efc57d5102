/- QueuePlays: the walk. -/
import Derived.Test.YtonehdeoonjgbaaPlayState
import Derived.Deep.DeepCutAuto
import Derived.Deep.CutBlock
import Derived.Deep.RegionHeld3
namespace Go.Proofs.Ytonehdeoonjgbaa
open Go.RowKit Go.Hp
set_option maxRecDepth 100000

theorem play_many (most : Int) (a : Option Addr) (n c : Nat) (w : World) (hn : 120 < n) (hc : n ≤ 9223372036854775807) :
    Calls Try.prog 3 #[.int .i64 most, .slice a n c] w (AliveQ w) := by
  go_enter Try.func3, Try.ntmps3
  go_wp2_with fail
  refine (alive_calls w).mono ?_
  rintro e w' ⟨rfl, hb⟩
  go_wp2
  go_ret
  exact ⟨rfl, hb⟩

set_option maxHeartbeats 1000000 in
theorem play_none (most : Int) (a : Option Addr) (n c : Nat) (w : World) (hn : n ≤ 120) (hm : most < 1) :
    Calls Try.prog 3 #[.int .i64 most, .slice a n c] w (AliveQ w) := by
  go_enter Try.func3, Try.ntmps3
  go_wp2_with fail
  refine (alive_calls w).mono ?_
  rintro e w1 ⟨rfl, hb⟩
  go_wp2_with fail
  refine (new_none most w1 hm).mono ?_
  rintro e w' ⟨rfl, rfl⟩
  go_wp2_with fail
  refine (nil_first w1).mono ?_
  rintro e w' ⟨rfl, rfl⟩
  go_wp2_with fail
  refine (nil_put 1 w1).mono ?_
  rintro e w' ⟨rfl, rfl⟩
  go_wp2_with fail
  refine (nil_back 1 w1).mono ?_
  rintro e w' ⟨rfl, rfl⟩
  go_wp2_with fail
  refine (nil_cut 1 w1).mono ?_
  rintro e w' ⟨rfl, rfl⟩
  go_wp2_with fail
  refine (nil_place 1 w1).mono ?_
  rintro e w' ⟨rfl, rfl⟩
  go_wp2_with fail
  refine (nil_all w1).mono ?_
  rintro e w' ⟨rfl, rfl⟩
  go_wp2
  go_ret
  exact ⟨rfl, hb⟩

set_option maxHeartbeats 4000000 in
theorem play_calls (most : Int) (a : Option Addr) (n c : Nat) (ops : List (Int × Int)) (w : World) (hl : Rd w 2 a n c (opcells ops)) (hlt : ∀ b, abk a n = some b → b < w.heap.size) (hn : n ≤ 120) (hm : 1 ≤ most) :
    Calls Try.prog 3 #[.int .i64 most, .slice a n c] w (AliveQ w) := by
  have hon : ops.length = n := by have := hl.len; rw [opcells_len] at this; omega
  have hcap := hl.capLe; have hle := hl.le
  have HL := Lib.hid hl
  have HO := Lib.hid hon
  have HA := Lib.hid hlt
  clear hl hon hlt
  go_enter Try.func3, Try.ntmps3
  go_wp2_with fail
  refine (alive_calls w).mono ?_
  rintro e w1 ⟨rfl, hb1⟩
  go_wp2_with fail
  refine (new_calls most w1 hm).mono ?_
  rintro e w2 ⟨q, rfl, hq, hq2, hf2⟩
  have hsz1 := hb1.size
  have hsz2 := hf2.size
  obtain ⟨B, hB⟩ : ∃ B, B = w.heap.size := ⟨_, rfl⟩
  have hBw : B ≤ w.heap.size := by omega
  have hBw2 : B ≤ w2.heap.size := by omega
  have hqB : B ≤ q := by omega
  have hbel : Below B w w2 := (hb1.mono hBw).trans (hf2.below (by omega) (fun _ h => h.elim))
  have HB := Lib.hid hB
  have HBel := Lib.hid hbel
  clear hbel hB hb1 hf2 hq
  go_wp2_with fail
  obtain ⟨bk, hbk⟩ : ∃ bk, w2.heap.size = bk := ⟨_, rfl⟩
  rw [hbk]
  have hBbk : B ≤ bk := by omega
  have hst0 : St w B q bk most 0 0 (.slice none 0 0) (w2.alloc (.cells #[nil0, nil0, nil0, nil0, nil0, nil0, nil0, nil0, nil0, nil0] 41)) := by
    refine ⟨none, [], [], none, 0, rfl, ⟨hq2.no ((Fr.refl No w2).alloc _), ?_, rfl, (fun _ h => by cases h), (fun _ h => by cases h), (fun _ h => by cases h), HBel.out.trans (((Fr.refl No w2).alloc _).below hBw2 (fun _ h => h.elim)), hqB, by simp; omega⟩, ⟨none, Row.nil _ _ _, (fun _ h => by cases h)⟩, List.nodup_nil, Nat.le_refl _⟩
    refine ⟨none, 0, none, none, 0, none, hBbk, ?_, Row.nil _ _ _, Row.nil _ _ _, (fun _ h => by cases h), (fun _ h => by cases h), (fun _ h => by cases h), (fun _ h => by cases h), ⟨fun _ _ _ _ h => by simp at h, fun _ h => by cases h⟩⟩
    rw [← hbk]; exact Bk.new w2 _ _
  generalize w2.alloc (.cells #[nil0, nil0, nil0, nil0, nil0, nil0, nil0, nil0, nil0, nil0] 41) = w3 at *
  have HS := Lib.hid hst0
  clear hst0 hbk hq2 HBel hsz1 hsz2 hBw2
  go_loopg [9, 75] n (fun gg v i wr => ∃ k : Nat, k ≤ n ∧ gg = n - k ∧ i = .int .i64 k ∧ ∃ rq R L ra rc, v = .slice ra R.length rc ∧ Core w B q bk most k rq R L wr ∧ RowR wr rq ra rc R ∧ R.Nodup ∧ R.length ≤ k)
  case atStart => exact ⟨0, by omega, by omega, rfl, HS.out⟩
  case round =>
    obtain ⟨k, hk, rfl, rfl, rq, R, L, ra, rc, rfl, hcore, hrow, hnd, hlen⟩ := hrel
    have HC := Lib.hid hcore
    have HR := Lib.hid hrow
    have HN := Lib.hid hnd
    clear hnd
    by_cases hlt : k < n
    · obtain ⟨kd, hkd⟩ : ∃ kd, kd = (ops.getD k (0, 0)).1 := ⟨_, rfl⟩
      obtain ⟨id, hid⟩ : ∃ id, id = (ops.getD k (0, 0)).2 := ⟨_, rfl⟩
      obtain ⟨g1, g2⟩ := opcells_get ops k (by have := HO.out; omega)
      rw [← hkd] at g1
      rw [← hid] at g2
      clear hkd hid
      obtain ⟨g, off, ha, hga, hcc⟩ := HL.out.2.2.2.2 (by omega)
      subst ha
      have hgw : g < B := by rw [HB.out]; exact hga
      have o1 : wr.cell? ⟨g, off + k * 2, none⟩ = some (.int .i64 kd) := (hcore.below.cell (p := ⟨g, off + k * 2, none⟩) hgw).trans (hcc _ _ g1)
      have o2 : wr.cell? ⟨g, off + k * 2 + 1, none⟩ = some (.int .i64 id) := (hcore.below.cell (p := ⟨g, off + k * 2 + 1, none⟩) hgw).trans (hcc _ _ g2)
      clear g1 g2 hcc hcore hrow
      have b0 : (0 : Int) ≤ (k : Int) := by omega
      have b1 : (k : Int) < (n : Int) := by omega
      go_wp2_with fail
      obtain ⟨ob, hob⟩ : ∃ ob, wr.heap.size = ob := ⟨_, rfl⟩
      have hobk : Bk (wr.alloc (.cells #[.int .i64 kd, .int .i64 id] 43)) ob [.int .i64 kd, .int .i64 id] 43 := by rw [← hob]; exact Bk.new wr _ _
      have hC0 : Core w B q bk most k rq R L (wr.alloc (.cells #[.int .i64 kd, .int .i64 id] 43)) := HC.out.no ((Fr.refl No wr).alloc _)
      have hR0 : RowR (wr.alloc (.cells #[.int .i64 kd, .int .i64 id] 43)) rq ra rc R := HR.out.no ((Fr.refl No wr).alloc _)
      rw [hob]
      generalize wr.alloc (.cells #[.int .i64 kd, .int .i64 id] 43) = W0 at *
      have p1 : W0.cell? ⟨ob, 0, none⟩ = some (.int .i64 kd) := hobk.cell 0
      have p2 : W0.cell? ⟨ob, 1, none⟩ = some (.int .i64 id) := hobk.cell 1
      clear o1 o2 hob HC HR
      have HC := Lib.hid hC0
      have HR := Lib.hid hR0
      have HBO := Lib.hid hobk
      obtain ⟨rr0, hrow0, _⟩ := hR0
      have r1 := hrow0.le; have r2 := hrow0.capLe
      have hrd := hrow0.rd
      have HRD := Lib.hid hrd
      clear hrd hrow0 hC0 hobk
      go_loopg [13, 81] R.length (fun gj at_ i wi => ∃ j : Nat, j ≤ R.length ∧ gj = R.length - j ∧ i = .int .i64 j ∧ at_ = .int .i64 (idx (R.take j) id) ∧ wi = W0)
      case atStart => exact ⟨0, by omega, by omega, rfl, by simp [idx], rfl⟩
      case round =>
        obtain ⟨j, hj, rfl, rfl, rfl, rfl⟩ := hrel
        by_cases hjl : j < R.length
        · obtain ⟨g9, off9, rfl, hc9⟩ := HRD.out.cell (cells_get R j hjl)
          have b2 : (0 : Int) ≤ (j : Int) := by omega
          have b3 : (j : Int) < (R.length : Int) := by omega
          have hts : R.take (j + 1) = R.take j ++ [nth R j] := by
            rw [List.take_succ_eq_append_getElem hjl]; simp [nth, List.getD, List.getElem?_eq_getElem hjl]
          have hix : idx (R.take (j + 1)) id = if nth R j = id then (j : Int) else idx (R.take j) id := by
            rw [hts, idx_snoc (by rw [← hts]; exact HN.out.sublist (List.take_sublist _ _)), List.length_take, Nat.min_eq_left (by omega)]
          by_cases he : nth R j = id
          · have he' : (nth R j == id) = true := by simpa using he
            rw [if_pos he] at hix
            have HX := Lib.hid hix
            clear hix hts he
            go_wp2
            go_roundg (R.length - (j + 1))
            case rel => exact ⟨j + 1, by omega, rfl, by go_num, by rw [HX.out], rfl⟩
            case measure => omega
          · have he' : (nth R j == id) = false := by simpa using he
            rw [if_neg he] at hix
            have HX := Lib.hid hix
            clear hix hts he
            go_wp2
            go_roundg (R.length - (j + 1))
            case rel => exact ⟨j + 1, by omega, rfl, by go_num, by rw [HX.out], rfl⟩
            case measure => omega
        · have hjj : j = R.length := by omega
          subst hjj
          rw [List.take_length]
          go_upto_block 4 with fail
          go_cut [9, 13] (fun v _ wx => ∃ rq' R' ra' rc', v = .slice ra' R'.length rc' ∧ Core w B q bk most k rq' R' L wx ∧ RowR wx rq' ra' rc' R' ∧ R'.Nodup ∧ R'.length ≤ k + 1)
          case first =>
            have hM : ∀ (c : Int) wz, mayE R most id = c → QAt wz q rq R most → Calls Try.prog 7 #[.pointer (some ⟨q, 0, none⟩), .int .i64 id] wz (QDone wz q rq (if c = 0 then R ++ [id] else R) most (.int .i64 c)) := by
              intro c wz hc hq; rw [← hc]; exact put_queue_calls q rq R most id wz hq (by omega)
            have hMB : ∀ (c : Int) wz, mayE R most id = c → QAt wz q rq R most → Calls Try.prog 8 #[.pointer (some ⟨q, 0, none⟩), .int .i64 id] wz (QDone wz q rq (if c = 0 then id :: R else R) most (.int .i64 c)) := by
              intro c wz hc hq; rw [← hc]; exact back_calls q rq R most id wz hq (by omega)
            have HM := Lib.hid hM
            have HMB := Lib.hid hMB
            clear hM hMB
            by_cases h1 : kd = 1
            · subst h1
              by_cases hmem : id ∈ R
              · as_aux_lemma =>
                have hc1 : mayE R most id = 1 := by simp [mayE, hmem]
                obtain ⟨i, hi⟩ : ∃ i : Nat, idx R id = i := ⟨R.idxOf id, by simp [idx, hmem]⟩
                rw [hi]
                have HP := Lib.hid (HM.out 1 wr hc1 HC.out.queue)
                clear hc1 hi hmem HM HMB
                go_wp2_with fail
                refine HP.out.mono ?_
                intro e w' hD
                obtain ⟨rfl, rq', hC', hR', hB'⟩ := Core.done HC.out HR.out HBO.out hD
                have hC' : Core w B q bk most k rq' R L w' := hC'
                have p1' : w'.cell? ⟨ob, 0, none⟩ = some (.int .i64 1) := hB'.cell 0
                have HC' := Lib.hid hC'; have HR' := Lib.hid hR'
                clear hC' hR' hD hB' p1 p2
                go_wp2
                go_meet
                case rel => exact ⟨rq', R, ra, rc, rfl, HC'.out, HR'.out, HN.out, by omega⟩
              · have hidx := idx_none hmem
                rw [hidx]
                by_cases hfull : most ≤ R.length
                · as_aux_lemma =>
                  have hc1 : mayE R most id = 13 := by simp [mayE, hmem, hfull]
                  have HP := Lib.hid (HM.out 13 wr hc1 HC.out.queue)
                  clear hc1 hidx hmem HM HMB
                  go_wp2_with fail
                  refine HP.out.mono ?_
                  intro e w' hD
                  obtain ⟨rfl, rq', hC', hR', hB'⟩ := Core.done HC.out HR.out HBO.out hD
                  have hC' : Core w B q bk most k rq' R L w' := hC'
                  have p1' : w'.cell? ⟨ob, 0, none⟩ = some (.int .i64 1) := hB'.cell 0
                  have HC' := Lib.hid hC'; have HR' := Lib.hid hR'
                  clear hC' hR' hD hB' p1 p2
                  go_wp2
                  go_meet
                  case rel => exact ⟨rq', R, ra, rc, rfl, HC'.out, HR'.out, HN.out, by omega⟩
                · as_aux_lemma =>
                  have hc1 : mayE R most id = 0 := by simp [mayE, hmem, hfull]
                  have hfu : (R.length : Int) < most := by omega
                  have HP := Lib.hid (fun wz => HM.out 0 wz hc1)
                  have HND := Lib.hid (nodup_snoc HN.out hmem)
                  obtain ⟨i0, hi0, hz0, hz1, hz2⟩ := info_parts infoE
                  clear hc1 hidx hmem hfull HM HMB
                  go_wp2
                  go_region_held3 (fun w' => w'.cell? ⟨ob, 1, none⟩ = some (.int .i64 id))
                    (first
                      | go_keep
                      | exact HBO.out.cell 1
                      | exact q1
                      | exact q1a _
                      | exact q2)
                    (first
                      | (refine step_app (by rfl) (.const (.slice none 0 0)) (.tmp 114) 32 (by rfl) 3 i0 (.int .i64 0) 1 8 Try.underlying32 hi0 hz0 hz1 hz2 rfl none 0 0 (by rfl) none [] (Row.nil _ _ _) ra R.length rc (by rfl) (cells R) (by first | exact HRD.out | exact HRD.out.alloc _) (cells_one _) (by omega) (by omega) ?_; intro a3 c3 r3 w3 hA3; have hb3 : Bk w3 ob [.int .i64 1, .int .i64 id] 43 := (by first | exact HBO.out.no (App.fresh hA3 ((Fr.refl No wr).drew)).2.2 | exact HBO.out.no (App.fresh hA3 (((Fr.refl No wr).drew).alloc _)).2.2 | exact HBO.out.no (App.fresh hA3 (((Fr.refl No wr).alloc _).drew)).2.2); have q1 : w3.cell? ⟨ob, 1, none⟩ = some (.int .i64 id) := hb3.cell 1; have q1a : ∀ o, (w3.alloc o).cell? ⟨ob, 1, none⟩ = some (.int .i64 id) := fun o => (hb3.alloc o).cell 1)
                      | (refine step_app (by rfl) (.tmp 115) (.tmp 118) 32 (by rfl) 3 i0 (.int .i64 0) 1 8 Try.underlying32 hi0 hz0 hz1 hz2 rfl a3 (0 + R.length) c3 (by simp [Act.eval, Act.put]) r3 ([] ++ cells R) (hA3.1.alloc _) (some ⟨w3.heap.size, 0, none⟩) 1 1 (by simp [Act.eval, Act.put]) [.int .i64 id] (Row.one w3 3 1 [_] rfl).rd (by simp [Value.oneCell']) (by omega) (by omega) ?_; intro a4 c4 r4 w4 hA4; have hZ := app2 ((Fr.refl No wr).drew) hA3 ((Fr.refl No w3).alloc _) (by rw [Nat.zero_add] at hA4; exact hA4); have q2 : w4.cell? ⟨ob, 1, none⟩ = some (.int .i64 id) := (HBO.out.no hZ.2.2).cell 1)
                      | (refine step_app (by rfl) (.tmp 115) (.tmp 118) 32 (by rfl) 3 i0 (.int .i64 0) 1 8 Try.underlying32 hi0 hz0 hz1 hz2 rfl a3 (0 + R.length) c3 (by simp [Act.eval, Act.put]) r3 ([] ++ cells R) hA3.1 (some ⟨wr.heap.size, 0, none⟩) 1 1 (by simp [Act.eval, Act.put]) [.int .i64 id] ((Row.one wr.drew 3 1 [_] rfl).fr hA3.fr (fun _ _ h => by cases h)).rd (by simp [Value.oneCell']) (by omega) (by omega) ?_; intro a4 c4 r4 w4 hA4; have hZ := app2 (((Fr.refl No wr).drew).alloc _) hA3 (Fr.refl No w3) (by rw [Nat.zero_add] at hA4; exact hA4); have q2 : w4.cell? ⟨ob, 1, none⟩ = some (.int .i64 id) := (HBO.out.no hZ.2.2).cell 1))
                  all_goals
                    obtain ⟨hZ1, hZ2, hZ3⟩ := hZ
                    rw [List.nil_append, ← cells_snoc] at hZ1
                    have HC4 := Lib.hid (HC.out.no hZ3)
                    have HB4 := Lib.hid (HBO.out.no hZ3)
                    have HR4 := Lib.hid (RowR.fresh HC.out.queue hZ1 (by simp) hZ2)
                    have p1' : w4.cell? ⟨ob, 0, none⟩ = some (.int .i64 1) := HB4.out.cell 0
                    have p2' : w4.cell? ⟨ob, 1, none⟩ = some (.int .i64 id) := HB4.out.cell 1
                    clear hZ1 hZ2 hZ3 hA3 hA4 p1 p2 q1
                    go_wp2_with fail
                    refine (HP.out w4 HC4.out.queue).mono ?_
                    intro e w' hD
                    obtain ⟨rfl, rq', hC', hR', hB'⟩ := Core.done HC4.out HR4.out HB4.out hD
                    have hC' : Core w B q bk most k rq' (R ++ [id]) L w' := hC'
                    have HC' := Lib.hid hC'; have HR' := Lib.hid hR'
                    clear hC' hR' hD p1' p2'
                    have p1' : w'.cell? ⟨ob, 0, none⟩ = some (.int .i64 1) := hB'.cell 0
                    go_wp2
                    go_meet
                    case rel => exact ⟨rq', R ++ [id], a4, c4, by simp, HC'.out, HR'.out, HND.out, by simp; omega⟩
            · by_cases h2 : kd = 2
              · subst h2
                by_cases hmem : id ∈ R
                · as_aux_lemma =>
                  have hc1 : mayE R most id = 1 := by simp [mayE, hmem]
                  obtain ⟨i, hi⟩ : ∃ i : Nat, idx R id = i := ⟨R.idxOf id, by simp [idx, hmem]⟩
                  rw [hi]
                  have HP := Lib.hid (HMB.out 1 wr hc1 HC.out.queue)
                  clear hc1 hi hmem HM HMB
                  go_wp2_with fail
                  refine HP.out.mono ?_
                  intro e w' hD
                  obtain ⟨rfl, rq', hC', hR', hB'⟩ := Core.done HC.out HR.out HBO.out hD
                  have hC' : Core w B q bk most k rq' R L w' := hC'
                  have p1' : w'.cell? ⟨ob, 0, none⟩ = some (.int .i64 2) := hB'.cell 0
                  have HC' := Lib.hid hC'; have HR' := Lib.hid hR'
                  clear hC' hR' hD hB' p1 p2
                  go_wp2
                  go_meet
                  case rel => exact ⟨rq', R, ra, rc, rfl, HC'.out, HR'.out, HN.out, by omega⟩
                · have hidx := idx_none hmem
                  rw [hidx]
                  by_cases hfull : most ≤ R.length
                  · as_aux_lemma =>
                    have hc1 : mayE R most id = 13 := by simp [mayE, hmem, hfull]
                    have HP := Lib.hid (HMB.out 13 wr hc1 HC.out.queue)
                    clear hc1 hidx hmem HM HMB
                    go_wp2_with fail
                    refine HP.out.mono ?_
                    intro e w' hD
                    obtain ⟨rfl, rq', hC', hR', hB'⟩ := Core.done HC.out HR.out HBO.out hD
                    have hC' : Core w B q bk most k rq' R L w' := hC'
                    have p1' : w'.cell? ⟨ob, 0, none⟩ = some (.int .i64 2) := hB'.cell 0
                    have HC' := Lib.hid hC'; have HR' := Lib.hid hR'
                    clear hC' hR' hD hB' p1 p2
                    go_wp2
                    go_meet
                    case rel => exact ⟨rq', R, ra, rc, rfl, HC'.out, HR'.out, HN.out, by omega⟩
                  · as_aux_lemma =>
                    have hc1 : mayE R most id = 0 := by simp [mayE, hmem, hfull]
                    have hfu : (R.length : Int) < most := by omega
                    have HP := Lib.hid (fun wz => HMB.out 0 wz hc1)
                    have HND := Lib.hid (List.nodup_cons.2 ⟨hmem, HN.out⟩)
                    obtain ⟨i0, hi0, hz0, hz1, hz2⟩ := info_parts infoE
                    clear hc1 hidx hmem hfull HM HMB
                    go_wp2_with (at_builtin; refine wpList_app _ rfl (.tmp 99) (.tmp 100) 32 rfl 3 i0 (.int .i64 0) 1 8 Try.underlying32 hi0 hz0 hz1 hz2 rfl (some ⟨_, 0, none⟩) 1 1 rfl (some _) [.int .i64 id] (Row.one wr 3 1 [_] rfl) ra R.length rc rfl (cells R) (HRD.out.alloc _) (cells_one _) (by omega) (by omega) ?hb2)
                    intro a4 c4 r4 w4 hA4
                    obtain ⟨hZ2, hZ3⟩ := app_one (cs := [.int .i64 id]) hA4
                    have hZ1 : Row w4 3 1 a4 (1 + R.length) c4 r4 (cells (id :: R)) := hA4.1
                    have HC4 := Lib.hid (HC.out.no hZ3)
                    have HB4 := Lib.hid (HBO.out.no hZ3)
                    have HR4 := Lib.hid (RowR.fresh HC.out.queue hZ1 (by simp; omega) hZ2)
                    have p1' : w4.cell? ⟨ob, 0, none⟩ = some (.int .i64 2) := HB4.out.cell 0
                    have p2' : w4.cell? ⟨ob, 1, none⟩ = some (.int .i64 id) := HB4.out.cell 1
                    clear hZ1 hZ2 hZ3 hA4 p1 p2
                    go_wp2_with fail
                    refine (HP.out w4 HC4.out.queue).mono ?_
                    intro e w' hD
                    obtain ⟨rfl, rq', hC', hR', hB'⟩ := Core.done HC4.out HR4.out HB4.out hD
                    have hC' : Core w B q bk most k rq' (id :: R) L w' := hC'
                    have HC' := Lib.hid hC'; have HR' := Lib.hid hR'
                    clear hC' hR' hD p1' p2'
                    have p1' : w'.cell? ⟨ob, 0, none⟩ = some (.int .i64 2) := hB'.cell 0
                    go_wp2
                    go_meet
                    case rel => exact ⟨rq', id :: R, a4, c4, by simp; omega, HC'.out, HR'.out, HND.out, by simp; omega⟩
              · by_cases h3 : kd = 3
                · subst h3
                  rcases R with _ | ⟨x, t⟩
                  · as_aux_lemma =>
                    go_wp2_with fail
                    refine (first_none q rq most wr HC.out.queue).mono ?_
                    intro e w' hD
                    obtain ⟨rfl, rq', hC', hR', hB'⟩ := Core.done HC.out HR.out HBO.out hD
                    have HC' := Lib.hid hC'; have HR' := Lib.hid hR'
                    clear hC' hR' hD hB' p1 p2
                    go_wp2
                    go_meet
                    case rel => exact ⟨rq', [], ra, rc, rfl, HC'.out, HR'.out, HN.out, by simp⟩
                  · as_aux_lemma =>
                    rw [List.length_cons]
                    rw [List.length_cons] at hlen r1
                    have HNT := Lib.hid (List.nodup_cons.1 HN.out).2
                    go_wp2_with fail
                    refine (first_some q rq x t most wr HC.out.queue).mono ?_
                    intro e w' hD
                    obtain ⟨rfl, rq', hC', hR', hB'⟩ := Core.done HC.out HR.out HBO.out hD
                    obtain ⟨rr, hr, _⟩ := hR'
                    obtain ⟨g5, off5, rfl, hx⟩ := hr.rd.cell (j := 0) (u := .int .i64 x) rfl
                    have hx : w'.cell? ⟨g5, off5, none⟩ = some (.int .i64 x) := hx
                    have HC' := Lib.hid hC'
                    have HRR := Lib.hid hr
                    clear hC' hr hD hB' p1 p2
                    obtain ⟨i0, hi0, hz0, hz1, hz2⟩ := info_parts infoE
                    by_cases hrc : rc = 1
                    · subst hrc
                      obtain rfl : t = [] := List.eq_nil_of_length_eq_zero (by omega)
                      go_wp2_with (at_builtin; refine wpList_app _ rfl (.const (.slice none 0 0)) (.tmp 176) 32 rfl 3 i0 (.int .i64 0) 1 8 Try.underlying32 hi0 hz0 hz1 hz2 rfl none 0 0 rfl none [] (Row.nil _ _ _) (some ⟨g5, off5, none⟩) 0 0 rfl [] (Rd.zero _ _) (by simp) (by omega) (by omega) ?hb3)
                      intro a4 c4 r4 w4 hA4
                      obtain ⟨hZ1, hZ2, hZ3⟩ := App.fresh hA4 (Fr.refl No w')
                      have HC4 := Lib.hid (HC'.out.no hZ3)
                      have HR4 := Lib.hid (RowR.fresh (R' := []) HC'.out.queue hZ1 rfl hZ2)
                      clear hZ1 hZ2 hZ3 hA4
                      go_wp2
                      go_meet
                      case rel => exact ⟨rq', [], a4, c4, by simp, HC4.out, HR4.out, HNT.out, by omega⟩
                    · have hrc2 : ¬ (rc = 1) := hrc
                      have hrt : Rd w' 1 (some ⟨g5, off5 + 1, none⟩) t.length (rc - 1) (cells t) := Rd.from_ (n := t.length + 1) (i := 1) HRR.out.rd (by omega)
                      have HRT := Lib.hid hrt
                      go_wp2_with (at_builtin; refine wpList_app _ rfl (.const (.slice none 0 0)) (.tmp 176) 32 rfl 3 i0 (.int .i64 0) 1 8 Try.underlying32 hi0 hz0 hz1 hz2 rfl none 0 0 rfl none [] (Row.nil _ _ _) (some ⟨g5, off5 + 1, none⟩) t.length (rc - 1) rfl (cells t) HRT.out (cells_one _) (by omega) (by omega) ?hb4)
                      intro a4 c4 r4 w4 hA4
                      obtain ⟨hZ1, hZ2, hZ3⟩ := App.fresh hA4 (Fr.refl No w')
                      have HC4 := Lib.hid (HC'.out.no hZ3)
                      have HR4 := Lib.hid (RowR.fresh (R' := t) HC'.out.queue hZ1 rfl hZ2)
                      clear hZ1 hZ2 hZ3 hA4
                      go_wp2
                      go_meet
                      case rel => exact ⟨rq', t, a4, c4, by simp, HC4.out, HR4.out, HNT.out, by omega⟩
                · by_cases h4 : kd = 4
                  · subst h4
                    by_cases hmem : id ∈ R
                    · as_aux_lemma =>
                      obtain ⟨i, hi⟩ : ∃ i : Nat, idx R id = i := ⟨R.idxOf id, by simp [idx, hmem]⟩
                      have hil := (idx_lt R id).2
                      rw [hi] at hil
                      rw [hi]
                      have HP := Lib.hid (cut_some q rq R most id i wr HC.out.queue hi (by omega))
                      have HNT := Lib.hid (nodup_cut (i := i) HN.out)
                      clear hi hmem
                      go_wp2_with fail
                      refine HP.out.mono ?_
                      intro e w' hD
                      obtain ⟨rfl, rq', hC', hR', hB'⟩ := Core.done HC.out HR.out HBO.out hD
                      obtain ⟨rr, hr, _⟩ := hR'
                      obtain ⟨g5, off5, rfl, _⟩ := hr.rd.cell (cells_get R i (by omega))
                      generalize hl : R.length = l at *
                      have HLN := Lib.hid hl
                      have HC' := Lib.hid hC'
                      have HRR := Lib.hid hr
                      clear hC' hr hD hB' p1 p2 HL HA hl
                      obtain ⟨i0, hi0, hz0, hz1, hz2⟩ := info_parts infoE
                      have u0 : (0 : Int) ≤ (i : Int) := by omega
                      have u1 : (i : Int) ≤ (l : Int) := by omega
                      have u2 : (i : Int) ≤ (rc : Int) := by omega
                      have u3 : IntKind.i64.wrap ((i : Int) + 1) = (i : Int) + 1 := by apply IntWalk.i64_in <;> omega
                      have u4 : (0 : Int) ≤ (i : Int) + 1 := by omega
                      have u5 : (i : Int) + 1 ≤ (l : Int) := by omega
                      have u6 : (i : Int) + 1 ≤ (rc : Int) := by omega
                      have u7 : ((i : Int) + 1).toNat = i + 1 := by omega
                      have hT1 : Rd w' 1 (some ⟨g5, off5, none⟩) i rc ((cells R).take i) := Rd.cutTo HRR.out.rd (by omega)
                      have HT1 := Lib.hid hT1
                      have HT1c := Lib.hid (fun u hu => cells_one R u (List.mem_of_mem_take hu) : ∀ u ∈ (cells R).take i, u.oneCell' = true)
                      have HCE := Lib.hid (by simp [cells, List.map_take, List.map_drop] : (cells R).take i ++ (cells R).drop (i + 1) = cells (R.take i ++ R.drop (i + 1)))
                      have hll : i + (l - (i + 1)) = (R.take i ++ R.drop (i + 1)).length := by have := HLN.out; rw [List.length_append, List.length_take, List.length_drop]; omega
                      clear hT1
                      by_cases hrc : rc = i + 1
                      · subst hrc
                        obtain rfl : l = i + 1 := by omega
                        have v1 : (i : Int) ≤ (i : Int) + 1 := by omega
                        have HLL := Lib.hid (by simpa using hll : i + 0 = (R.take i ++ R.drop (i + 1)).length)
                        have HCD := Lib.hid (by have := HLN.out; rw [List.drop_of_length_le (by rw [cells_len]; omega)] : (cells R).drop (i + 1) = [])
                        rw [HCD.out] at HCE
                        clear hll
                        go_wp2
                        go_region_held3 (fun _ => True)
                          (trivial)
                          (first
                            | (refine step_app (by rfl) (.const (.slice none 0 0)) (.tmp 191) 32 (by rfl) 3 i0 (.int .i64 0) 1 8 Try.underlying32 hi0 hz0 hz1 hz2 rfl none 0 0 (by rfl) none [] (Row.nil _ _ _) (some ⟨g5, off5, none⟩) i (i + 1) (by simp [Act.eval]) ((cells R).take i) HT1.out HT1c.out (by omega) (by omega) ?_; intro a3 c3 r3 w3 hA3; have hf3 := (App.fresh hA3 ((Fr.refl No w').drew)).2.2)
                            | (refine step_app (by rfl) (.tmp 192) (.tmp 196) 32 (by rfl) 3 i0 (.int .i64 0) 1 8 Try.underlying32 hi0 hz0 hz1 hz2 rfl a3 (0 + i) c3 (by simp [Act.eval]) r3 ([] ++ (cells R).take i) hA3.1 (some ⟨g5, off5, none⟩) 0 0 (by simp [Act.eval]) [] (Rd.zero _ _) (by simp) (by omega) (by omega) ?_; intro a4 c4 r4 w4 hA4))
                        have hZ := app2 ((Fr.refl No w').drew) hA3 (Fr.refl No w3) (by rw [Nat.zero_add] at hA4; exact hA4)
                        obtain ⟨hZ1, hZ2, hZ3⟩ := hZ
                        have hZ1 : Row w4 3 1 a4 (i + 0) c4 r4 (cells (R.take i ++ R.drop (i + 1))) := by
                          rw [← HCE.out]; exact hZ1
                        have HC4 := Lib.hid (HC'.out.no hZ3)
                        have HR4 := Lib.hid (RowR.fresh HC'.out.queue hZ1 HLL.out hZ2)
                        clear hZ1 hZ2 hZ3 hA3 hA4
                        go_wp2
                        go_meet
                        case rel => exact ⟨rq', R.take i ++ R.drop (i + 1), a4, c4, (by rw [← HLL.out]; try rfl), HC4.out, HR4.out, HNT.out, by rw [← HLL.out]; omega⟩
                      · have hrc2 : ¬ (rc = i + 1) := hrc
                        have HLL := Lib.hid hll
                        have HT2 := Lib.hid (Rd.from_ (i := i + 1) HRR.out.rd (by omega))
                        have HT2c := Lib.hid (fun u hu => cells_one R u (List.mem_of_mem_drop hu) : ∀ u ∈ (cells R).drop (i + 1), u.oneCell' = true)
                        clear hll
                        go_wp2
                        go_region_held3 (fun _ => True)
                          (trivial)
                          (first
                            | (refine step_app (by rfl) (.const (.slice none 0 0)) (.tmp 191) 32 (by rfl) 3 i0 (.int .i64 0) 1 8 Try.underlying32 hi0 hz0 hz1 hz2 rfl none 0 0 (by rfl) none [] (Row.nil _ _ _) (some ⟨g5, off5, none⟩) i rc (by simp [Act.eval]) ((cells R).take i) HT1.out HT1c.out (by omega) (by omega) ?_; intro a3 c3 r3 w3 hA3; have hf3 := (App.fresh hA3 ((Fr.refl No w').drew)).2.2)
                            | (refine step_app (by rfl) (.tmp 192) (.tmp 196) 32 (by rfl) 3 i0 (.int .i64 0) 1 8 Try.underlying32 hi0 hz0 hz1 hz2 rfl a3 (0 + i) c3 (by simp [Act.eval]) r3 ([] ++ (cells R).take i) hA3.1 (some ⟨g5, off5 + (i + 1), none⟩) (l - (i + 1)) (rc - (i + 1)) (by simp [Act.eval]) ((cells R).drop (i + 1)) (HT2.out.no hf3) HT2c.out (by omega) (by omega) ?_; intro a4 c4 r4 w4 hA4))
                        have hZ := app2 ((Fr.refl No w').drew) hA3 (Fr.refl No w3) (by rw [Nat.zero_add] at hA4; exact hA4)
                        obtain ⟨hZ1, hZ2, hZ3⟩ := hZ
                        have hZ1 : Row w4 3 1 a4 (i + (l - (i + 1))) c4 r4 (cells (R.take i ++ R.drop (i + 1))) := by
                          rw [← HCE.out]; exact hZ1
                        have HC4 := Lib.hid (HC'.out.no hZ3)
                        have HR4 := Lib.hid (RowR.fresh HC'.out.queue hZ1 HLL.out hZ2)
                        clear hZ1 hZ2 hZ3 hA3 hA4
                        go_wp2
                        go_meet
                        case rel => exact ⟨rq', R.take i ++ R.drop (i + 1), a4, c4, (by rw [← HLL.out]; try rfl), HC4.out, HR4.out, HNT.out, by rw [← HLL.out]; omega⟩
                    · as_aux_lemma =>
                      have hidx := idx_none hmem
                      rw [hidx]
                      have HP := Lib.hid (cut_none q rq R most id wr HC.out.queue hmem)
                      clear hidx hmem
                      go_wp2_with fail
                      refine HP.out.mono ?_
                      intro e w' hD
                      obtain ⟨rfl, rq', hC', hR', hB'⟩ := Core.done HC.out HR.out HBO.out hD
                      have HC' := Lib.hid hC'; have HR' := Lib.hid hR'
                      clear hC' hR' hD hB' p1 p2
                      go_wp2
                      go_meet
                      case rel => exact ⟨rq', R, ra, rc, rfl, HC'.out, HR'.out, HN.out, by omega⟩
                  · by_cases h5 : kd = 5
                    · as_aux_lemma =>
                      subst h5
                      have HP := Lib.hid (place_calls q rq R most id wr HC.out.queue)
                      obtain ⟨i, hi⟩ : ∃ i, idx R id = i := ⟨_, rfl⟩
                      rw [hi] at HP
                      rw [hi]
                      clear hi
                      go_wp2_with fail
                      refine HP.out.mono ?_
                      rintro e w' ⟨rfl, rfl⟩
                      go_wp2
                      go_meet
                      case rel => exact ⟨rq, R, ra, rc, rfl, HC.out, HR.out, HN.out, by omega⟩
                    · as_aux_lemma =>
                      have k1 : (kd == 1) = false := by simpa using h1
                      have k2 : (kd == 2) = false := by simpa using h2
                      have k3 : (kd == 3) = false := by simpa using h3
                      have k4 : (kd == 4) = false := by simpa using h4
                      have k5 : (kd == 5) = false := by simpa using h5
                      go_wp2
                      go_meet
                      case rel => exact ⟨rq, R, ra, rc, rfl, HC.out, HR.out, HN.out, by omega⟩
          case rest =>
            as_aux_lemma =>
            obtain ⟨rq1, R1, ra1, rc1, rfl, hC1, hR1, hN1, hl1⟩ := hcut
            have HC1 := Lib.hid hC1
            have HR1 := Lib.hid hR1
            have HN1 := Lib.hid hN1
            clear hC1 hR1 hN1 HC HR HN HBO HRD p1 p2
            go_wp2_with fail
            refine (all_calls q rq1 R1 most wc HC1.out.queue (by omega)).mono ?_
            rintro e w4 ⟨a4, c4, r4, rfl, hrow4, hb4, hf4⟩
            have HC4 := Lib.hid (HC1.out.no hf4)
            have HR4 := Lib.hid (HR1.out.no hf4)
            have HRW4 := Lib.hid hrow4
            have hfresh : ∀ e ∈ L, ∀ b, r4 = some b → e.r ≠ some b ∧ e.wr ≠ some b := by
              intro e he b hb
              have hbb := hb4 b hb
              obtain ⟨_, _, _, _, _, _, _, _, _, _, _, _, _, hE, _⟩ := HC1.out.book
              exact ⟨fun h1 => by have := (hE e he).1.lt b h1; omega, fun h1 => by have := (hE e he).2.1.lt b h1; omega⟩
            have hrq4 : ∀ b, rq1 = some b → r4 ≠ some b := by
              intro b hb hb'
              have := hb4 b hb'
              obtain ⟨_, _, _, hqr⟩ := HC1.out.queue
              have := hqr.lt b hb; omega
            have hr4B : ∀ b, r4 = some b → B ≤ b := fun b hb => Nat.le_trans HC1.out.size (hb4 b hb)
            have HF4 := Lib.hid hfresh
            have HQ4 := Lib.hid hrq4
            have HB4 := Lib.hid hr4B
            clear hfresh hrq4 hr4B hb4 hrow4 hf4
            go_wp2_with fail
            refine (add_calls B bk L a4 R1.length c4 r4 R1 w4 HC4.out.book (by have := HC1.out.len; omega) HRW4.out HB4.out HF4.out HC4.out.size (by omega)).mono ?_
            rintro e w5 hA5
            have he5 := hA5.1
            subst he5
            obtain ⟨L5, hC5⟩ := HC4.out.add hA5 HQ4.out (by omega)
            have HC5 := Lib.hid hC5
            have HR5 := Lib.hid (HR4.out.add hA5)
            have hrow5 : Row w5 3 1 a4 R1.length c4 r4 (cells R1) := by
              obtain ⟨_, _, _, _, _, _, hF⟩ := hA5
              exact HRW4.out.fr hF (row_nbs HRW4.out)
            have HRW5 := Lib.hid hrow5.rd
            obtain ⟨rr5, hr5, _⟩ := HR5.out
            have HRD5 := Lib.hid hr5.rd
            clear hA5 hC5 hrow5 hr5
            go_wp2_with fail
            refine (same_true a4 ra1 R1.length c4 rc1 R1 w5 HRW5.out HRD5.out).mono ?_
            rintro e w6 ⟨rfl, m6, rfl⟩
            go_wp2
            go_roundg (n - (k + 1))
            case rel => exact ⟨k + 1, by omega, rfl, by go_num, rq1, R1, L5, ra1, rc1, rfl, HC5.out.no ((Fr.refl No w5).drewN m6), HR5.out.no ((Fr.refl No w5).drewN m6), HN1.out, hl1⟩
            case measure => omega
    · have : k = n := by omega
      subst this
      have hsm : ∀ e ∈ L, e.n ≤ 1073741824 := fun e he => by have := HC.out.small e he; omega
      have HSM := Lib.hid hsm
      clear hsm
      go_wp2_with fail
      refine (apart_calls B bk L wr HC.out.book (by have := HC.out.len; omega) HC.out.size HSM.out).mono ?_
      rintro e w' ⟨rfl, hb⟩
      go_wp2
      go_ret
      exact ⟨rfl, by rw [← HB.out]; exact HC.out.below.trans hb⟩
end Go.Proofs.Ytonehdeoonjgbaa
