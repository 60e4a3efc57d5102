/- The table: Add. -/
import Derived.Test.YtofdfmbbnchcoaaTab9
namespace Go.Proofs.Ytofdfmbbnchcoaa
open Go.RowKit Go.Hp
set_option maxRecDepth 100000

def TAddQ (w : World) (q : Nat) (r : Option Nat) (l : List El) (size : Int) (x : El) (e : Ending) (w' : World) : Prop :=
  e = .returned (.tuple #[]) ∧ ∃ j r', IsFit l (size - costE x) j ∧ TAt w' q r' (addL l size x j) size ∧ TStep w q r w' r'

set_option maxHeartbeats 2000000 in
theorem add_table_calls (q : Nat) (r : Option Nat) (l : List El) (size : Int) (x0 x1 : ByteArray) (w : World) (h : TAt w q r l size) (hs : ∀ x ∈ l, costE x ≤ 1000) (hl : l.length ≤ 1000) (hc : costE (x0, x1) ≤ 1000) (hz : 0 ≤ size ∧ size ≤ 512) :
    Calls Try.prog 6 #[.pointer (some ⟨q, 0, none⟩), .agg #[.string x0, .string x1]] w (TAddQ w q r l size (x0, x1)) := by
  have hsz := size_of_cost hc
  have hcn := costE_nonneg (x0, x1)
  obtain ⟨cx, hcx⟩ : ∃ cx, costE (x0, x1) = cx := ⟨_, rfl⟩
  have HCX := Lib.hid hcx
  rw [hcx] at hc hcn
  have HT := Lib.hid (h.no ((Fr.refl No w).alloc (.cells #[.string x0, .string x1] 28)))
  have hqw : q < w.heap.size := by obtain ⟨a, c, hb, _⟩ := h; exact hb.lt
  have hrw0 : ∀ b, r = some b → b < w.heap.size := by obtain ⟨a, c, _, hr⟩ := h; exact hr.lt
  have HN := Lib.hid (Bk.new w [.string x0, .string x1] 28)
  have HF := Lib.hid ((Fr.refl No w).alloc (.cells #[.string x0, .string x1] 28))
  have HS := Lib.hid hs
  have b1 : IntKind.i64.wrap (size - cx) = size - cx := by rw [IntWalk.i64_in _ (by omega)]
  obtain ⟨G, hG⟩ : ∃ G, w.heap.size = G := ⟨_, rfl⟩
  have hGq : G ≠ q := by omega
  rw [hG] at HN
  have HRG := Lib.hid (fun e => by have := hrw0 G e; omega : r ≠ some G)
  clear h hs hcx hrw0
  go_enter Try.func6, Try.ntmps6
  go_wp2_with fail
  generalize w.alloc (.cells #[.string x0, .string x1] 28) = W at *
  have d0 : W.cell? ⟨G, 0, none⟩ = some (.string x0) := HN.out.cell 0
  have d1 : W.cell? ⟨G, 1, none⟩ = some (.string x1) := HN.out.cell 1
  have e1 : W.cell? ⟨q, 1, none⟩ = some (.int .i64 size) := by obtain ⟨a, c, hb, _⟩ := HT.out; exact hb.cell 1
  go_region_held3 (fun w' => w'.cell? ⟨q, 1, none⟩ = some (.int .i64 size) ∧ w'.cell? ⟨G, 0, none⟩ = some (.string x0) ∧ w'.cell? ⟨G, 1, none⟩ = some (.string x1))
    (first
      | go_keep
      | exact q1
      | exact q2)
    (first
      | (go_at_call 20; refine (cost_calls x0 x1 _ (by omega) (by omega)).mono ?_; rintro e w1 ⟨rfl, hf1'⟩; have hf1 : Fr No W w1 := ⟨hf1'.os, hf1'.tape, hf1'.output, hf1'.size, hf1'.block⟩; rw [HCX.out]; have ht1 := HT.out.no hf1; have q1 := (⟨by obtain ⟨a, c, hb, _⟩ := ht1; exact hb.cell 1, (HN.out.no hf1).cell 0, (HN.out.no hf1).cell 1⟩ : w1.cell? ⟨q, 1, none⟩ = some (.int .i64 size) ∧ w1.cell? ⟨G, 0, none⟩ = some (.string x0) ∧ w1.cell? ⟨G, 1, none⟩ = some (.string x1)))
      | (go_at_call 24; refine (shrink_calls q r l size (size - cx) w1 ht1 HS.out hl).mono ?_; rintro e w2 ⟨rfl, j, hfit, ht2, hf2⟩; have hb2 : Bk w2 G [.string x0, .string x1] 28 := (HN.out.no hf1).fr hf2 (fun h => hGq h); have q2 := (⟨by obtain ⟨a, c, hb, _⟩ := ht2; exact hb.cell 1, hb2.cell 0, hb2.cell 1⟩ : w2.cell? ⟨q, 1, none⟩ = some (.int .i64 size) ∧ w2.cell? ⟨G, 0, none⟩ = some (.string x0) ∧ w2.cell? ⟨G, 1, none⟩ = some (.string x1)))
      )
  all_goals
    have HF2 := Lib.hid (((HF.out.then_ hf1).mono (S' := fun b => b = q) (fun _ _ h => h.elim)).trans hf2 (fun _ _ h => h))
    have HFIT := Lib.hid hfit
    have hjl := hfit.1
    have HT2 := Lib.hid ht2
    have HB2 := Lib.hid hb2
    clear d0 d1 e1 q1 q2 hf1 hf1' hf2 hfit ht1 ht2 hb2
    have d0 : w2.cell? ⟨G, 0, none⟩ = some (.string x0) := HB2.out.cell 0
    have d1 : w2.cell? ⟨G, 1, none⟩ = some (.string x1) := HB2.out.cell 1
    obtain ⟨a, c, hb, hr⟩ := HT2.out
    have c0 : w2.cell? ⟨q, 1, none⟩ = some (.int .i64 size) := hb.cell 1
    obtain ⟨n, hn⟩ : ∃ n, (l.take j).length = n := ⟨_, rfl⟩
    have hnl : n ≤ 1000 := by rw [← hn, List.length_take]; omega
    have HLN := Lib.hid hn
    rw [hn] at hb hr
    have HB := Lib.hid hb
    have HR := Lib.hid hr
    clear hb hr hn
    by_cases hfits : cx ≤ size
    · go_wp2_with fail
      go_region_held3 (fun w' => w'.cell? ⟨q, 1, none⟩ = some (.int .i64 size) ∧ w'.cell? ⟨G, 0, none⟩ = some (.string x0) ∧ w'.cell? ⟨G, 1, none⟩ = some (.string x1))
        (first
          | go_keep
          | exact q1)
        (first
          | (go_at_call 20; refine (cost_calls x0 x1 _ (by omega) (by omega)).mono ?_; rintro e w3 ⟨rfl, hf3'⟩; have hf3 : Fr No w2 w3 := ⟨hf3'.os, hf3'.tape, hf3'.output, hf3'.size, hf3'.block⟩; rw [HCX.out]; have q1 := (⟨(HB.out.no hf3).cell 1, (HB2.out.no hf3).cell 0, (HB2.out.no hf3).cell 1⟩ : w3.cell? ⟨q, 1, none⟩ = some (.int .i64 size) ∧ w3.cell? ⟨G, 0, none⟩ = some (.string x0) ∧ w3.cell? ⟨G, 1, none⟩ = some (.string x1)))
          )
      all_goals
        have HF3 := Lib.hid (HF2.out.then_ hf3)
        have HB3 := Lib.hid (HB.out.no hf3)
        have HR3 := Lib.hid (HR.out.no hf3)
        have HG3 := Lib.hid (HB2.out.no hf3)
        have d2 : w3.cell? ⟨G, 0, none⟩ = some (.string x0) := q1.2.1
        have d3 : w3.cell? ⟨G, 1, none⟩ = some (.string x1) := q1.2.2
        have c3 : w3.cell? ⟨q, 0, none⟩ = some (.slice a n c) := HB3.out.cell 0
        have c3a : ∀ o, (w3.alloc o).cell? ⟨q, 0, none⟩ = some (.slice a n c) := fun o => (HB3.out.alloc o).cell 0
        have hrw : r ≠ some w3.heap.size := fun e => by have := HR3.out.lt _ e; omega
        have HI : Hid (Calls Try.prog 25 #[.slice a n c, .int .i64 0, .slice (some ⟨w3.heap.size, 0, none⟩) 1 1] (w3.drew.alloc (.cells #[.string x0, .string x1] 28)) (InsQ (w3.drew.alloc (.cells #[.string x0, .string x1] 28)) (n + 1) r ([.string x0, .string x1] ++ cells (l.take j)))) :=
          Lib.hid (insert_calls a n c w3.heap.size r (cells (l.take j)) [.string x0, .string x1] (w3.drew.alloc (.cells #[.string x0, .string x1] 28)) (HR3.out.drew.alloc _) (Bk.new w3.drew [.string x0, .string x1] 28) rfl hrw (cells_one _) (by simp [Value.oneCell']) (by omega))
        clear q1 hf3 hf3' d0 d1 c0 hrw
        go_wp2
        go_region_law (first
          | (go_simp; go_at_call 25; refine HI.out.mono ?_; rintro e w4 ⟨a4, c4, r4, rfl, hrow4, hrr4, hf4⟩; have hb4 : Bk w4 q [.slice a n c, .int .i64 size, .int .i64 (sumE (l.take j))] 56 := (HB3.out.no ((Fr.refl No w3).drew.alloc _)).fr hf4 (fun h => row_nebk HR3.out HB3.out (by decide) h.symm); have c4' : w4.cell? ⟨q, 0, none⟩ = some (.slice a n c) := hb4.cell 0; have f4 : w4.frozen? ⟨q, 0, none⟩ = false := hb4.frozen 0))
        all_goals
          have hbG : Bk w4 G [.string x0, .string x1] 28 := (HG3.out.no ((Fr.refl No w3).drew.alloc _)).fr hf4 (fun h => HRG.out h.symm)
          have hb5 := hb4.set 0 (.slice a4 (n + 1) c4)
          have hFq := (Fr.refl (fun b => b = q) w4).setCell (a := ⟨q, 0, none⟩) (.inl rfl) (.slice a4 (n + 1) c4)
          have hrow5 := hrow4.fr hFq (fun b hb h => by subst h; exact row_nebk hrow4 hb4 (by decide) hb)
          have hbG5 := hbG.fr hFq (fun h => hGq h)
          have HF5 := Lib.hid (((HF3.out.mono (S' := fun b => b = q ∨ some b = r) (fun _ _ h => .inl h)).trans ((((Fr.refl No w3).drew.alloc _).mono (S' := fun b => some b = r) (fun _ _ h => h.elim)).trans hf4 (fun _ _ h => h)) (fun _ _ h => .inr h)).trans hFq (fun _ _ h => .inl h))
          have hs3 := HF3.out.size
          have hrr : r4 = r ∨ ∃ b, r4 = some b ∧ w.heap.size ≤ b := by
            rcases hrr4 with e | ⟨b, e1, e2⟩
            · exact .inl e
            · exact .inr ⟨b, e1, Nat.le_trans (Nat.le_trans hs3 ((Fr.refl No w3).drew.alloc _).size) e2⟩
          have HRR := Lib.hid hrr
          generalize w4.setCell ⟨q, 0, none⟩ (.slice a4 (n + 1) c4) = W5 at *
          have HB5 := Lib.hid hb5
          have HG5 := Lib.hid hbG5
          have HW5 := Lib.hid hrow5
          clear hbG hb4 c4' f4 hFq hrow4 hrow5 hbG5 hb5 hrr hrr4 hf4 hs3 c3 c3a d2 d3
          have d0 : W5.cell? ⟨G, 0, none⟩ = some (.string x0) := HG5.out.cell 0
          have d1 : W5.cell? ⟨G, 1, none⟩ = some (.string x1) := HG5.out.cell 1
          have hsb := sumE_bound (l := l.take j) (fun x hx => HS.out x (List.mem_of_mem_take hx))
          rw [HLN.out] at hsb
          obtain ⟨sm, hsm⟩ : ∃ sm, sumE (l.take j) = sm := ⟨_, rfl⟩
          have HSM := Lib.hid hsm
          rw [hsm] at HB5 hsb
          have c2 : W5.cell? ⟨q, 2, none⟩ = some (.int .i64 sm) := HB5.out.cell 2
          have b7 : IntKind.i64.wrap (sm + cx) = sm + cx := by rw [IntWalk.i64_in _ (by omega)]
          clear hsb hsm
          go_wp2
          go_region_law (first
            | (go_simp; go_at_call 20; refine (cost_calls x0 x1 _ (by omega) (by omega)).mono ?_; rintro e w6 ⟨rfl, hf6'⟩; have hf6 : Fr No W5 w6 := ⟨hf6'.os, hf6'.tape, hf6'.output, hf6'.size, hf6'.block⟩; rw [HCX.out]; have q3 : w6.cell? ⟨q, 2, none⟩ = some (.int .i64 sm) := (HB5.out.no hf6).cell 2; have q4 : w6.frozen? ⟨q, 2, none⟩ = false := (HB5.out.no hf6).frozen 2))
          all_goals
            have hF7 := (Fr.refl (fun b => b = q) w6).setCell (a := ⟨q, 2, none⟩) (.inl rfl) (.int .i64 (sm + cx))
            have hb7 := (HB5.out.no hf6).set 2 (.int .i64 (sm + cx))
            have hrow7 := (HW5.out.no hf6).fr hF7 (fun b hb h => by subst h; exact row_nebk HW5.out HB5.out (by decide) hb)
            have hn7 : n + 1 = ((x0, x1) :: l.take j).length := by rw [List.length_cons, HLN.out]
            have hs7 : sm + cx = sumE ((x0, x1) :: l.take j) := by rw [← HSM.out, ← HCX.out]; simp [sumE]; omega
            have hadd : addL l size (x0, x1) j = (x0, x1) :: l.take j := by unfold addL; rw [HCX.out, if_pos hfits]
            have H7 : TAddQ w q r l size (x0, x1) (.returned (.tuple #[])) (w6.setCell ⟨q, 2, none⟩ (.int .i64 (sm + cx))) := by
              refine ⟨rfl, j, r4, by rw [HCX.out]; exact HFIT.out, ?_, HRR.out, (HF5.out.then_ hf6).trans hF7 (fun _ _ h => .inl h)⟩
              rw [hadd]
              exact ⟨a4, c4, by rw [← hn7, ← hs7]; exact hb7, by rw [← hn7]; exact hrow7⟩
            have HH := Lib.hid H7
            clear hF7 hb7 hrow7 hn7 hs7 hadd H7 q3 q4 hf6 hf6' d0 d1 c2
            go_wp2
            go_end0
            exact HH.out
    · have hfits2 : ¬ (cx ≤ size) := hfits
      go_wp2_with fail
      go_region_held3 (fun w' => w'.cell? ⟨q, 1, none⟩ = some (.int .i64 size) ∧ w'.cell? ⟨G, 0, none⟩ = some (.string x0) ∧ w'.cell? ⟨G, 1, none⟩ = some (.string x1))
        (first
          | go_keep
          | exact q1)
        (first
          | (go_at_call 20; refine (cost_calls x0 x1 _ (by omega) (by omega)).mono ?_; rintro e w3 ⟨rfl, hf3'⟩; have hf3 : Fr No w2 w3 := ⟨hf3'.os, hf3'.tape, hf3'.output, hf3'.size, hf3'.block⟩; rw [HCX.out]; have q1 := (⟨(HB.out.no hf3).cell 1, (HB2.out.no hf3).cell 0, (HB2.out.no hf3).cell 1⟩ : w3.cell? ⟨q, 1, none⟩ = some (.int .i64 size) ∧ w3.cell? ⟨G, 0, none⟩ = some (.string x0) ∧ w3.cell? ⟨G, 1, none⟩ = some (.string x1)))
          )
      all_goals
        have HF3 := Lib.hid (HF2.out.then_ hf3)
        have hadd : addL l size (x0, x1) j = l.take j := by unfold addL; rw [HCX.out, if_neg (by omega)]
        have H5 : TAddQ w q r l size (x0, x1) (.returned (.tuple #[])) w3 :=
          ⟨rfl, j, r, by rw [HCX.out]; exact HFIT.out, by rw [hadd]; exact HT2.out.no hf3, .inl rfl, HF3.out.mono (fun _ _ h => .inl h)⟩
        have HH := Lib.hid H5
        clear hadd H5 q1 hf3 hf3' d0 d1 c0
        go_wp2
        go_end0
        exact HH.out
end Go.Proofs.Ytofdfmbbnchcoaa
