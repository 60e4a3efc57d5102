/- The document's table: Add. -/
import Derived.Test.YtofdfmbbnchcoaaTab8
namespace Go.Proofs.Ytofdfmbbnchcoaa
open Go.RowKit Go.Hp
set_option maxRecDepth 100000

/-- An append to one new row. -/
theorem app_first {W w' : World} {e z m c' : Nat} {a' : Option Addr} {r' : Option Nat} {cs cs' : List Value} (hA : App (W.alloc (.cells cs.toArray e)) e z (some ⟨W.heap.size, 0, none⟩) 1 1 (some W.heap.size) m cs' a' c' r' w') :
    (∀ k, r' = some k → W.heap.size ≤ k) ∧ Fr No W w' := by
  have h1 : Fr No W (W.alloc (.cells cs.toArray e)) := (Fr.refl No W).alloc _
  refine ⟨fun k hk => ?_, h1.trans hA.fr (fun k hk h => by injection h with h; omega)⟩
  rcases hA.rr with e | ⟨e, _⟩
  · rw [e] at hk; injection hk with hk; omega
  · rw [e] at hk; injection hk with hk; have := h1.size; omega

/-- A field more, where there is room. -/
def addL (l : List El) (size : Int) (x : El) (j : Nat) : List El := if costE x ≤ size then x :: l.take j else l.take j
def RAddQ (w : World) (q : Nat) (r : Option Nat) (l : List El) (size : Int) (x : El) (e : Ending) (w' : World) : Prop :=
  e = .returned (.tuple #[]) ∧ ∃ j r', IsFit l (size - costE x) j ∧ RAt w' q r' (addL l size x j) size ∧ TStep w q r w' r'

set_option maxHeartbeats 2000000 in
theorem radd_calls (q : Nat) (r : Option Nat) (l : List El) (size : Int) (x0 x1 : ByteArray) (w : World) (h : RAt w q r l size) (hs : ∀ x ∈ l, costE x ≤ 1000) (hl : l.length ≤ 1000) (hc : costE (x0, x1) ≤ 1000) :
    Calls Try.prog 12 #[.pointer (some ⟨q, 0, none⟩), .agg #[.string x0, .string x1]] w (RAddQ w q r l size (x0, x1)) := by
  have hsz := size_of_cost hc
  have hcn := costE_nonneg (x0, x1)
  obtain ⟨cx, hcx⟩ : ∃ cx, costE (x0, x1) = cx := ⟨_, rfl⟩
  have HCX := Lib.hid hcx
  rw [hcx] at hc hcn
  have HT := Lib.hid (h.no ((Fr.refl No w).alloc (.cells #[.string x0, .string x1] 28)))
  have hqw : q < w.heap.size := by obtain ⟨a, c, hb, _⟩ := h; exact hb.lt
  have HN := Lib.hid (Bk.new w [.string x0, .string x1] 28)
  have HF := Lib.hid ((Fr.refl No w).alloc (.cells #[.string x0, .string x1] 28))
  have HS := Lib.hid hs
  obtain ⟨i0, hi0, hz0, hz1, hz2⟩ := info_parts infoE
  obtain ⟨G, hG⟩ : ∃ G, w.heap.size = G := ⟨_, rfl⟩
  have hGq : G ≠ q := by omega
  rw [hG] at HN
  clear h hs hcx
  go_enter Try.func12, Try.ntmps12
  go_wp2_with fail
  generalize w.alloc (.cells #[.string x0, .string x1] 28) = W at *
  have d0 : W.cell? ⟨G, 0, none⟩ = some (.string x0) := HN.out.cell 0
  have d1 : W.cell? ⟨G, 1, none⟩ = some (.string x1) := HN.out.cell 1
  go_wp2_with fail
  refine (cost_ref_calls x0 x1 W (by omega) (by omega)).mono ?_
  rintro e w1 ⟨rfl, hf1⟩
  rw [HCX.out]
  go_wp2_with fail
  refine (rshrink_calls q r l size cx w1 (HT.out.no hf1) HS.out hl hcn (by omega)).mono ?_
  rintro e w2 ⟨rfl, j, hfit, ht2, hf2⟩
  have hb2 : Bk w2 G [.string x0, .string x1] 28 := (HN.out.no hf1).fr hf2 (fun h => hGq h)
  have HF2 := Lib.hid (((HF.out.then_ hf1).mono (S' := fun b => b = q) (fun _ _ h => h.elim)).trans hf2 (fun _ _ h => h))
  have HFIT := Lib.hid hfit
  have hjl := hfit.1
  have HT2 := Lib.hid ht2
  have HB2 := Lib.hid hb2
  clear d0 d1 hf1 hf2 hfit ht2 hb2
  have d0 : w2.cell? ⟨G, 0, none⟩ = some (.string x0) := HB2.out.cell 0
  have d1 : w2.cell? ⟨G, 1, none⟩ = some (.string x1) := HB2.out.cell 1
  obtain ⟨a, c, hb, hr⟩ := HT2.out
  have c0 : w2.cell? ⟨q, 0, none⟩ = some (.int .i64 size) := hb.cell 0
  obtain ⟨n, hn⟩ : ∃ n, (l.take j).length = n := ⟨_, rfl⟩
  have hnl : n ≤ 1000 := by rw [← hn, List.length_take]; omega
  have HLN := Lib.hid hn
  rw [hn] at hb hr
  have HB := Lib.hid hb
  have HR := Lib.hid hr
  clear hb hr hn
  by_cases hfits : cx ≤ size
  · go_wp2_with fail
    go_region_held3 (fun w' => w'.cell? ⟨q, 0, none⟩ = some (.int .i64 size) ∧ w'.cell? ⟨G, 0, none⟩ = some (.string x0) ∧ w'.cell? ⟨G, 1, none⟩ = some (.string x1))
      (first
        | go_keep
        | exact q1)
      (first
        | (go_at_call 21; refine (cost_ref_calls x0 x1 _ (by omega) (by omega)).mono ?_; rintro e w3 ⟨rfl, hf3'⟩; have hf3 : Fr No w2 w3 := ⟨hf3'.os, hf3'.tape, hf3'.output, hf3'.size, hf3'.block⟩; rw [HCX.out]; have q1 := (⟨(HB.out.no hf3).cell 0, (HB2.out.no hf3).cell 0, (HB2.out.no hf3).cell 1⟩ : w3.cell? ⟨q, 0, none⟩ = some (.int .i64 size) ∧ w3.cell? ⟨G, 0, none⟩ = some (.string x0) ∧ w3.cell? ⟨G, 1, none⟩ = some (.string x1)))
        )
    all_goals
      have HF3 := Lib.hid (HF2.out.then_ hf3)
      have HB3 := Lib.hid (HB.out.no hf3)
      have HR3 := Lib.hid (HR.out.no hf3)
      have d2 : w3.cell? ⟨G, 0, none⟩ = some (.string x0) := q1.2.1
      have d3 : w3.cell? ⟨G, 1, none⟩ = some (.string x1) := q1.2.2
      have c3 : w3.cell? ⟨q, 1, none⟩ = some (.slice a n c) := HB3.out.cell 1
      have c3a : ∀ o, (w3.alloc o).cell? ⟨q, 1, none⟩ = some (.slice a n c) := fun o => (HB3.out.alloc o).cell 1
      have HRW : Hid (Row (w3.drew.alloc (.cells #[.string x0, .string x1] 28)) 28 2 (some ⟨w3.heap.size, 0, none⟩) 1 1 (some w3.heap.size) [.string x0, .string x1]) := Lib.hid (Row.one w3.drew 28 2 [.string x0, .string x1] rfl)
      have HRK : Hid (Rd (w3.drew.alloc (.cells #[.string x0, .string x1] 28)) 2 a n c (cells (l.take j))) := Lib.hid (HR3.out.rd.drew.alloc _)
      clear q1 hf3 hf3' d0 d1 c0
      go_wp2
      go_region_law (first
        | (refine step_app (by rfl) (.tmp 17) (.tmp 21) 33 (by rfl) 28 i0 (.agg #[.string ⟨#[]⟩, .string ⟨#[]⟩]) 2 32 Try.underlying33 hi0 hz0 hz1 hz2 rfl (some ⟨w3.heap.size, 0, none⟩) 1 1 (by rfl) (some w3.heap.size) [.string x0, .string x1] HRW.out a n c (by rfl) (cells (l.take j)) HRK.out (cells_one _) (by omega) (by omega) ?_; intro a4 c4 r4 w4 hA4; have hone := app_first (W := w3.drew) (cs := [.string x0, .string x1]) hA4; have hf4 : Fr No w3 w4 := ⟨hone.2.os, hone.2.tape, hone.2.output, hone.2.size, hone.2.block⟩; have f4 : w4.frozen? ⟨q, 1, none⟩ = false := (HB3.out.no hf4).frozen 1; have c4' : w4.cell? ⟨q, 1, none⟩ = some (.slice a n c) := (HB3.out.no hf4).cell 1))
      all_goals
        have hb5 := (HB3.out.no hf4).set 1 (.slice a4 (1 + n) c4)
        have hF5 : Fr (fun b => b = q) w3 (w4.setCell ⟨q, 1, none⟩ (.slice a4 (1 + n) c4)) := (hf4.mono (S' := fun b => b = q) (fun _ _ h => h.elim)).setCell (a := ⟨q, 1, none⟩) (.inl rfl) _
        have hr5 := hA4.1.fr ((Fr.refl (fun b => b = q) w4).setCell (a := ⟨q, 1, none⟩) (.inl rfl) (.slice a4 (1 + n) c4)) (fun b hb h => by subst h; exact row_nebk hA4.1 (HB3.out.no hf4) (by decide) hb)
        have hn5 : 1 + n = ((x0, x1) :: l.take j).length := by rw [List.length_cons, HLN.out]; omega
        have hadd : addL l size (x0, x1) j = (x0, x1) :: l.take j := by unfold addL; rw [HCX.out, if_pos hfits]
        have H5 : RAddQ w q r l size (x0, x1) (.returned (.tuple #[])) (w4.setCell ⟨q, 1, none⟩ (.slice a4 (1 + n) c4)) := by
          refine ⟨rfl, j, r4, by rw [HCX.out]; exact HFIT.out, ?_, ?_⟩
          · rw [hadd]
            exact ⟨a4, c4, by rw [← hn5]; exact hb5, by rw [← hn5]; exact hr5⟩
          · refine ⟨.inr ?_, (HF3.out.trans hF5 (fun _ _ h => h)).mono (fun _ _ h => .inl h)⟩
            have hs3 := HF3.out.size
            rcases hA4.rr with e | ⟨e, _⟩
            · exact ⟨_, e, hs3⟩
            · exact ⟨_, e, Nat.le_trans hs3 (((Fr.refl No w3).drew).alloc _).size⟩
        have HH := Lib.hid H5
        clear hb5 hF5 hr5 hn5 hadd H5 hone hA4 hf4 f4 c4' c3 c3a d2 d3
        go_wp2
        go_end0
        exact HH.out
  · have hfits2 : ¬ (cx ≤ size) := hfits
    go_wp2_with fail
    go_region_held3 (fun w' => w'.cell? ⟨q, 0, none⟩ = some (.int .i64 size) ∧ w'.cell? ⟨G, 0, none⟩ = some (.string x0) ∧ w'.cell? ⟨G, 1, none⟩ = some (.string x1))
      (first
        | go_keep
        | exact q1)
      (first
        | (go_at_call 21; refine (cost_ref_calls x0 x1 _ (by omega) (by omega)).mono ?_; rintro e w3 ⟨rfl, hf3'⟩; have hf3 : Fr No w2 w3 := ⟨hf3'.os, hf3'.tape, hf3'.output, hf3'.size, hf3'.block⟩; rw [HCX.out]; have q1 := (⟨(HB.out.no hf3).cell 0, (HB2.out.no hf3).cell 0, (HB2.out.no hf3).cell 1⟩ : w3.cell? ⟨q, 0, none⟩ = some (.int .i64 size) ∧ w3.cell? ⟨G, 0, none⟩ = some (.string x0) ∧ w3.cell? ⟨G, 1, none⟩ = some (.string x1)))
        )
    all_goals
      have HF3 := Lib.hid (HF2.out.then_ hf3)
      have hadd : addL l size (x0, x1) j = l.take j := by unfold addL; rw [HCX.out, if_neg (by omega)]
      have H5 : RAddQ w q r l size (x0, x1) (.returned (.tuple #[])) w3 :=
        ⟨rfl, j, r, by rw [HCX.out]; exact HFIT.out, by rw [hadd]; exact HT2.out.no hf3, .inl rfl, HF3.out.mono (fun _ _ h => .inl h)⟩
      have HH := Lib.hid H5
      clear hadd H5 q1 hf3 hf3' d0 d1 c0
      go_wp2
      go_end0
      exact HH.out
end Go.Proofs.Ytofdfmbbnchcoaa
