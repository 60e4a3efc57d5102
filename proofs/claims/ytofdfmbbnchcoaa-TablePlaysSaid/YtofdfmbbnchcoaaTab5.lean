/- The document's table: At, Find. -/
import Derived.Test.YtofdfmbbnchcoaaTab4
import Derived.Deep.RegionHeld3
namespace Go.Proofs.Ytofdfmbbnchcoaa
open Go.RowKit Go.Hp
set_option maxRecDepth 100000
attribute [local go_sem high] eqF


set_option maxHeartbeats 1000000 in
/-- At a place that is none. -/
theorem rat_out (q : Nat) (r : Option Nat) (l : List El) (size i : Int) (w : World) (h : RAt w q r l size) (hl : l.length ≤ 1000000) (hi : i < 1 ∨ (16 + l.length : Nat) < i) :
    Calls Try.prog 14 #[.pointer (some ⟨q, 0, none⟩), .int .i64 i] w fun e w' => e = .returned (.tuple #[vE z0, .bool false]) ∧ Fr No w w' := by
  obtain ⟨a, c, hb0, hr0⟩ := h
  obtain ⟨i0, hi0, hz0, hz1, hz2⟩ := info_parts infoE
  have HB := Lib.hid (hb0.alloc (.cells #[.string ⟨#[]⟩, .string ⟨#[]⟩] 28))
  have HR := Lib.hid (hr0.alloc (.cells #[.string ⟨#[]⟩, .string ⟨#[]⟩] 28))
  have HN := Lib.hid (new_res w)
  have HF := Lib.hid ((Fr.refl No w).alloc (.cells #[.string ⟨#[]⟩, .string ⟨#[]⟩] 28))
  clear hb0 hr0
  go_enter Try.func14, Try.ntmps14
  go_wp2
  obtain ⟨G, hG⟩ : ∃ G, w.heap.size = G := ⟨_, rfl⟩
  have hGw : w.heap.size ≤ G := by omega
  rw [hG] at HN ⊢
  generalize w.alloc (.cells #[.string ⟨#[]⟩, .string ⟨#[]⟩] 28) = W at *
  have q0 : W.cell? ⟨q, 1, none⟩ = some (.slice a l.length c) := HB.out.cell 1
  go_region_held3 (fun w' => w'.cell? ⟨q, 1, none⟩ = some (.slice a l.length c))
    (first
      | go_keep
      | exact q1
      | exact q2)
    (first
      | (refine step_app (by rfl) (.tmp 7) (.tmp 11) 33 (by rfl) 28 i0 (.agg #[.string ⟨#[]⟩, .string ⟨#[]⟩]) 2 32 Try.underlying33 hi0 hz0 hz1 hz2 rfl a2 16 c2 (by simp [Act.eval]) r2 (cells fixedL) h2 a l.length c (by simp [Act.eval]) (cells l) (HR.out.rd.no hf2) (cells_one l) (by omega) (by omega) ?_; intro a3 c3 r3 w3 hA3; have hf3 := hf2.trans hA3.fr (fun b hb h => absurd (hb2' b h.symm) (by omega)); have q2 : w3.cell? ⟨q, 1, none⟩ = some (.slice a l.length c) := (HB.out.no hf3).cell 1)
      | (go_at_call 29; refine (fixed_calls _).mono ?_; rintro e w2 ⟨a2, c2, r2, rfl, h2, hb2, hf2'⟩; have hb2' : ∀ k, r2 = some k → W.heap.size ≤ k := hb2; have hf2 : Fr No W w2 := ⟨hf2'.os, hf2'.tape, hf2'.output, hf2'.size, hf2'.block⟩; have q1 : w2.cell? ⟨q, 1, none⟩ = some (.slice a l.length c) := (HB.out.no hf2).cell 1))
  all_goals
    obtain ⟨nl, hnl⟩ : ∃ nl, 16 + l.length = nl := ⟨_, rfl⟩
    rw [hnl] at hi ⊢
    have hb : Bk w3 G [.string ⟨#[]⟩, .string ⟨#[]⟩] 28 := HN.out.no hf3
    have hF := HF.out.then_ hf3
    have d0 := hb.cell 0; have d1 := hb.cell 1; have e0 := hb.frozen 0; have e1 := hb.frozen 1
    have hz : Bk ((w3.setCell ⟨G, 0, none⟩ (.string ⟨#[]⟩)).setCell ⟨G, 1, none⟩ (.string ⟨#[]⟩)) G [.string ⟨#[]⟩, .string ⟨#[]⟩] 28 := (hb.set 0 _).set 1 _
    have y0 := hz.cell 0; have y1 := hz.cell 1
    have hF2 := (hF.setCell (a := ⟨G, 0, none⟩) (.inr hGw) (.string ⟨#[]⟩)).setCell (a := ⟨G, 1, none⟩) (.inr hGw) (.string ⟨#[]⟩)
    have HF2 := Lib.hid hF2
    clear hF2 hF hb hz hf2 hf3 hA3 h2 hb2 hb2' q0 q1 q2 hf2'
    by_cases h0 : i < 1
    · go_wp2
      (try simp only [Exit.inBlock, Exit.then])
      exact bodyPost_ret (v := .tuple #[vE z0, .bool false]) (by rw [results_cell_tmp rfl]; go_simp; rfl) rfl ⟨rfl, HF2.out⟩
    · have h2 : (nl : Int) < i := by omega
      go_wp2
      (try simp only [Exit.inBlock, Exit.then])
      exact bodyPost_ret (v := .tuple #[vE z0, .bool false]) (by rw [results_cell_tmp rfl]; go_simp; rfl) rfl ⟨rfl, HF2.out⟩
set_option maxHeartbeats 1000000 in
/-- At a place. -/
theorem rat_in (q : Nat) (r : Option Nat) (l : List El) (size : Int) (k : Nat) (w : World) (h : RAt w q r l size) (hl : l.length ≤ 1000000) (hk : k < 16 + l.length) :
    Calls Try.prog 14 #[.pointer (some ⟨q, 0, none⟩), .int .i64 ((k : Int) + 1)] w fun e w' => e = .returned (.tuple #[vE (nth (fixedL ++ l) k), .bool true]) ∧ Fr No w w' := by
  obtain ⟨a, c, hb0, hr0⟩ := h
  obtain ⟨i0, hi0, hz0, hz1, hz2⟩ := info_parts infoE
  have HB := Lib.hid (hb0.alloc (.cells #[.string ⟨#[]⟩, .string ⟨#[]⟩] 28))
  have HR := Lib.hid (hr0.alloc (.cells #[.string ⟨#[]⟩, .string ⟨#[]⟩] 28))
  have HN := Lib.hid (new_res w)
  have HF := Lib.hid ((Fr.refl No w).alloc (.cells #[.string ⟨#[]⟩, .string ⟨#[]⟩] 28))
  clear hb0 hr0
  obtain ⟨x, hx⟩ : ∃ x, nth (fixedL ++ l) k = x := ⟨_, rfl⟩
  rw [hx]
  obtain ⟨x0, x1⟩ := x
  have HX := Lib.hid hx
  clear hx
  go_enter Try.func14, Try.ntmps14
  go_wp2
  obtain ⟨G, hG⟩ : ∃ G, w.heap.size = G := ⟨_, rfl⟩
  have hGw : w.heap.size ≤ G := by omega
  rw [hG] at HN ⊢
  generalize w.alloc (.cells #[.string ⟨#[]⟩, .string ⟨#[]⟩] 28) = W at *
  have q0 : W.cell? ⟨q, 1, none⟩ = some (.slice a l.length c) := HB.out.cell 1
  go_region_held3 (fun w' => w'.cell? ⟨q, 1, none⟩ = some (.slice a l.length c))
    (first
      | go_keep
      | exact q1
      | exact q2)
    (first
      | (refine step_app (by rfl) (.tmp 7) (.tmp 11) 33 (by rfl) 28 i0 (.agg #[.string ⟨#[]⟩, .string ⟨#[]⟩]) 2 32 Try.underlying33 hi0 hz0 hz1 hz2 rfl a2 16 c2 (by simp [Act.eval]) r2 (cells fixedL) h2 a l.length c (by simp [Act.eval]) (cells l) (HR.out.rd.no hf2) (cells_one l) (by omega) (by omega) ?_; intro a3 c3 r3 w3 hA3; have hf3 := hf2.trans hA3.fr (fun b hb h => absurd (hb2' b h.symm) (by omega)); have q2 : w3.cell? ⟨q, 1, none⟩ = some (.slice a l.length c) := (HB.out.no hf3).cell 1)
      | (go_at_call 29; refine (fixed_calls _).mono ?_; rintro e w2 ⟨a2, c2, r2, rfl, h2, hb2, hf2'⟩; have hb2' : ∀ k, r2 = some k → W.heap.size ≤ k := hb2; have hf2 : Fr No W w2 := ⟨hf2'.os, hf2'.tape, hf2'.output, hf2'.size, hf2'.block⟩; have q1 : w2.cell? ⟨q, 1, none⟩ = some (.slice a l.length c) := (HB.out.no hf2).cell 1))
  all_goals
    have h1 : Row w3 28 2 a3 (16 + l.length) c3 r3 (cells (fixedL ++ l)) := by rw [cells_append]; exact hA3.1
    have hlen : (fixedL ++ l).length = 16 + l.length := by rw [List.length_append]; rfl
    have gx := cells_get (fixedL ++ l) k (by omega)
    rw [HX.out] at gx
    obtain ⟨nl, hnl⟩ : ∃ nl, 16 + l.length = nl := ⟨_, rfl⟩
    rw [hnl] at hk h1 ⊢
    have hle := h1.le; have hca := h1.capLe
    obtain ⟨g, off, rfl, hc⟩ := h1.rd.cell gx.1
    obtain ⟨g2, off2, e2, hd⟩ := h1.rd.cell gx.2
    injection e2 with e2; injection e2 with e2 e3; subst e2; subst e3
    rw [← Nat.add_assoc] at hd
    have hb : Bk w3 G [.string ⟨#[]⟩, .string ⟨#[]⟩] 28 := HN.out.no hf3
    have hF := HF.out.then_ hf3
    have d0 := hb.cell 0; have d1 := hb.cell 1; have e0 := hb.frozen 0; have e1 := hb.frozen 1
    have hz : Bk ((w3.setCell ⟨G, 0, none⟩ (.string x0)).setCell ⟨G, 1, none⟩ (.string x1)) G [.string x0, .string x1] 28 := (hb.set 0 _).set 1 _
    have y0 := hz.cell 0; have y1 := hz.cell 1
    have hF2 := (hF.setCell (a := ⟨G, 0, none⟩) (.inr hGw) (.string x0)).setCell (a := ⟨G, 1, none⟩) (.inr hGw) (.string x1)
    have HF2 := Lib.hid hF2
    clear hF2 hF hb hz hf2 hf3 hA3 h2 hb2 hb2' q0 q1 q2 hf2' h1 hlen gx hnl
    have b0 : ¬ ((k : Int) + 1 < 1) := by omega
    have b1 : ¬ ((nl : Int) < (k : Int) + 1) := by omega
    have b2 : IntKind.i64.wrap ((k : Int) + 1 - 1) = (k : Int) := by rw [IntWalk.i64_in _ (by omega)]; omega
    have b3 : (0 : Int) ≤ (k : Int) := by omega
    have b4 : (k : Int) < (nl : Int) := by omega
    go_wp2
    (try simp only [Exit.inBlock, Exit.then])
    exact bodyPost_ret (v := .tuple #[vE (x0, x1), .bool true]) (by rw [results_cell_tmp rfl]; go_simp; rfl) rfl ⟨rfl, HF2.out⟩

theorem posOf_snoc {p : El → Prop} [DecidablePred p] : ∀ (l : List El) (y : El) (s : Nat), posOf p (l ++ [y]) s = if posOf p l s < 0 then (if p y then ((s + l.length : Nat) : Int) else -1) else posOf p l s
  | [], y, s => by simp [posOf]
  | x :: xs, y, s => by
    rw [List.cons_append, posOf, posOf, List.length_cons]
    by_cases h : p x
    · rw [if_pos h, if_pos h, if_neg (by omega)]
    · rw [if_neg h, if_neg h, posOf_snoc xs y (s + 1)]
      have e : s + 1 + xs.length = s + (xs.length + 1) := by omega
      rw [e]
theorem idn_take {L : List El} {x : ByteArray} {k : Nat} (hk : k < L.length) : idn (L.take (k + 1)) x = if idn (L.take k) x < 0 then (if (nth L k).1 = x then (k : Int) else -1) else idn (L.take k) x := by
  unfold idn
  rw [List.take_succ_eq_append_getElem hk, ← nth_get hk, posOf_snoc, List.length_take, Nat.zero_add, Nat.min_eq_left (by omega)]

set_option maxHeartbeats 2000000 in
theorem rfind_calls (q : Nat) (r : Option Nat) (l : List El) (size : Int) (x0 x1 : ByteArray) (w : World) (h : RAt w q r l size) (hl : l.length ≤ 1000000) :
    Calls Try.prog 16 #[.pointer (some ⟨q, 0, none⟩), .agg #[.string x0, .string x1]] w fun e w' => e = .returned (.tuple #[.int .i64 (findL (fixedL ++ l) (x0, x1)).1, .bool (findL (fixedL ++ l) (x0, x1)).2]) ∧ Fr No w w' := by
  obtain ⟨a, c, hb0, hr0⟩ := h
  obtain ⟨i0, hi0, hz0, hz1, hz2⟩ := info_parts infoE
  have HB := Lib.hid (hb0.alloc (.cells #[.string x0, .string x1] 28))
  have HR := Lib.hid (hr0.alloc (.cells #[.string x0, .string x1] 28))
  have HN := Lib.hid (Bk.new w [.string x0, .string x1] 28)
  have HF := Lib.hid ((Fr.refl No w).alloc (.cells #[.string x0, .string x1] 28))
  have hlen : (fixedL ++ l).length = 16 + l.length := by rw [List.length_append]; rfl
  obtain ⟨L, hL⟩ : ∃ L, fixedL ++ l = L := ⟨_, rfl⟩
  have HLL := Lib.hid hL
  rw [hL] at hlen ⊢
  have HLN := Lib.hid hlen
  obtain ⟨fd, hfd⟩ : ∃ fd, findL L (x0, x1) = fd := ⟨_, rfl⟩
  rw [hfd]
  have HFD := Lib.hid hfd
  clear hb0 hr0 hL hlen hfd
  go_enter Try.func16, Try.ntmps16
  go_wp2
  obtain ⟨G, hG⟩ : ∃ G, w.heap.size = G := ⟨_, rfl⟩
  rw [hG] at HN ⊢
  have HN' : Hid (Bk (w.alloc (.cells #[.string x0, .string x1] 28)) G [.string x0, .string x1] 28) := HN
  generalize w.alloc (.cells #[.string x0, .string x1] 28) = W at *
  have q0 : W.cell? ⟨q, 1, none⟩ = some (.slice a l.length c) := HB.out.cell 1
  go_region_held3 (fun w' => w'.cell? ⟨q, 1, none⟩ = some (.slice a l.length c))
    (first
      | go_keep
      | exact q1
      | exact q2)
    (first
      | (refine step_app (by rfl) (.tmp 9) (.tmp 13) 33 (by rfl) 28 i0 (.agg #[.string ⟨#[]⟩, .string ⟨#[]⟩]) 2 32 Try.underlying33 hi0 hz0 hz1 hz2 rfl a2 16 c2 (by simp [Act.eval]) r2 (cells fixedL) h2 a l.length c (by simp [Act.eval]) (cells l) (HR.out.rd.no hf2) (cells_one l) (by omega) (by omega) ?_; intro a3 c3 r3 w3 hA3; have hf3 := hf2.trans hA3.fr (fun b hb h => absurd (hb2' b h.symm) (by omega)); have q2 : w3.cell? ⟨q, 1, none⟩ = some (.slice a l.length c) := (HB.out.no hf3).cell 1)
      | (go_at_call 29; refine (fixed_calls _).mono ?_; rintro e w2 ⟨a2, c2, r2, rfl, h2, hb2, hf2'⟩; have hb2' : ∀ k, r2 = some k → W.heap.size ≤ k := hb2; have hf2 : Fr No W w2 := ⟨hf2'.os, hf2'.tape, hf2'.output, hf2'.size, hf2'.block⟩; have q1 : w2.cell? ⟨q, 1, none⟩ = some (.slice a l.length c) := (HB.out.no hf2).cell 1))
  all_goals
    have h1 : Row w3 28 2 a3 (16 + l.length) c3 r3 (cells L) := by rw [← HLL.out, cells_append]; exact hA3.1
    have hb : Bk w3 G [.string x0, .string x1] 28 := HN'.out.no hf3
    have d0 : w3.cell? ⟨G, 0, none⟩ = some (.string x0) := hb.cell 0
    have d1 : w3.cell? ⟨G, 1, none⟩ = some (.string x1) := hb.cell 1
    have HF3 := Lib.hid (HF.out.then_ hf3)
    have hnb : 16 + l.length ≤ 1000016 := by omega
    obtain ⟨nl, hnl⟩ : ∃ nl, 16 + l.length = nl := ⟨_, rfl⟩
    rw [hnl] at HLN h1 hnb ⊢
    have hle := h1.le; have hca := h1.capLe
    have H1 := Lib.hid h1.rd
    clear hb hf2 hf3 hA3 h2 hb2 hb2' q0 q1 q2 hf2' h1 hnl
    go_wp2
    go_loopw [7, 8] (fun v i wr => ∃ k : Nat, k ≤ nl ∧ i = .int .i64 k ∧ v = .int .i64 (1 + idn (L.take k) x0) ∧ (x0, x1) ∉ L.take k ∧ ∃ q, wr = w3.drewN q) (fun _ i _ => nl - (intOf i).toNat)
    case atStart => exact ⟨0, by omega, rfl, rfl, by simp, 0, rfl⟩
    case round =>
      obtain ⟨k, hk, rfl, rfl, hpre, q, rfl⟩ := hrel
      have HP := Lib.hid hpre
      clear hpre
      have hm1 := idn_lt (L.take k) x0
      rw [List.length_take] at hm1
      by_cases hlt : k < nl
      · have hkl : k < L.length := by have := HLN.out; omega
        have gx := cells_get L k hkl
        obtain ⟨g, off, rfl, hc⟩ := H1.out.cell gx.1
        obtain ⟨g2, off2, e2, hd⟩ := H1.out.cell gx.2
        injection e2 with e2; injection e2 with e2 e3; subst e2; subst e3
        rw [← Nat.add_assoc] at hd
        have HIT := Lib.hid (idn_take (x := x0) hkl)
        obtain ⟨m, hm⟩ : ∃ m, idn (L.take k) x0 = m := ⟨_, rfl⟩
        rw [hm] at hm1 HIT ⊢
        have HM := Lib.hid hm
        have b0 : (0 : Int) ≤ (k : Int) := by omega
        have b1 : (k : Int) < (nl : Int) := by omega
        clear gx hm
        by_cases he : (x0, x1) = nth L k
        · have he' : ((nth L k).1.toList == x0.toList && ((nth L k).2.toList == x1.toList)) = true := by have := el_eq (y := (x0, x1)) (x := nth L k); simp only at this; rw [this]; simpa using he.symm
          have hfd : fd = ((k : Int) + 1, true) := by rw [← HFD.out]; unfold findL; rw [idx_at hkl he HP.out, if_neg (by omega)]
          have HE := Lib.hid he
          clear he
          subst hfd
          go_wp2
          go_quiet (fail)
          go_wp2
          go_ret2
          exact ⟨by first | rfl | simp, HF3.out.drewN _⟩
        · have he' : ((nth L k).1.toList == x0.toList && ((nth L k).2.toList == x1.toList)) = false := by have := el_eq (y := (x0, x1)) (x := nth L k); simp only at this; rw [this]; simpa using fun h => he h.symm
          have HE := Lib.hid he
          clear he
          by_cases hnm : (nth L k).1 = x0
          · have hn' : ((nth L k).1.toList == x0.toList) = true := by rw [tl_eq]; simpa using hnm
            have he2 : ((nth L k).2.toList == x1.toList) = false := by rw [hn', Bool.true_and] at he'; exact he'
            by_cases hm0 : m < 0
            · have hme : m = -1 := by omega
              subst hme
              have hit := HIT.out
              rw [if_pos (by omega), if_pos hnm] at hit
              have HT := Lib.hid hit
              clear hit hnm
              go_wp2
              go_quiet (fail)
              go_wp2
              go_quiet (fail)
              go_wp2
              go_roundw
              case rel => exact ⟨k + 1, by omega, by go_num, by rw [HT.out, Int.add_comm], notin_take_succ hkl HP.out HE.out, _, rfl⟩
              case measure => simp [intOf]; omega
            · have hit := HIT.out
              rw [if_neg hm0] at hit
              have HT := Lib.hid hit
              have hm2 : ((1 + m : Int) == 0) = false := by rw [beq_eq_false_iff_ne]; omega
              clear hit hnm
              go_wp2
              go_quiet (fail)
              go_wp2
              go_quiet (fail)
              go_wp2
              go_roundw
              case rel => exact ⟨k + 1, by omega, by go_num, by rw [HT.out], notin_take_succ hkl HP.out HE.out, _, rfl⟩
              case measure => simp [intOf]; omega
          · have hn' : ((nth L k).1.toList == x0.toList) = false := by rw [tl_eq]; simpa using hnm
            have hit := HIT.out
            rw [if_neg hnm] at hit
            have hit2 : idn (L.take (k + 1)) x0 = m := by rw [hit]; split <;> omega
            have HT := Lib.hid hit2
            clear hit hit2 hnm
            go_wp2
            go_quiet (fail)
            go_wp2
            go_quiet (fail)
            go_wp2
            go_roundw
            case rel => exact ⟨k + 1, by omega, by go_num, by rw [HT.out], notin_take_succ hkl HP.out HE.out, _, rfl⟩
            case measure => simp [intOf]; omega
      · have hkn : k = nl := by omega
        have hT : L.take k = L := List.take_of_length_le (by have := HLN.out; omega)
        rw [hT] at HP ⊢
        have hfd : fd = (1 + idn L x0, false) := by rw [← HFD.out]; unfold findL; rw [idx_none HP.out, if_pos (by omega)]
        have HH := Lib.hid hfd
        clear hfd hT
        go_wp2
        go_ret2
        exact ⟨by rw [HH.out]; rfl, HF3.out.drewN _⟩
end Go.Proofs.Ytofdfmbbnchcoaa
