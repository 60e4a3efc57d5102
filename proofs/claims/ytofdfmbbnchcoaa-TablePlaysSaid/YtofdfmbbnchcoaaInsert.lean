/- slices.Insert at the head, one element (Fields). -/
import Derived.Test.YtofdfmbbnchcoaaBase
import Derived.Laws.Externs
import Derived.Outline
import Derived.Lib.Hide
import Derived.StillTailTactics
namespace Go.Proofs.Ytofdfmbbnchcoaa
open Go.RowKit Go.Hp
set_option maxRecDepth 100000

def InsQ (w : World) (n : Nat) (r : Option Nat) (cs : List Value) (e : Ending) (w' : World) : Prop :=
  ∃ a' c' r', e = .returned (.slice a' n c') ∧ Row w' 28 2 a' n c' r' cs ∧ (r' = r ∨ ∃ b, r' = some b ∧ w.heap.size ≤ b) ∧ Fr (fun b => some b = r) w w'

theorem App.ins {w w0 w' : World} {n m c c' : Nat} {r r' : Option Nat} {cs : List Value} {a a' : Option Addr} (h : App w 28 2 a n c r m cs a' c' r' w') (hf : Fr No w0 w) : InsQ w0 (n + m) r cs (.returned (.slice a' (n + m) c')) w' := by
  refine ⟨a', c', r', rfl, h.1, ?_, (hf.mono (fun _ _ h => h.elim)).trans h.fr (fun _ _ h => h)⟩
  rcases h.rr with h1 | ⟨h1, _⟩
  · exact .inl h1
  · exact .inr ⟨_, h1, hf.size⟩

set_option maxHeartbeats 2000000 in
/-- There is room, and there are elements. -/
theorem insert_shift (g off n c vb : Nat) (L cs ks : List Value) (w : World) (hn : 0 < n) (hroom : n + 1 ≤ c) (hc63 : c ≤ 9223372036854775807) (hb : Bk w g L 28) (hL : off + c * 2 ≤ L.length) (hcs : (L.drop off).take (n * 2) = cs)
    (hv : Bk w vb ks 28) (hkl : ks.length = 2) (hne : g ≠ vb) (h1c : ∀ u ∈ cs, u.oneCell' = true) (h1k : ∀ u ∈ ks, u.oneCell' = true) :
    Calls Try.prog 25 #[.slice (some ⟨g, off, none⟩) n c, .int .i64 0, .slice (some ⟨vb, 0, none⟩) 1 1] w (InsQ w (n + 1) (some g) (ks ++ cs)) := by
  obtain ⟨i0, hi0, hz0, hz1, hz2⟩ := info_parts infoE
  have hov : ∀ (w' : World) (lb cb o : Nat), Bk w' g L 28 → Bk w' vb ks 28 → (callFunc 54 #[.slice (some ⟨vb, 0, none⟩) 1 1, .slice (some ⟨g, o, none⟩) lb cb]).run Try.prog w' = .ok (.value (.bool false)) w' := fun w' lb cb o hb hv => by
    rw [run_callFunc_extern Try.func54 (by kernel_rfl) (by kernel_rfl) (by kernel_rfl) (e := Extern.SlicesOverlaps.overlaps #[33, 33] #[4]) (by kernel_rfl),
      Lib.run_overlaps_apart w' 33 4 28 Try.underlying33 2 (fun w => by kernel_rfl) ⟨vb, 0, none⟩ ⟨g, o, none⟩ 1 1 lb cb (fun h => hne h.symm) 28 28 ks.length L.length (by unfold Bk at hv; simp [World.shape?, hv]) (by unfold Bk at hb; simp [World.shape?, hb]) (by omega) (hv.frozen _) (hv.frozen _)]
    rfl
  have hov' := fun lb cb o => hov w lb cb o hb hv
  clear hov
  go_enter Try.func25, Try.ntmps25
  go_wp2_with (simp only [hov'])
  have hsrc : Rd w 2 (some ⟨g, off, none⟩) (n + 1) c ((L.drop off).take ((n + 1) * 2)) := by
    have hz : (n + 1) * 2 ≤ c * 2 := Nat.mul_le_mul_right _ hroom
    exact (show Row w 28 2 (some ⟨g, off, none⟩) (n + 1) c (some g) _ from ⟨by rw [List.length_take, List.length_drop]; omega, hroom, hc63, (fun h => by cases h), .inr ⟨g, off, L, rfl, rfl, hb, hL, rfl⟩⟩).rd
  have h1s : ∀ u ∈ ((L.drop off).take ((n + 1) * 2)).take (n * 2), u.oneCell' = true := fun u hu => h1c u (by
    rw [List.take_take, Nat.min_eq_left (Nat.mul_le_mul_right _ (by omega)), hcs] at hu; exact hu)
  have hw1 : IntKind.i64.wrap 1 = 1 := by decide
  have hw2 : (1 : Int) ≤ (n : Int) + 1 := by omega
  have hw3 : ¬ (c = 1) := by omega
  have hw4 : (0 : Int) ≤ (n : Int) + 1 := by omega
  go_still_tail 8, (by kernel_rfl)
  have hbW : Bk w.drew g L 28 := hb
  have hvW : Bk w.drew vb ks 28 := hv
  have hfW : Fr No w w.drew := (Fr.refl No w).drew
  have hsW := hsrc.drew
  change wpList _ _ _ _ _ w.drew
  generalize w.drew = W at *
  refine wpList_cpy W rfl (.tmp 73) (.tmp 76) 33 33 rfl 28 i0 2 Try.underlying33 hi0 hz1 g (off + 2) _ _ rfl L 28 hbW (some ⟨g, off, none⟩) _ _ rfl _ hsW ?h0 ?h1 ?h2
  case h0 => rw [Nat.min_eq_right (by omega)]; exact h1s
  case h1 => rw [Nat.min_eq_right (by omega)]; omega
  intro w1 L1 hL1 hb1 hf1 hs1
  have hv1 : Bk w1 vb ks 28 := hvW.fr hf1 (fun h => hne h.symm)
  have hl1 : off + 1 * 2 ≤ L1.length := by
    rw [hL1.out, Nat.min_eq_right (by omega)]
    simp only [List.length_append, List.length_take, List.length_drop]
    omega
  have hr1 : Rd w1 2 (some ⟨vb, 0, none⟩) 1 1 ks := (show Row w1 28 2 (some ⟨vb, 0, none⟩) 1 1 (some vb) ks from ⟨by omega, Nat.le_refl _, by omega, (fun h => by cases h), .inr ⟨vb, 0, ks, rfl, rfl, hv1, by omega, by rw [List.drop_zero, Nat.one_mul, ← hkl]; exact List.take_length⟩⟩).rd
  clear hw1 hw2 hw3
  go_wp2_with (with_reducible refine wpList_cpy w1 rfl (.tmp 80) (.tmp 81) 33 33 rfl 28 i0 2 Try.underlying33 hi0 hz1 g off (n + 1) c rfl _ 28 hb1 (some ⟨vb, 0, none⟩) 1 1 rfl ks hr1 (fun u hu => h1k u (List.mem_of_mem_take hu)) ?h4 ?h5)
  case h4 => rw [Nat.min_eq_left (by omega)]; exact hl1
  intro w2 L2 hL2 hb2 hf2 hs2
  go_wp2
  go_ret
  have e1 : L1 = L.take (off + 2) ++ cs ++ L.drop (off + 2 + n * 2) := by
    rw [hL1.out, Nat.min_eq_right (by omega), List.take_take, Nat.min_eq_left (Nat.mul_le_mul_right _ (by omega)), hcs]
  have hk1 : ks.take 2 = ks := List.take_of_length_le (by omega)
  have e2 : L2 = L1.take off ++ ks ++ L1.drop (off + 2) := by
    rw [hL2.out]; simp [hk1]
  obtain ⟨l1, l2⟩ := ins_list hL hroom hcs hkl e1 e2
  exact ⟨_, _, some g, rfl, ⟨by rw [← l2, List.length_take, List.length_drop, l1]; have : (n + 1) * 2 ≤ c * 2 := Nat.mul_le_mul_right _ hroom; omega, hroom, hc63, (fun h => by cases h), .inr ⟨g, off, L2, rfl, rfl, hb2, by rw [l1]; exact hL, l2⟩⟩, .inl rfl,
    ((hfW.mono (fun _ _ h => h.elim)).trans ((hf1.trans hf2 (fun _ _ h => h)).mono (S' := fun b => some b = some g) (fun _ _ h => by rw [h])) (fun _ _ h => h))⟩

set_option maxHeartbeats 2000000 in
/-- There is no room, and there are elements. -/
theorem insert_grow (g off n c vb : Nat) (cs ks : List Value) (w : World) (hn : 0 < n) (hroom : c < n + 1) (hr : Rd w 2 (some ⟨g, off, none⟩) n c cs)
    (hv : Bk w vb ks 28) (hkl : ks.length = 2) (h1c : ∀ u ∈ cs, u.oneCell' = true) (h1k : ∀ u ∈ ks, u.oneCell' = true) (hby : (n + 1) * 32 ≤ 140737488355328) (r : Option Nat) :
    Calls Try.prog 25 #[.slice (some ⟨g, off, none⟩) n c, .int .i64 0, .slice (some ⟨vb, 0, none⟩) 1 1] w (InsQ w (n + 1) r (ks ++ cs)) := by
  obtain ⟨i0, hi0, hz0, hz1, hz2⟩ := info_parts infoE
  have c1 := hr.le; have c2 := hr.capLe
  have hgw : g < w.heap.size := by obtain ⟨g', o', h1, h2, _⟩ := hr.2.2.2.2 hn; injection h1 with h1; injection h1 with h1 _; omega
  have hvw := hv.lt
  have hk1 : ((n : Int) + 1) = ((n + 1 : Nat) : Int) := by omega
  have HK := Lib.hid hk1
  clear hk1
  have hc3 : (c : Int) < (n : Int) + 1 := by omega
  go_enter Try.func25, Try.ntmps25
  go_wp2_with (at_builtin; refine wpList_appz w rfl (.tmp 34) (.tmp 39) 33 3 .i64 .i64 rfl 28 i0 (.agg #[.string ⟨#[]⟩, .string ⟨#[]⟩]) 2 32 Try.underlying33 Try.underlying3 hi0 hz0 hz1 hz2 rfl (by omega) (some ⟨g, off, none⟩) c rfl (n + 1) (congrArg (Value.int .i64) HK.out) (by omega) (by omega) (by omega) (by omega) ?h1)
  intro w1 c' Lz hc4 hc5 hLz hb1 hf1 hs1
  have hLz' : 0 + 1 * 2 ≤ Lz.length := by have : (n + 1) * 2 ≤ c' * 2 := Nat.mul_le_mul_right _ hc4; omega
  have hv1 : Bk w1 vb ks 28 := hv.no hf1
  have hr1 : Rd w1 2 (some ⟨vb, 0, none⟩) 1 1 ks := (show Row w1 28 2 (some ⟨vb, 0, none⟩) 1 1 (some vb) ks from ⟨by omega, Nat.le_refl _, by omega, (fun h => by cases h), .inr ⟨vb, 0, ks, rfl, rfl, hv1, by omega, by rw [List.drop_zero, Nat.one_mul, ← hkl]; exact List.take_length⟩⟩).rd
  obtain ⟨G, hG⟩ : ∃ G, G = w.heap.size := ⟨_, rfl⟩
  rw [← hG] at hb1 hs1 ⊢
  have HG := Lib.hid hG
  have hGg : g ≠ G := by omega
  clear hG
  clear HK hc3
  have hc6 : (n : Int) + 1 ≤ (c' : Int) := by omega
  go_wp2_with (with_reducible refine wpList_cpy w1 rfl (.tmp 43) (.tmp 44) 33 33 rfl 28 i0 2 Try.underlying33 hi0 hz1 G 0 (n + 1) c' rfl _ 28 hb1 (some ⟨vb, 0, none⟩) 1 1 rfl ks hr1 (fun u hu => h1k u (List.mem_of_mem_take hu)) ?h4 ?h5)
  case h4 => rw [Nat.min_eq_left (by omega)]; exact hLz'
  intro w2 L1 hL1 hb2 hf2 hs2
  have hw1 : IntKind.i64.wrap 1 = 1 := by decide
  have hw2 : (1 : Int) ≤ (n : Int) + 1 := by omega
  have hw3 : ¬ (c' = 1) := by omega
  have hw4 : (0 : Int) ≤ (n : Int) := by omega
  go_wp2
  go_still_tail 8, (by kernel_rfl)
  have hbW : Bk w2.drew G L1 28 := hb2
  have hfW : Fr (fun k => k = G) w w2.drew := ((hf1.mono (fun _ _ h => h.elim)).trans hf2 (fun _ _ h => h)).drew
  have hsW : Rd w2.drew 2 (some ⟨g, off, none⟩) n c cs := Rd.fr (S := fun k => k = G) (hr.no hf1) hf2.drew (by
    intro b hb h
    subst h
    simp only [abk] at hb
    rw [if_neg (by omega)] at hb
    simp at hb
    exact hGg hb)
  change wpList _ _ _ _ _ w2.drew
  generalize w2.drew = W at *
  have hk1 : ks.take 2 = ks := List.take_of_length_le (by omega)
  have e1 : L1 = ks ++ Lz.drop 2 := by
    rw [hL1.out]; simp [hk1]
  have hl1 : L1.length = c' * 2 := by rw [e1, List.length_append, List.length_drop]; omega
  have hz : (n + 1) * 2 ≤ c' * 2 := Nat.mul_le_mul_right _ hc4
  have E1 := Lib.hid e1
  have HL1 := Lib.hid hl1
  clear e1 hl1 hk1
  refine wpList_cpy W rfl (.tmp 50) (.tmp 53) 33 33 rfl 28 i0 2 Try.underlying33 hi0 hz1 G 2 _ _ rfl L1 28 hbW (some ⟨g, off, none⟩) _ _ rfl _ hsW (fun u hu => h1c u (List.mem_of_mem_take hu)) ?h6 ?h7
  case h6 => rw [Nat.min_eq_left (by omega), HL1.out]; omega
  intro w3 L2 hL2 hb3 hf3 hs3
  clear hw1 hw2 hw3 hw4
  go_wp2
  go_ret
  have e2 : L2 = L1.take 2 ++ cs ++ L1.drop (2 + n * 2) := by
    rw [hL2.out, Nat.min_eq_left (by omega), List.take_of_length_le (l := cs) (by rw [hr.len]; exact Nat.le_refl _)]
  obtain ⟨l1, l2⟩ := grow_list (c' := c') (by omega) hc4 hr.len hkl E1.out e2
  refine ⟨_, _, some G, rfl, ⟨by rw [List.length_append, hkl, hr.len, Nat.add_mul]; omega, hc4, hc5, (fun h => by cases h), .inr ⟨G, 0, L2, rfl, rfl, hb3, by rw [l1]; omega, by rw [List.drop_zero]; exact l2⟩⟩, .inr ⟨G, rfl, by have := HG.out; omega⟩, ?_⟩
  exact (hfW.trans hf3 (fun _ _ h => h)).mono (fun b hb h => absurd (HG.out ▸ h) (by omega))
end Go.Proofs.Ytofdfmbbnchcoaa
