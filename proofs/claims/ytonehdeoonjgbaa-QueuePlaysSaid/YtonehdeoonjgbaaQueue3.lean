/- The queue: First, Cut; what a nil queue answers. -/
import Derived.Test.YtonehdeoonjgbaaQueue2
namespace Go.Proofs.Ytonehdeoonjgbaa
open Go.RowKit Go.Hp
set_option maxRecDepth 100000

theorem first_none (q : Nat) (r : Option Nat) (most : Int) (w : World) (h : QAt w q r [] most) :
    Calls Try.prog 6 #[.pointer (some ⟨q, 0, none⟩)] w (QDone w q r [] most (.tuple #[.int .i64 0, .bool false])) := by
  have HQ := Lib.hid h
  obtain ⟨a, c, hb, hr⟩ := h
  have c0 : w.cell? ⟨q, 0, none⟩ = some (.slice a 0 c) := hb.cell 0
  clear hb hr
  go_enter Try.func6, Try.ntmps6
  go_wp2
  go_ret2
  exact qdone_same (m := 0) HQ.out

theorem first_some (q : Nat) (r : Option Nat) (x : Int) (l : List Int) (most : Int) (w : World) (h : QAt w q r (x :: l) most) :
    Calls Try.prog 6 #[.pointer (some ⟨q, 0, none⟩)] w (QDone w q r l most (.tuple #[.int .i64 x, .bool true])) := by
  have HQ := Lib.hid h
  obtain ⟨a, c, hb, hr⟩ := h
  rw [List.length_cons] at hb hr
  have c0 : w.cell? ⟨q, 0, none⟩ = some (.slice a (l.length + 1) c) := hb.cell 0
  have f0 : w.frozen? ⟨q, 0, none⟩ = false := hb.frozen 0
  obtain ⟨g, off, rfl, hx⟩ := hr.rd.cell (j := 0) (u := .int .i64 x) rfl
  have hx : w.cell? ⟨g, off, none⟩ = some (.int .i64 x) := hx
  have hle := hr.le; have hcm := hr.capLe
  obtain ⟨L, hrg, hbg, hl1, hl2⟩ : ∃ L, r = some g ∧ Bk w g L 3 ∧ off + c * 1 ≤ L.length ∧ (L.drop off).take ((l.length + 1) * 1) = cells (x :: l) := by
    rcases hr.2.2.2.2 with ⟨_, h⟩ | ⟨g', o', L1, e1, e2, h1, h2, h3⟩
    · omega
    · injection e2 with e2; injection e2 with e2 e3; subst e2; subst e3
      exact ⟨L1, e1, h1, h2, h3⟩
  have hcells : (L.drop (off + 1)).take (l.length * 1) = cells l := by
    have e : ((L.drop off).take ((l.length + 1) * 1)).drop 1 = cells l := by rw [hl2]; rfl
    rw [List.drop_take, List.drop_drop] at e
    rw [show (l.length + 1) * 1 - 1 = l.length * 1 by omega] at e
    exact e
  have hlen : (cells l).length = l.length * 1 := cells_len l
  have HL := Lib.hid hcells
  clear hb hr hl2 hcells
  by_cases hc1 : c = 1
  · subst hc1
    have hl0 : l = [] := List.eq_nil_of_length_eq_zero (by omega)
    subst hl0
    go_enter Try.func6, Try.ntmps6
    go_wp2
    go_ret2
    exact qdone_set HQ.out (l' := []) (Fr.refl _ w) ⟨by simp [cells], Nat.le_refl _, by omega, (fun h => by cases h), .inr ⟨g, off, L, hrg, rfl, hbg, by omega, by simp [cells]⟩⟩ rfl (.inl rfl) rfl
  · have hc2 : ¬ (c = 1) := hc1
    go_enter Try.func6, Try.ntmps6
    go_wp2
    go_ret2
    exact qdone_set HQ.out (l' := l) (Fr.refl _ w) ⟨hlen, by omega, by omega, (fun h => by cases h), .inr ⟨g, off + 1, L, hrg, rfl, hbg, by omega, HL.out⟩⟩ rfl (.inl rfl) rfl

theorem cut_none (q : Nat) (r : Option Nat) (l : List Int) (most id : Int) (w : World) (h : QAt w q r l most) (hn : id ∉ l) :
    Calls Try.prog 9 #[.pointer (some ⟨q, 0, none⟩), .int .i64 id] w (QDone w q r l most (.bool false)) := by
  have HQ := Lib.hid h
  have HP := Lib.hid (place_calls q r l most id w h)
  rw [idx_none hn] at HP
  clear h hn
  go_enter Try.func9, Try.ntmps9
  go_wp2_with fail
  refine HP.out.mono ?_
  rintro e w' ⟨rfl, rfl⟩
  go_wp2
  go_ret
  exact qdone_same (m := 0) HQ.out

set_option maxHeartbeats 1000000 in
theorem cut_some (q : Nat) (r : Option Nat) (l : List Int) (most id : Int) (i : Nat) (w : World) (h : QAt w q r l most) (hi : idx l id = i) (hl : l.length ≤ 1000000) :
    Calls Try.prog 9 #[.pointer (some ⟨q, 0, none⟩), .int .i64 id] w (QDone w q r (l.take i ++ l.drop (i + 1)) most (.bool true)) := by
  have HQ := Lib.hid h
  have HP := Lib.hid (place_calls q r l most id w h)
  have hlt := idx_lt l id
  rw [hi] at HP hlt
  obtain ⟨a, c, hb, hr⟩ := h
  have c0 : w.cell? ⟨q, 0, none⟩ = some (.slice a l.length c) := hb.cell 0
  obtain ⟨m, hm⟩ : ∃ m, l.length = m + 1 := ⟨l.length - 1, by omega⟩
  obtain ⟨g, off, rfl, _, _⟩ := hr.rd.2.2.2.2 (by omega)
  have hln : (l.take i ++ l.drop (i + 1)).length = m := by rw [List.length_append, List.length_take, List.length_drop]; omega
  have hce : (cells l).take i ++ (cells l).drop (i + 1) = cells (l.take i ++ l.drop (i + 1)) := by simp [cells, List.map_take, List.map_drop]
  rw [hm] at c0 hb hr
  have HD := Lib.hid (delete_calls g off m c i r (cells l) w hr (by omega) (cells_one _) (by omega))
  rw [hce] at HD
  have HE := Lib.hid hln
  have HB := Lib.hid hb
  have HR := Lib.hid hr
  clear hi hm hln hce hb hr
  go_enter Try.func9, Try.ntmps9
  go_wp2_with fail
  refine HP.out.mono ?_
  rintro e w' ⟨rfl, rfl⟩
  go_wp2_with fail
  refine HD.out.mono ?_
  rintro e w1 ⟨rfl, hrow, hF⟩
  have hb1 : Bk w1 q _ _ := HB.out.fr hF (fun h => row_nebk HR.out HB.out (by decide) h.symm)
  have c1 : w1.cell? ⟨q, 0, none⟩ = some (.slice (some ⟨g, off, none⟩) (m + 1) c) := hb1.cell 0
  have f1 : w1.frozen? ⟨q, 0, none⟩ = false := hb1.frozen 0
  go_wp2
  go_ret
  exact qdone_set HQ.out hF (l' := l.take i ++ l.drop (i + 1)) hrow HE.out.symm (.inl rfl) rfl

theorem qnil2 : ∀ (w : World), (binOp .eql 24 (.pointer none) (.pointer none)).run Try.prog w = .ok (.bool true) w := fun _ => by kernel_rfl
theorem nil_first (w : World) : Calls Try.prog 6 #[.pointer none] w fun e w' => e = .returned (.tuple #[.int .i64 0, .bool false]) ∧ w = w' := by
  go_enter Try.func6, Try.ntmps6
  go_wp2
  go_ret2
  exact ⟨rfl, rfl⟩
theorem nil_place (id : Int) (w : World) : Calls Try.prog 10 #[.pointer none, .int .i64 id] w fun e w' => e = .returned (.int .i64 (-1)) ∧ w = w' := by
  go_enter Try.func10, Try.ntmps10
  go_wp2
  go_ret
  exact ⟨rfl, rfl⟩
theorem nil_all (w : World) : Calls Try.prog 11 #[.pointer none] w fun e w' => e = .returned (.slice none 0 0) ∧ w = w' := by
  go_enter Try.func11, Try.ntmps11
  go_wp2
  go_ret
  exact ⟨rfl, rfl⟩
theorem nil_may (id : Int) (w : World) : Calls Try.prog 15 #[.pointer none, .int .i64 id] w fun e w' => e = .returned (.int .i64 8) ∧ w = w' := by
  go_enter Try.func15, Try.ntmps15
  go_wp2
  go_ret
  exact ⟨rfl, rfl⟩
theorem nil_put (id : Int) (w : World) : Calls Try.prog 7 #[.pointer none, .int .i64 id] w fun e w' => e = .returned (.int .i64 8) ∧ w = w' := by
  go_enter Try.func7, Try.ntmps7
  go_wp2_with fail
  refine (nil_may id w).mono ?_
  rintro e w' ⟨rfl, rfl⟩
  go_wp2
  go_ret
  exact ⟨rfl, rfl⟩
theorem nil_back (id : Int) (w : World) : Calls Try.prog 8 #[.pointer none, .int .i64 id] w fun e w' => e = .returned (.int .i64 8) ∧ w = w' := by
  go_enter Try.func8, Try.ntmps8
  go_wp2_with fail
  refine (nil_may id w).mono ?_
  rintro e w' ⟨rfl, rfl⟩
  go_wp2
  go_ret
  exact ⟨rfl, rfl⟩
theorem nil_cut (id : Int) (w : World) : Calls Try.prog 9 #[.pointer none, .int .i64 id] w fun e w' => e = .returned (.bool false) ∧ w = w' := by
  go_enter Try.func9, Try.ntmps9
  go_wp2_with fail
  refine (nil_place id w).mono ?_
  rintro e w' ⟨rfl, rfl⟩
  go_wp2
  go_ret
  exact ⟨rfl, rfl⟩
end Go.Proofs.Ytonehdeoonjgbaa
