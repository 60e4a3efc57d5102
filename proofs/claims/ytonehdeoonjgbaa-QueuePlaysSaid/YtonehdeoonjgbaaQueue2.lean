/- The queue: its methods. -/
import Derived.Test.YtonehdeoonjgbaaQueue
namespace Go.Proofs.Ytonehdeoonjgbaa
open Go.RowKit Go.Hp
set_option maxRecDepth 100000

def NewQ (w : World) (most : Int) (e : Ending) (w' : World) : Prop := ∃ q, e = .returned (.pointer (some ⟨q, 0, none⟩)) ∧ w.heap.size ≤ q ∧ QAt w' q none [] most ∧ Fr No w w'
theorem new_calls (most : Int) (w : World) (hm : 1 ≤ most) : Calls Try.prog 5 #[.int .i64 most] w (NewQ w most) := by
  go_enter Try.func5, Try.ntmps5
  go_wp2
  go_ret
  exact ⟨w.heap.size, rfl, Nat.le_refl _, ⟨none, 0, Bk.new w _ _, Row.nil _ _ _⟩, (Fr.refl No w).alloc _⟩
theorem new_none (most : Int) (w : World) (hm : most < 1) : Calls Try.prog 5 #[.int .i64 most] w fun e w' => e = .returned (.pointer none) ∧ w = w' := by
  go_enter Try.func5, Try.ntmps5
  go_wp2
  go_ret
  exact ⟨rfl, rfl⟩

theorem place_calls (q : Nat) (r : Option Nat) (l : List Int) (most id : Int) (w : World) (h : QAt w q r l most) :
    Calls Try.prog 10 #[.pointer (some ⟨q, 0, none⟩), .int .i64 id] w fun e w' => e = .returned (.int .i64 (idx l id)) ∧ w = w' := by
  obtain ⟨a, c, hb, hr⟩ := h
  have c0 : w.cell? ⟨q, 0, none⟩ = some (.slice a l.length c) := hb.cell 0
  have HC := Lib.hid (index_calls a l.length c id l w hr.rd)
  go_enter Try.func10, Try.ntmps10
  go_wp2_with fail
  refine HC.out.mono ?_
  rintro e w' ⟨rfl, rfl⟩
  go_wp2
  go_ret
  exact ⟨rfl, rfl⟩

theorem all_calls (q : Nat) (r : Option Nat) (l : List Int) (most : Int) (w : World) (h : QAt w q r l most) (hl : l.length ≤ 1000000) :
    Calls Try.prog 11 #[.pointer (some ⟨q, 0, none⟩)] w (Fresh w l.length l) := by
  obtain ⟨a, c, hb, hr⟩ := h
  have c0 : w.cell? ⟨q, 0, none⟩ = some (.slice a l.length c) := hb.cell 0
  have HC := Lib.hid (clone_calls a l.length c l w hr.rd (by omega))
  go_enter Try.func11, Try.ntmps11
  go_wp2_with fail
  refine HC.out.mono ?_
  rintro e w' ⟨a', c', r', rfl, h1, h2, h3⟩
  go_wp2
  go_ret
  exact ⟨a', c', r', rfl, h1, h2, h3⟩

/-- What a method that answers x leaves: the calls l'. -/
def QDone (w : World) (q : Nat) (r : Option Nat) (l' : List Int) (most : Int) (x : Value) (e : Ending) (w' : World) : Prop :=
  e = .returned x ∧ ∃ r', QAt w' q r' l' most ∧ QStep w q r w' r'

theorem qdone_same {w : World} {q m : Nat} {r : Option Nat} {l : List Int} {most : Int} {x : Value} (h : QAt w q r l most) : QDone w q r l most x (.returned x) (w.drewN m) :=
  ⟨rfl, r, h.no ((Fr.refl No w).drewN m), .inl rfl, (Fr.refl _ w).drewN m⟩
/-- The field is written. -/
theorem qdone_set {w W w1 : World} {q n c : Nat} {a : Option Addr} {r r' : Option Nat} {l l' : List Int} {most : Int} {x : Value} (hq : QAt w q r l most) (hF : Fr (fun b => some b = r) w w1) (hrow : Row w1 3 1 a n c r' (cells l'))
    (hn : n = l'.length) (hr' : r' = r ∨ ∃ b, r' = some b ∧ w.heap.size ≤ b) (hW : W = w1.setCell ⟨q, 0, none⟩ (.slice a n c)) : QDone w q r l' most x (.returned x) W := by
  subst hn; subst hW
  obtain ⟨a0, c0, hb, hr⟩ := hq
  have hb1 : Bk w1 q _ _ := hb.fr hF (fun h => row_nebk hr hb (by decide) h.symm)
  have hb2 := hb1.set 0 (.slice a l'.length c)
  have hF2 : Fr (fun b => b = q) w1 (w1.setCell ⟨q, 0, none⟩ (.slice a l'.length c)) := (Fr.refl (fun b => b = q) w1).setCell (.inl rfl) _
  refine ⟨rfl, r', ⟨a, c, hb2, hrow.fr hF2 (fun b hb' h => ?_)⟩, hr', (hF.mono (fun _ _ h => .inr h)).trans hF2 (fun _ _ h => .inl h)⟩
  subst h
  exact row_nebk hrow hb1 (by decide) hb'

theorem put_queue_calls (q : Nat) (r : Option Nat) (l : List Int) (most id : Int) (w : World) (h : QAt w q r l most) (hl : l.length ≤ 1000000) :
    Calls Try.prog 7 #[.pointer (some ⟨q, 0, none⟩), .int .i64 id] w (QDone w q r (if mayE l most id = 0 then l ++ [id] else l) most (.int .i64 (mayE l most id))) := by
  have HM := Lib.hid (may_calls q r l most id w h)
  have HQ := Lib.hid h
  obtain ⟨i0, hi0, hz0, hz1, hz2⟩ := info_parts infoE
  obtain ⟨v, hv⟩ : ∃ v, v = mayE l most id := ⟨_, rfl⟩
  rw [← hv] at HM ⊢
  clear hv
  by_cases h0 : v = 0
  · subst h0
    rw [if_pos rfl]
    go_enter Try.func7, Try.ntmps7
    go_wp2_with fail
    refine HM.out.mono ?_
    rintro e w' ⟨rfl, m, rfl⟩
    obtain ⟨a, c, hb, hr⟩ := h
    have c0 : w.cell? ⟨q, 0, none⟩ = some (.slice a l.length c) := hb.cell 0
    have f0 : w.frozen? ⟨q, 0, none⟩ = false := hb.frozen 0
    have hr1 : Row (w.drewN m) 3 1 a l.length c r (cells l) := hr
    go_wp2_with (at_builtin; refine wpList_app _ rfl (.tmp 15) (.tmp 17) 32 rfl 3 i0 (.int .i64 0) 1 8 Try.underlying32 hi0 hz0 hz1 hz2 rfl a l.length c rfl r (cells l) (hr1.alloc _) _ 1 1 rfl [.int .i64 id] ?h1 (by simp [Value.oneCell']) (by omega) (by omega) ?h2)
    case h1 => exact (Row.one (w.drewN m) 3 1 [_] rfl).rd
    intro a' c' r' w1 hA
    have hF : Fr (fun b => some b = r) w w1 := (((Fr.refl _ w).drewN m).alloc _).trans hA.fr (fun _ _ h => h)
    have hb1 : Bk w1 q _ _ := hb.fr hF (fun h => row_nebk hr hb (by decide) h.symm)
    have c1 : w1.cell? ⟨q, 0, none⟩ = some (.slice a l.length c) := hb1.cell 0
    have f1 : w1.frozen? ⟨q, 0, none⟩ = false := hb1.frozen 0
    go_wp2
    go_ret
    refine qdone_set HQ.out hF (l' := l ++ [id]) (by rw [cells_snoc]; exact hA.1) (by simp) ?_ rfl
    rcases hA.rr with h1 | ⟨h1, _⟩
    · exact .inl h1
    · exact .inr ⟨_, h1, by simp [World.drewN]⟩
  · have h1 : (v == 0) = false := by simpa using h0
    rw [if_neg h0]
    clear h0
    go_enter Try.func7, Try.ntmps7
    go_wp2_with fail
    refine HM.out.mono ?_
    rintro e w' ⟨rfl, m, rfl⟩
    go_wp2
    go_ret
    exact qdone_same HQ.out

theorem back_calls (q : Nat) (r : Option Nat) (l : List Int) (most id : Int) (w : World) (h : QAt w q r l most) (hl : l.length ≤ 1000000) :
    Calls Try.prog 8 #[.pointer (some ⟨q, 0, none⟩), .int .i64 id] w (QDone w q r (if mayE l most id = 0 then id :: l else l) most (.int .i64 (mayE l most id))) := by
  have HM := Lib.hid (may_calls q r l most id w h)
  have HQ := Lib.hid h
  obtain ⟨v, hv⟩ : ∃ v, v = mayE l most id := ⟨_, rfl⟩
  rw [← hv] at HM ⊢
  clear hv
  by_cases h0 : v = 0
  · subst h0
    rw [if_pos rfl]
    go_enter Try.func8, Try.ntmps8
    go_wp2_with fail
    refine HM.out.mono ?_
    rintro e w' ⟨rfl, m, rfl⟩
    obtain ⟨a, c, hb, hr⟩ := h
    have c0 : w.cell? ⟨q, 0, none⟩ = some (.slice a l.length c) := hb.cell 0
    have hr1 : Row (w.drewN m) 3 1 a l.length c r (cells l) := hr
    have hv1 : ∀ o, Row ((w.drewN m).alloc o) 3 1 a l.length c r (cells l) := fun o => hr1.alloc o
    go_wp2_with fail
    refine (insert_calls a l.length c _ r (cells l) [.int .i64 id] _ (hv1 _) (Bk.new (w.drewN m) [_] 3) rfl ?h1 (cells_one _) (by simp [Value.oneCell']) (by omega)).mono ?_
    case h1 => exact fun e => by have := hr1.lt _ e; omega
    rintro e w1 ⟨a', c', r', rfl, hrow, hrr, hF1⟩
    have hF : Fr (fun b => some b = r) w w1 := (((Fr.refl _ w).drewN m).alloc _).trans hF1 (fun _ _ h => h)
    have hb1 : Bk w1 q _ _ := hb.fr hF (fun h => row_nebk hr hb (by decide) h.symm)
    have c1 : w1.cell? ⟨q, 0, none⟩ = some (.slice a l.length c) := hb1.cell 0
    have f1 : w1.frozen? ⟨q, 0, none⟩ = false := hb1.frozen 0
    go_wp2
    go_ret
    refine qdone_set HQ.out hF (l' := id :: l) hrow (by simp) ?_ rfl
    rcases hrr with h1 | ⟨b, h1, h2⟩
    · exact .inl h1
    · exact .inr ⟨_, h1, by simp [World.drewN] at h2; omega⟩
  · have h1 : (v == 0) = false := by simpa using h0
    rw [if_neg h0]
    clear h0
    go_enter Try.func8, Try.ntmps8
    go_wp2_with fail
    refine HM.out.mono ?_
    rintro e w' ⟨rfl, m, rfl⟩
    go_wp2
    go_ret
    exact qdone_same HQ.out
end Go.Proofs.Ytonehdeoonjgbaa
