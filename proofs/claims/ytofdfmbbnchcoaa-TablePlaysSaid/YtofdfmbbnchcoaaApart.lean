/- The lists that are kept (Fields): is each as it was, and does none share memory with another one? -/
import Derived.Test.YtofdfmbbnchcoaaGrow2
namespace Go.Proofs.Ytofdfmbbnchcoaa
open Go.RowKit Go.Hp
set_option maxRecDepth 100000

theorem still_Ints (bk : Nat) (w : World) (h : w.cell? ⟨bk, 0, none⟩ = some nil0) : Calls Try.prog 34 #[.pointer (some ⟨bk, 0, none⟩)] w fun e w' => e = .returned (.bool true) ∧ w = w' := by
  go_enter Try.func34, Try.ntmps34
  go_wp2
  go_loopw [3] (fun i wr => i = .int .i64 0 ∧ wr = w) (fun _ _ => 0)
  case atStart => exact ⟨rfl, rfl⟩
  case round =>
    obtain ⟨rfl, rfl⟩ := hrel
    go_wp2
    go_ret
    exact ⟨rfl, rfl⟩
theorem put_Ints (bk : Nat) (w : World) (h : w.cell? ⟨bk, 0, none⟩ = some nil0) : Calls Try.prog 39 #[.pointer (some ⟨bk, 0, none⟩)] w fun e w' => e = .returned (.tuple #[]) ∧ w = w' := by
  go_enter Try.func39, Try.ntmps39
  go_wp2
  go_loopw [2] (fun i wr => i = .int .i64 0 ∧ wr = w) (fun _ _ => 0)
  case atStart => exact ⟨rfl, rfl⟩
  case round =>
    obtain ⟨rfl, rfl⟩ := hrel
    go_wp2
    go_end0
    exact ⟨rfl, rfl⟩
theorem grow_Ints (bk : Nat) (w : World) (h : w.cell? ⟨bk, 0, none⟩ = some nil0) : Calls Try.prog 44 #[.pointer (some ⟨bk, 0, none⟩)] w fun e w' => e = .returned (.slice none 0 0) ∧ w = w' := by
  go_enter Try.func44, Try.ntmps44
  go_wp2
  go_loopw [3, 4] (fun v i wr => v = .slice none 0 0 ∧ i = .int .i64 0 ∧ wr = w) (fun _ _ _ => 0)
  case atStart => exact ⟨rfl, rfl, rfl⟩
  case round =>
    obtain ⟨rfl, rfl, rfl⟩ := hrel
    go_wp2
    go_ret
    exact ⟨rfl, rfl⟩
theorem marked_Ints (w : World) : Calls Try.prog 49 #[.slice none 0 0] w fun e w' => e = .returned (.bool true) ∧ w = w' := by
  go_enter Try.func49, Try.ntmps49
  go_wp2
  go_loopw [3] (fun i wr => i = .int .i64 0 ∧ wr = w) (fun _ _ => 0)
  case atStart => exact ⟨rfl, rfl⟩
  case round =>
    obtain ⟨rfl, rfl⟩ := hrel
    go_wp2
    go_ret
    exact ⟨rfl, rfl⟩
theorem still_Texts (bk : Nat) (w : World) (h : w.cell? ⟨bk, 2, none⟩ = some nil0) : Calls Try.prog 35 #[.pointer (some ⟨bk, 0, none⟩)] w fun e w' => e = .returned (.bool true) ∧ w = w' := by
  go_enter Try.func35, Try.ntmps35
  go_wp2
  go_loopw [3] (fun i wr => i = .int .i64 0 ∧ wr = w) (fun _ _ => 0)
  case atStart => exact ⟨rfl, rfl⟩
  case round =>
    obtain ⟨rfl, rfl⟩ := hrel
    go_wp2
    go_ret
    exact ⟨rfl, rfl⟩
theorem put_Texts (bk : Nat) (w : World) (h : w.cell? ⟨bk, 2, none⟩ = some nil0) : Calls Try.prog 40 #[.pointer (some ⟨bk, 0, none⟩)] w fun e w' => e = .returned (.tuple #[]) ∧ w = w' := by
  go_enter Try.func40, Try.ntmps40
  go_wp2
  go_loopw [2] (fun i wr => i = .int .i64 0 ∧ wr = w) (fun _ _ => 0)
  case atStart => exact ⟨rfl, rfl⟩
  case round =>
    obtain ⟨rfl, rfl⟩ := hrel
    go_wp2
    go_end0
    exact ⟨rfl, rfl⟩
theorem grow_Texts (bk : Nat) (w : World) (h : w.cell? ⟨bk, 2, none⟩ = some nil0) : Calls Try.prog 45 #[.pointer (some ⟨bk, 0, none⟩)] w fun e w' => e = .returned (.slice none 0 0) ∧ w = w' := by
  go_enter Try.func45, Try.ntmps45
  go_wp2
  go_loopw [3, 4] (fun v i wr => v = .slice none 0 0 ∧ i = .int .i64 0 ∧ wr = w) (fun _ _ _ => 0)
  case atStart => exact ⟨rfl, rfl, rfl⟩
  case round =>
    obtain ⟨rfl, rfl, rfl⟩ := hrel
    go_wp2
    go_ret
    exact ⟨rfl, rfl⟩
theorem marked_Texts (w : World) : Calls Try.prog 50 #[.slice none 0 0] w fun e w' => e = .returned (.bool true) ∧ w = w' := by
  go_enter Try.func50, Try.ntmps50
  go_wp2
  go_loopw [3] (fun i wr => i = .int .i64 0 ∧ wr = w) (fun _ _ => 0)
  case atStart => exact ⟨rfl, rfl⟩
  case round =>
    obtain ⟨rfl, rfl⟩ := hrel
    go_wp2
    go_ret
    exact ⟨rfl, rfl⟩
theorem still_Frames (bk : Nat) (w : World) (h : w.cell? ⟨bk, 6, none⟩ = some nil0) : Calls Try.prog 37 #[.pointer (some ⟨bk, 0, none⟩)] w fun e w' => e = .returned (.bool true) ∧ w = w' := by
  go_enter Try.func37, Try.ntmps37
  go_wp2
  go_loopw [3] (fun i wr => i = .int .i64 0 ∧ wr = w) (fun _ _ => 0)
  case atStart => exact ⟨rfl, rfl⟩
  case round =>
    obtain ⟨rfl, rfl⟩ := hrel
    go_wp2
    go_ret
    exact ⟨rfl, rfl⟩
theorem put_Frames (bk : Nat) (w : World) (h : w.cell? ⟨bk, 6, none⟩ = some nil0) : Calls Try.prog 42 #[.pointer (some ⟨bk, 0, none⟩)] w fun e w' => e = .returned (.tuple #[]) ∧ w = w' := by
  go_enter Try.func42, Try.ntmps42
  go_wp2
  go_loopw [2] (fun i wr => i = .int .i64 0 ∧ wr = w) (fun _ _ => 0)
  case atStart => exact ⟨rfl, rfl⟩
  case round =>
    obtain ⟨rfl, rfl⟩ := hrel
    go_wp2
    go_end0
    exact ⟨rfl, rfl⟩
theorem grow_Frames (bk : Nat) (w : World) (h : w.cell? ⟨bk, 6, none⟩ = some nil0) : Calls Try.prog 47 #[.pointer (some ⟨bk, 0, none⟩)] w fun e w' => e = .returned (.slice none 0 0) ∧ w = w' := by
  go_enter Try.func47, Try.ntmps47
  go_wp2
  go_loopw [3, 4] (fun v i wr => v = .slice none 0 0 ∧ i = .int .i64 0 ∧ wr = w) (fun _ _ _ => 0)
  case atStart => exact ⟨rfl, rfl, rfl⟩
  case round =>
    obtain ⟨rfl, rfl, rfl⟩ := hrel
    go_wp2
    go_ret
    exact ⟨rfl, rfl⟩
theorem marked_Frames (w : World) : Calls Try.prog 52 #[.slice none 0 0] w fun e w' => e = .returned (.bool true) ∧ w = w' := by
  go_enter Try.func52, Try.ntmps52
  go_wp2
  go_loopw [3] (fun i wr => i = .int .i64 0 ∧ wr = w) (fun _ _ => 0)
  case atStart => exact ⟨rfl, rfl⟩
  case round =>
    obtain ⟨rfl, rfl⟩ := hrel
    go_wp2
    go_ret
    exact ⟨rfl, rfl⟩
theorem still_Prefs (bk : Nat) (w : World) (h : w.cell? ⟨bk, 8, none⟩ = some nil0) : Calls Try.prog 38 #[.pointer (some ⟨bk, 0, none⟩)] w fun e w' => e = .returned (.bool true) ∧ w = w' := by
  go_enter Try.func38, Try.ntmps38
  go_wp2
  go_loopw [3] (fun i wr => i = .int .i64 0 ∧ wr = w) (fun _ _ => 0)
  case atStart => exact ⟨rfl, rfl⟩
  case round =>
    obtain ⟨rfl, rfl⟩ := hrel
    go_wp2
    go_ret
    exact ⟨rfl, rfl⟩
theorem put_Prefs (bk : Nat) (w : World) (h : w.cell? ⟨bk, 8, none⟩ = some nil0) : Calls Try.prog 43 #[.pointer (some ⟨bk, 0, none⟩)] w fun e w' => e = .returned (.tuple #[]) ∧ w = w' := by
  go_enter Try.func43, Try.ntmps43
  go_wp2
  go_loopw [2] (fun i wr => i = .int .i64 0 ∧ wr = w) (fun _ _ => 0)
  case atStart => exact ⟨rfl, rfl⟩
  case round =>
    obtain ⟨rfl, rfl⟩ := hrel
    go_wp2
    go_end0
    exact ⟨rfl, rfl⟩
theorem grow_Prefs (bk : Nat) (w : World) (h : w.cell? ⟨bk, 8, none⟩ = some nil0) : Calls Try.prog 48 #[.pointer (some ⟨bk, 0, none⟩)] w fun e w' => e = .returned (.slice none 0 0) ∧ w = w' := by
  go_enter Try.func48, Try.ntmps48
  go_wp2
  go_loopw [3, 4] (fun v i wr => v = .slice none 0 0 ∧ i = .int .i64 0 ∧ wr = w) (fun _ _ _ => 0)
  case atStart => exact ⟨rfl, rfl, rfl⟩
  case round =>
    obtain ⟨rfl, rfl, rfl⟩ := hrel
    go_wp2
    go_ret
    exact ⟨rfl, rfl⟩
theorem marked_Prefs (w : World) : Calls Try.prog 53 #[.slice none 0 0] w fun e w' => e = .returned (.bool true) ∧ w = w' := by
  go_enter Try.func53, Try.ntmps53
  go_wp2
  go_loopw [3] (fun i wr => i = .int .i64 0 ∧ wr = w) (fun _ _ => 0)
  case atStart => exact ⟨rfl, rfl⟩
  case round =>
    obtain ⟨rfl, rfl⟩ := hrel
    go_wp2
    go_ret
    exact ⟨rfl, rfl⟩

theorem ListsAt.nils {w : World} {B bk : Nat} {L : List Ent} (h : ListsAt w B bk L) : 
  w.cell? ⟨bk, 0, none⟩ = some nil0 ∧
  w.cell? ⟨bk, 2, none⟩ = some nil0 ∧
  w.cell? ⟨bk, 6, none⟩ = some nil0 ∧
  w.cell? ⟨bk, 8, none⟩ = some nil0 ∧
  True := by
  obtain ⟨ai, ci, ri, y, hB, hb, hi, hiB, hE, hA⟩ := h
  refine ⟨?_, ?_, ?_, ?_, trivial⟩ <;> exact hb.cell _

def ApartQ (w : World) (B : Nat) (e : Ending) (w' : World) : Prop := e = .returned (.bool true) ∧ Below B w w'
theorem ListsAt.marked {w : World} {B bk : Nat} {L : List Ent} (h : ListsAt w B bk L) (hM : Marked L) (hn : ∀ (j : Nat) (k : Ent), L[j]? = some k → k.n ≤ 1073741824) : ∃ a c, w.cell? ⟨bk, 4, none⟩ = some (.slice a L.length c) ∧ AllMarked w a c L := by
  obtain ⟨ai, ci, ri, y, hB, hb, hi, hiB, hE, hA⟩ := h
  refine ⟨ai, ci, hb.cell 4, hi.rd, fun j k hj => ⟨?_, ?_⟩⟩
  · rw [← hM j k hj]; exact (hE j k hj).1.rd
  · have := hn j k hj; omega

theorem Lq_n {L : List Ent} {i k : Nat} (hn : ∀ (j : Nat) (k : Ent), L[j]? = some k → k.n ≤ 1073741824) : ∀ (j : Nat) (x : Ent), (Lq L i k)[j]? = some x → x.n ≤ 1073741824 := by
  intro j x hx
  rw [Lq_get] at hx
  cases h : L[j]? with
  | none => rw [h] at hx; cases hx
  | some y =>
    rw [h, Option.map_some, Option.some.injEq] at hx
    subst hx
    exact hn j y h

set_option maxHeartbeats 2000000 in
theorem apart_calls (B bk : Nat) (L : List Ent) (w : World) (hBook : BookAt w B bk L) (hL : L.length ≤ 250) (hBw : B ≤ w.heap.size) (hn : ∀ k ∈ L, k.n ≤ 1073741824) :
    Calls Try.prog 22 #[.pointer (some ⟨bk, 0, none⟩)] w (ApartQ w B) := by
  have hn : ∀ (j : Nat) (k : Ent), L[j]? = some k → k.n ≤ 1073741824 := fun j k hj => hn k (List.mem_of_getElem? hj)
  have HB := Lib.hid hBook
  clear hBook
  go_enter Try.func22, Try.ntmps22
  go_wp2_with fail
  have hB0 : BookAt w B bk L := HB.out
  obtain ⟨h1, h2, h3, h4, _⟩ := hB0.lists.nils
  clear hB0
  refine (still_Ints bk _ h1).mono ?_
  rintro e w1 ⟨rfl, rfl⟩
  go_wp2_with fail
  refine (still_Texts bk _ h2).mono ?_
  rintro e w1 ⟨rfl, rfl⟩
  go_wp2_with fail
  clear h1 h2 h3 h4
  refine (still_calls B bk L w HB.out hL).mono ?_
  rintro e w1 ⟨rfl, q, rfl⟩
  have hB1 : BookAt (w.drewN q) B bk L := HB.out.no ((Fr.refl No w).drewN q)
  have hLs := hB1.lists
  obtain ⟨h1, h2, h3, h4, _⟩ := hLs.nils
  go_wp2_with fail
  refine (still_Frames bk _ h3).mono ?_
  rintro e w1 ⟨rfl, rfl⟩
  go_wp2_with fail
  refine (still_Prefs bk _ h4).mono ?_
  rintro e w1 ⟨rfl, rfl⟩
  go_wp2_with fail
  refine (put_Ints bk _ h1).mono ?_
  rintro e w1 ⟨rfl, rfl⟩
  go_wp2_with fail
  refine (put_Texts bk _ h2).mono ?_
  rintro e w1 ⟨rfl, rfl⟩
  go_wp2_with fail
  clear h1 h2 h3 h4
  refine (put_calls B bk L _ hLs hL hBw hn).mono ?_
  rintro e w1 ⟨rfl, hLs1, hb1⟩
  have hw1 : Below B w w1 := (((Fr.refl No w).drewN q).below hBw (fun _ h => h.elim)).trans hb1
  obtain ⟨h1, h2, h3, h4, _⟩ := hLs1.nils
  clear hb1 hLs hB1
  go_wp2_with fail
  refine (put_Frames bk _ h3).mono ?_
  rintro e w2 ⟨rfl, rfl⟩
  go_wp2_with fail
  refine (put_Prefs bk _ h4).mono ?_
  rintro e w2 ⟨rfl, rfl⟩
  go_wp2_with fail
  refine (grow_Ints bk _ h1).mono ?_
  rintro e w2 ⟨rfl, rfl⟩
  go_wp2_with fail
  refine (grow_Texts bk _ h2).mono ?_
  rintro e w2 ⟨rfl, rfl⟩
  go_wp2_with fail
  clear h1 h2 h3 h4
  have hs1 := hw1.size
  refine (grow_calls B bk (Lq L L.length 0) _ hLs1 (Lq_marked L) (by rw [Lq_length]; exact hL) (by omega) (Lq_n hn)).mono ?_
  rintro e w2 ⟨ga, gc, G, rfl, hGl, hGm, hLs2, hb2⟩
  have hw2 : Below B w w2 := hw1.trans hb2
  have HGL := Lib.hid hGl
  clear hGl
  obtain ⟨h1, h2, h3, h4, _⟩ := hLs2.nils
  clear hb2 hLs1
  go_wp2_with fail
  refine (grow_Frames bk _ h3).mono ?_
  rintro e w3 ⟨rfl, rfl⟩
  go_wp2_with fail
  refine (grow_Prefs bk _ h4).mono ?_
  rintro e w3 ⟨rfl, rfl⟩
  go_wp2_with fail
  refine (marked_Ints _).mono ?_
  rintro e w3 ⟨rfl, rfl⟩
  go_wp2_with fail
  refine (marked_Ints _).mono ?_
  rintro e w3 ⟨rfl, rfl⟩
  go_wp2_with fail
  refine (marked_Texts _).mono ?_
  rintro e w3 ⟨rfl, rfl⟩
  go_wp2_with fail
  refine (marked_Texts _).mono ?_
  rintro e w3 ⟨rfl, rfl⟩
  go_wp2_with fail
  clear h1 h2 h3 h4
  refine (marked_calls ga gc G w2 hGm (by have := HGL.out; rw [Lq_length] at this; omega)).mono ?_
  rintro e w3 ⟨rfl, hf3⟩
  have hLs3 := hLs2.no hf3
  obtain ⟨ia, ic, hcell, hAM⟩ := hLs3.marked (Lq_marked L) (Lq_n hn)
  go_wp2_with fail
  refine (marked_calls ia ic (Lq L L.length 0) w3 hAM (by rw [Lq_length]; omega)).mono ?_
  rintro e w4 ⟨rfl, hf4⟩
  obtain ⟨h1, h2, h3, h4, _⟩ := (hLs3.no hf4).nils
  have hsz := hw2.size
  have hw4 : Below B w w4 := hw2.trans ((hf3.then_ hf4).below (by omega) (fun _ h => h.elim))
  clear hcell hAM hLs3 hLs2 hGm hf3 hf4
  go_wp2_with (first
    | (go_at_call 52; refine (marked_Frames _).mono ?_; rintro e w5 ⟨rfl, rfl⟩)
    | (go_at_call 53; refine (marked_Prefs _).mono ?_; rintro e w5 ⟨rfl, rfl⟩))
  go_ret
  exact ⟨rfl, hw4⟩
end Go.Proofs.Ytofdfmbbnchcoaa
