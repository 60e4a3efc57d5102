/- The book of lists that are kept (Fields): what it is in memory; one more list. -/
import Derived.Test.YtofdfmbbnchcoaaBase
import Derived.Outline
namespace Go.Proofs.Ytofdfmbbnchcoaa
open Go.RowKit Go.Hp
set_option maxRecDepth 100000

/-- A list that is kept, and the copy of it. -/
structure Ent where
  a : Option Addr
  n : Nat
  c : Nat
  r : Option Nat
  wa : Option Addr
  wc : Nat
  wr : Option Nat
  xs : List El
def Ent.v (k : Ent) : Value := .slice k.a k.n k.c
def Ent.wv (k : Ent) : Value := .slice k.wa k.n k.wc
abbrev nil0 : Value := .slice none 0 0
def bcells (x y : Value) : List Value := [nil0, nil0, nil0, nil0, x, y, nil0, nil0, nil0, nil0]
theorem bcells_set0 (x y z : Value) : (bcells x y).set 4 z = bcells z y := rfl
theorem bcells_set1 (x y z : Value) : (bcells x y).set 5 z = bcells x z := rfl

def EntAt (w : World) (B : Nat) (k : Ent) : Prop :=
  Row w 28 2 k.a k.n k.c k.r (cells k.xs) ∧ Row w 28 2 k.wa k.n k.wc k.wr (cells k.xs) ∧ (∀ b, k.r = some b → B ≤ b) ∧ (∀ b, k.wr = some b → B ≤ b)
def ApartL (L : List Ent) : Prop :=
  (∀ (i j : Nat) (k k' : Ent), L[i]? = some k → L[j]? = some k' → i ≠ j → ∀ b, k.r = some b → k'.r ≠ some b) ∧ (∀ k ∈ L, ∀ k' ∈ L, ∀ b, k.r = some b → k'.wr ≠ some b)
/-- The book, at block bk; all of it from block B on. -/
def BookAt (w : World) (B bk : Nat) (L : List Ent) : Prop :=
  ∃ ai ci ri aw cw rw, B ≤ bk ∧ Bk w bk (bcells (.slice ai L.length ci) (.slice aw L.length cw)) 45 ∧
    Row w 33 1 ai L.length ci ri (L.map Ent.v) ∧ Row w 33 1 aw L.length cw rw (L.map Ent.wv) ∧ (∀ b, ri = some b → B ≤ b) ∧ (∀ b, rw = some b → B ≤ b) ∧ (∀ b, ri = some b → rw ≠ some b) ∧
    (∀ k ∈ L, EntAt w B k) ∧ ApartL L
/-- The book's own blocks, but for the lists themselves. -/
def BS (w : World) (B : Nat) : Nat → Prop := fun b => B ≤ b ∧ ∃ cs T, Bk w b cs T ∧ (T = 45 ∨ T = 33)

/-- Rows of elements are none of the book's own blocks. -/
theorem row_nbs {w : World} {B z : Nat} {a : Option Addr} {n c : Nat} {r : Option Nat} {cs : List Value} (h : Row w 28 z a n c r cs) : ∀ b, r = some b → ¬ BS w B b := by
  rintro b hb ⟨_, cs', T, h1, h2⟩
  obtain ⟨_, h3⟩ := row_blk h hb
  rcases h2 with rfl | rfl
  · exact Bk.ne h3 h1 (by decide) rfl
  · exact Bk.ne h3 h1 (by decide) rfl
theorem EntAt.fr {w w' : World} {B : Nat} {k : Ent} {S : Nat → Prop} (h : EntAt w B k) (hf : Fr S w w') (h1 : ∀ b, k.r = some b → ¬ S b) (h2 : ∀ b, k.wr = some b → ¬ S b) : EntAt w' B k :=
  ⟨h.1.fr hf h1, h.2.1.fr hf h2, h.2.2⟩
theorem map_v_one (L : List Ent) : ∀ u ∈ L.map Ent.v, u.oneCell' = true := by
  intro u hu; simp only [List.mem_map] at hu; obtain ⟨_, _, rfl⟩ := hu; rfl
theorem map_wv_one (L : List Ent) : ∀ u ∈ L.map Ent.wv, u.oneCell' = true := by
  intro u hu; simp only [List.mem_map] at hu; obtain ⟨_, _, rfl⟩ := hu; rfl
/-- A book that nothing was done to. -/
theorem BookAt.fr {w w' : World} {B bk : Nat} {L : List Ent} {S : Nat → Prop} (h : BookAt w B bk L) (hf : Fr S w w')
    (h1 : ∀ b, BS w B b → ¬ S b) (h2 : ∀ k ∈ L, (∀ b, k.r = some b → ¬ S b) ∧ (∀ b, k.wr = some b → ¬ S b)) : BookAt w' B bk L := by
  obtain ⟨ai, ci, ri, aw, cw, rw', hB, hb, hi, hw, hiB, hwB, hne, hE, hA⟩ := h
  refine ⟨ai, ci, ri, aw, cw, rw', hB, hb.fr hf (h1 bk ⟨hB, _, _, hb, .inl rfl⟩), hi.fr hf (fun b e => ?_), hw.fr hf (fun b e => ?_), hiB, hwB, hne, fun k hk => (hE k hk).fr hf (h2 k hk).1 (h2 k hk).2, hA⟩
  · obtain ⟨_, h3⟩ := row_blk hi e; exact h1 b ⟨hiB b e, _, _, h3, .inr rfl⟩
  · obtain ⟨_, h3⟩ := row_blk hw e; exact h1 b ⟨hwB b e, _, _, h3, .inr rfl⟩
theorem BookAt.no {w w' : World} {B bk : Nat} {L : List Ent} (h : BookAt w B bk L) (hf : Fr No w w') : BookAt w' B bk L :=
  h.fr hf (fun _ _ h => h) (fun _ _ => ⟨fun _ _ h => h, fun _ _ h => h⟩)

def AddQ (w : World) (B bk : Nat) (L : List Ent) (a : Option Addr) (n c : Nat) (r : Option Nat) (xs : List El) (e : Ending) (w' : World) : Prop :=
  e = .returned (.tuple #[]) ∧ ∃ wa wc wr, BookAt w' B bk (L ++ [⟨a, n, c, r, wa, wc, wr, xs⟩]) ∧ (∀ b, wr = some b → w.heap.size ≤ b) ∧ Fr (BS w B) w w'

theorem ApartL.snoc {L : List Ent} {k : Ent} (h : ApartL L) (h1 : ∀ q ∈ L, ∀ b, k.r = some b → q.r ≠ some b ∧ q.wr ≠ some b) (h2 : ∀ q ∈ L, ∀ b, q.r = some b → k.wr ≠ some b) (h3 : ∀ b, k.r = some b → k.wr ≠ some b) : ApartL (L ++ [k]) := by
  refine ⟨fun i j q q' hi hj hne b hb hb' => ?_, fun q hq q' hq' b hb => ?_⟩
  · rw [List.getElem?_append] at hi hj
    split at hi
    · split at hj
      · exact h.1 i j q q' hi hj hne b hb hb'
      · have : q' = k := by
          rcases Nat.eq_zero_or_pos (j - L.length) with h0 | h0
          · rw [h0] at hj; simpa using hj.symm
          · rw [List.getElem?_eq_none (by simp; omega)] at hj; cases hj
        subst this
        exact (h1 q (List.mem_of_getElem? hi) b hb').1 hb
    · have : q = k := by
        rcases Nat.eq_zero_or_pos (i - L.length) with h0 | h0
        · rw [h0] at hi; simpa using hi.symm
        · rw [List.getElem?_eq_none (by simp; omega)] at hi; cases hi
      subst this
      split at hj
      · exact (h1 q' (List.mem_of_getElem? hj) b hb).1 hb'
      · rcases Nat.eq_zero_or_pos (j - L.length) with h0 | h0
        · rcases Nat.eq_zero_or_pos (i - L.length) with h4 | h4
          · exact hne (by omega)
          · rw [List.getElem?_eq_none (by simp; omega)] at hi; cases hi
        · rw [List.getElem?_eq_none (by simp; omega)] at hj; cases hj
  · rw [List.mem_append, List.mem_singleton] at hq hq'
    rcases hq with hq | rfl
    · rcases hq' with hq' | rfl
      · exact h.2 q hq q' hq' b hb
      · exact h2 q hq b hb
    · rcases hq' with hq' | rfl
      · exact (h1 q' hq' b hb).2
      · exact h3 b hb

theorem add_close {B bk : Nat} {L : List Ent} {a : Option Addr} {n c : Nat} {r : Option Nat} {xs : List El} {w w0 w1 W w2 w3 : World} {ai aw ai' a2 a3 : Option Addr} {ci cw ci' c2 c3 : Nat} {ri rw' ri' r2 r3 : Option Nat} {cs1 : List Value} {o : Obj}
    (hB : B ≤ bk) (hbk : Bk w bk (bcells (.slice ai L.length ci) (.slice aw L.length cw)) 45) (hi : Row w 33 1 ai L.length ci ri (L.map Ent.v)) (hw : Row w 33 1 aw L.length cw rw' (L.map Ent.wv))
    (hiB : ∀ b, ri = some b → B ≤ b) (hwB : ∀ b, rw' = some b → B ≤ b) (hne : ∀ b, ri = some b → rw' ≠ some b) (hE : ∀ k ∈ L, EntAt w B k) (hA : ApartL L)
    (hr : Row w 28 2 a n c r (cells xs)) (hrB : ∀ b, r = some b → B ≤ b) (hfresh : ∀ k ∈ L, ∀ b, r = some b → k.r ≠ some b ∧ k.wr ≠ some b) (hBw : B ≤ w.heap.size)
    (hw0 : w.heap.size ≤ w0.heap.size) (hA1 : App w0 33 1 ai L.length ci ri 1 cs1 ai' ci' ri' w1)
    (hbk2 : Bk W bk (bcells (.slice ai' (L.length + 1) ci') (.slice aw L.length cw)) 45) (hFW : Fr (fun k => some k = ri ∨ k = bk) w W)
    (hRi : Row W 33 1 ai' (L.length + 1) ci' ri' (L.map Ent.v ++ [.slice a n c])) (hrow2 : Row w2 28 2 a2 n c2 r2 (cells xs)) (hb2 : ∀ k, r2 = some k → W.heap.size ≤ k) (hfr2 : Fr No W w2)
    (hA3 : App (w2.alloc o) 33 1 aw L.length cw rw' 1 (L.map Ent.wv ++ [.slice a2 n c2]) a3 c3 r3 w3) :
    AddQ w B bk L a n c r xs (.returned (.tuple #[])) (w3.setCell ⟨bk, 5, none⟩ (.slice a3 (L.length + 1) c3)) := by
  have nbw : rw' ≠ some bk := row_nebk hw hbk (by decide)
  have hF2 : Fr (fun k => some k = rw' ∨ k = bk) w2 (w3.setCell ⟨bk, 5, none⟩ (.slice a3 (L.length + 1) c3)) := by
    refine Fr.setCell ?_ (.inl (.inr rfl)) _
    exact (((Fr.refl _ w2).alloc o).trans hA3.fr (fun _ _ h => .inl h))
  have hF : Fr (BS w B) w (w3.setCell ⟨bk, 5, none⟩ (.slice a3 (L.length + 1) c3)) := by
    refine Fr.mono (S := fun k => (some k = ri ∨ k = bk) ∨ some k = rw') ?_ ?_
    · exact (hFW.mono (fun _ _ h => .inl h)).trans ((hfr2.mono (fun _ _ h => h.elim)).trans hF2 (fun _ _ h => h)) (fun k _ h => by exact h.elim .inr (fun h => .inl (.inr h)))
    · rintro k _ ((h | h) | h)
      · obtain ⟨_, h3⟩ := row_blk hi h.symm; exact ⟨hiB k h.symm, _, _, h3, .inr rfl⟩
      · subst h; exact ⟨hB, _, _, hbk, .inl rfl⟩
      · obtain ⟨_, h3⟩ := row_blk hw h.symm; exact ⟨hwB k h.symm, _, _, h3, .inr rfl⟩
  have hsz : w.heap.size ≤ W.heap.size := hFW.size
  have hsz2 : W.heap.size ≤ w2.heap.size := hfr2.size
  have hri : ri' = ri ∨ ∃ k, ri' = some k ∧ w.heap.size ≤ k := by
    rcases hA1.rr with h | ⟨h, _⟩
    · exact .inl h
    · exact .inr ⟨_, h, hw0⟩
  have hr3 : r3 = rw' ∨ ∃ k, r3 = some k ∧ w2.heap.size < k := by
    rcases hA3.rr with h | ⟨h, _⟩
    · exact .inl h
    · exact .inr ⟨_, h, by simp⟩
  have nri : ∀ b, ri' = some b → ¬ (some b = rw' ∨ b = bk) := by
    rintro b hb (h | h)
    · rcases hri with h1 | ⟨k, h1, h2⟩
      · exact hne b (h1 ▸ hb) h.symm
      · rw [hb] at h1; injection h1 with h1; have := hw.lt b h.symm; omega
    · subst h
      rcases hri with h1 | ⟨k, h1, h2⟩
      · exact row_nebk hi hbk (by decide) (h1 ▸ hb)
      · rw [hb] at h1; injection h1 with h1; have := hbk.lt; omega
  have nr2 : ∀ b, r2 = some b → ¬ (some b = rw' ∨ b = bk) := by
    rintro b hb (h | h)
    · have := hb2 b hb; have := hw.lt b h.symm; omega
    · subst h; have := hb2 b hb; have := hbk.lt; omega
  have hbk3 : Bk w3 bk (bcells (.slice ai' (L.length + 1) ci') (.slice aw L.length cw)) 45 := ((hbk2.no hfr2).alloc o).fr hA3.fr (fun h => nbw h.symm)
  have n3b : r3 ≠ some bk := row_nebk hA3.1 hbk3 (by decide)
  refine ⟨rfl, a2, c2, r2, ⟨ai', ci', ri', a3, c3, r3, hB, ?_, ?_, ?_, ?_, ?_, ?_, ?_, ?_⟩, fun b hb => by have := hb2 b hb; omega, hF⟩
  · rw [List.length_append]; exact hbk3.set 5 _
  · rw [List.length_append, List.map_append]; exact (hRi.no hfr2).fr hF2 nri
  · rw [List.length_append, List.map_append]
    exact hA3.1.fr ((Fr.refl (fun k => k = bk) w3).setCell (.inl rfl) _) (fun b hb h => by subst h; exact n3b hb)
  · intro b hb
    rcases hri with h | ⟨k, h, h1⟩
    · exact hiB b (h ▸ hb)
    · rw [hb] at h; injection h with h; omega
  · intro b hb
    rcases hr3 with h | ⟨k, h, h1⟩
    · exact hwB b (h ▸ hb)
    · rw [hb] at h; injection h with h; omega
  · intro b hb hb'
    rcases hr3 with h | ⟨k, h, h1⟩
    · exact nri b hb (.inl (h ▸ hb'.symm))
    · rw [hb'] at h; injection h with h
      have := hRi.lt b hb
      omega
  · intro k hk
    rw [List.mem_append, List.mem_singleton] at hk
    rcases hk with hk | rfl
    · exact (hE k hk).fr hF (row_nbs (hE k hk).1) (row_nbs (hE k hk).2.1)
    · exact ⟨hr.fr hF (row_nbs hr), hrow2.fr hF2 nr2, hrB, fun b hb => by have := hb2 b hb; omega⟩
  · refine hA.snoc hfresh (fun q hq b hb hb' => ?_) (fun b hb hb' => ?_)
    · have := (hE q hq).1.lt b hb; have := hb2 b hb'; omega
    · have := hr.lt b hb; have := hb2 b hb'; omega

set_option maxHeartbeats 800000 in
theorem add_calls (B bk : Nat) (L : List Ent) (a : Option Addr) (n c : Nat) (r : Option Nat) (xs : List El) (w : World) (hBook : BookAt w B bk L) (hL : L.length < 250)
    (hr : Row w 28 2 a n c r (cells xs)) (hrB : ∀ b, r = some b → B ≤ b) (hfresh : ∀ k ∈ L, ∀ b, r = some b → k.r ≠ some b ∧ k.wr ≠ some b) (hBw : B ≤ w.heap.size) (hb : n * 32 ≤ 140737488355328) :
    Calls Try.prog 17 #[.pointer (some ⟨bk, 0, none⟩), .slice a n c] w (AddQ w B bk L a n c r xs) := by
  obtain ⟨ai, ci, ri, aw, cw, rw', hB, hbk, hi, hw, hiB, hwB, hne, hE, hA⟩ := hBook
  obtain ⟨i0, hi0, hz0, hz1, hz2⟩ := info_parts infoL
  have c0 : w.cell? ⟨bk, 4, none⟩ = some (.slice ai L.length ci) := hbk.cell 4
  have c1 : w.cell? ⟨bk, 5, none⟩ = some (.slice aw L.length cw) := hbk.cell 5
  have hlt : (L.length : Int) < 250 := by omega
  have hx : Row (w.alloc (.cells #[.slice a n c] 33)) 33 1 (some ⟨w.heap.size, 0, none⟩) 1 1 (some w.heap.size) [.slice a n c] := Row.one w 33 1 [_] rfl
  go_enter Try.func17, Try.ntmps17
  go_wp2_with (at_builtin; refine wpList_app _ rfl _ _ 41 rfl 33 i0 (.slice none 0 0) 1 24 Try.underlying41 hi0 hz0 hz1 hz2 rfl ai L.length ci rfl ri (L.map Ent.v) (hi.fr ((Fr.refl No w).alloc _) (fun _ _ h => h)) _ 1 1 rfl [.slice a n c] hx.rd (by simp [Value.oneCell']) (by omega) (by omega) ?h3)
  intro ai' ci' ri' w1 hA1
  have hF1 : Fr (fun k => some k = ri) w w1 := ((Fr.refl _ w).alloc _).trans hA1.fr (fun _ _ h => h)
  have nbi : ri ≠ some bk := row_nebk hi hbk (by decide)
  have hbk1 : Bk w1 bk (bcells (.slice ai L.length ci) (.slice aw L.length cw)) 45 := hbk.fr hF1 (fun h => nbi h.symm)
  have c0' : w1.cell? ⟨bk, 4, none⟩ = some (.slice ai L.length ci) := hbk1.cell 4
  have f0' : w1.frozen? ⟨bk, 4, none⟩ = false := hbk1.frozen 4
  clear c0 c1
  go_wp2_with fail
  have hbk2 : Bk (w1.setCell ⟨bk, 4, none⟩ (.slice ai' (L.length + 1) ci')) bk (bcells (.slice ai' (L.length + 1) ci') (.slice aw L.length cw)) 45 := hbk1.set 4 _
  have hFW : Fr (fun k => some k = ri ∨ k = bk) w (w1.setCell ⟨bk, 4, none⟩ (.slice ai' (L.length + 1) ci')) := (hF1.mono (fun _ _ h => .inl h)).setCell (.inl (.inr rfl)) _
  have hRi : Row (w1.setCell ⟨bk, 4, none⟩ (.slice ai' (L.length + 1) ci')) 33 1 ai' (L.length + 1) ci' ri' (L.map Ent.v ++ [.slice a n c]) :=
    hA1.1.fr ((Fr.refl (fun k => k = bk) w1).setCell (.inl rfl) _) (fun b hb h => by
      subst h
      exact row_nebk hA1.1 hbk1 (by decide) hb)
  generalize w1.setCell ⟨bk, 4, none⟩ (.slice ai' (L.length + 1) ci') = W at *
  have c1' : W.cell? ⟨bk, 5, none⟩ = some (.slice aw L.length cw) := hbk2.cell 5
  have hrW : Rd W 2 a n c (cells xs) := hr.rd.fr hFW (by
    intro b hb' h
    have hrb : r = some b := by
      rcases hr.2.2.2.2 with ⟨_, h5⟩ | ⟨g, off, _, h5, h6, _⟩
      · have := hr.le; have h0 : n = 0 := by omega
        simp [abk, h0] at hb'
      · rw [h6] at hb'; rw [h5]
        simp only [abk] at hb'
        split at hb'
        · cases hb'
        · simpa using hb'
    rcases h with h | h
    · exact row_ne hr hi (by decide) hrb h.symm
    · subst h; exact row_nebk hr hbk (by decide) hrb)
  have hwW : Row W 33 1 aw L.length cw rw' (L.map Ent.wv) := hw.fr hFW (by
    intro b hb' h
    rcases h with h | h
    · exact hne b h.symm hb'
    · subst h; exact row_nebk hw hbk (by decide) hb')
  have nbw : rw' ≠ some bk := row_nebk hw hbk (by decide)
  go_region_law (first
    | (refine step_app (by rfl) (.tmp 24) (.tmp 27) 41 (by rfl) 33 i0 (.slice none 0 0) 1 24 Try.underlying41 hi0 hz0 hz1 hz2 rfl aw L.length cw (by rfl) rw' (L.map Ent.wv) ((hwW.no hfr2).alloc _) (some ⟨w2.heap.size, 0, none⟩) 1 1 (by rfl) [.slice a2 n c2] (Row.one w2 33 1 [_] rfl).rd (by simp [Value.oneCell']) (by omega) (by omega) ?_; intro a3 c3 r3 w3 hA3; have hbk4 : Bk w3 bk _ _ := ((hbk2.no hfr2).alloc _).fr hA3.fr (fun h => nbw h.symm); have c4 : w3.cell? ⟨bk, 5, none⟩ = some (.slice aw L.length cw) := hbk4.cell 5; have f4 : w3.frozen? ⟨bk, 5, none⟩ = false := hbk4.frozen 5)
    | (go_simp; go_at_call 33; refine (copy_calls a n c xs _ hrW.drew hb).mono ?_; rintro e w2 ⟨a2, c2, r2, rfl, hrow2, hb2, hfr2'⟩; have hfr2 : Fr No W w2 := ⟨hfr2'.os, hfr2'.tape, hfr2'.output, hfr2'.size, hfr2'.block⟩; have c2' : w2.cell? ⟨bk, 5, none⟩ = some (.slice aw L.length cw) := hfr2.cell (fun h => h) c1'; have c2a : ∀ o, (w2.alloc o).cell? ⟨bk, 5, none⟩ = some (.slice aw L.length cw) := fun o => ((hbk2.no hfr2).alloc o).cell 5))
  all_goals (go_end0; exact add_close hB hbk hi hw hiB hwB hne hE hA hr hrB hfresh hBw (by simp) hA1 hbk2 hFW hRi hrow2 hb2 hfr2 hA3)
end Go.Proofs.Ytofdfmbbnchcoaa
