/- The lists that are kept (Fields): all are grown. -/
import Derived.Test.YtofdfmbbnchcoaaMarked
namespace Go.Proofs.Ytofdfmbbnchcoaa
open Go.RowKit Go.Hp
set_option maxRecDepth 100000

/-- A list that is being grown by n elements, since the world wo. -/
def GI (wo : World) (xa : Option Addr) (xn xc : Nat) (xr : Option Nat) (i n : Nat) (al : Option Addr) (cl : Nat) (rl : Option Nat) (wi : World) : Prop :=
  Fr (fun b => some b = xr) wo wi ∧ Row wi 28 2 xa xn xc xr (cells (marks i 0 xn)) ∧ Row wi 28 2 al (xn + n) cl rl (cells (marks i 0 (xn + n))) ∧
    ((rl = xr ∧ al = xa ∧ cl = xc) ∨ ∃ b, rl = some b ∧ wo.heap.size ≤ b)
theorem GI.no {wo wi w' : World} {xa al : Option Addr} {xn xc i n cl : Nat} {xr rl : Option Nat} (h : GI wo xa xn xc xr i n al cl rl wi) (hf : Fr No wi w') : GI wo xa xn xc xr i n al cl rl w' :=
  ⟨h.1.then_ hf, h.2.1.no hf, h.2.2.1.no hf, h.2.2.2⟩
theorem GI.app {wo w1 w2 : World} {xa al a' : Option Addr} {xn xc i n cl m c' : Nat} {xr rl r' : Option Nat} (h : GI wo xa xn xc xr i n al cl rl w1) (hx : ∀ b, xr = some b → b < wo.heap.size)
    (hA : App w1 28 2 al (xn + n) cl rl m (cells (marks i 0 (xn + n)) ++ cells (marks i (xn + n) m)) a' c' r' w2) : GI wo xa xn xc xr i (n + m) a' c' r' w2 := by
  obtain ⟨h1, h2, h3, h4⟩ := h
  have hrow := hA.1
  have em := marks_add i 0 (xn + n) m
  rw [Nat.zero_add] at em
  rw [← cells_append, ← em, Nat.add_assoc] at hrow
  have hsz := h1.size
  refine ⟨h1.trans hA.fr (fun b hb h => ?_), ?_, hrow, ?_⟩
  · rcases h4 with ⟨h4, _⟩ | ⟨q, h4, h5⟩
    · rw [← h4]; exact h
    · rw [h4] at h; injection h with h; omega
  · rcases hA.2.2 with ⟨e1, e2, e3, hf, _, hle⟩ | ⟨_, hf, _⟩
    · rcases h4 with ⟨h4, h5, h6⟩ | ⟨q, h4, h5⟩
      · rw [e1, e2, e3, h4, h5, h6] at hrow
        have hp := hrow.front (m := xn) (by omega)
        have e : (cells (marks i 0 (xn + (n + m)))).take (xn * 2) = cells (marks i 0 xn) := by
          rw [marks_add, cells_append, List.take_append_of_le_length (by rw [cells_len, marks_len]; exact Nat.le_refl _), List.take_of_length_le (by rw [cells_len, marks_len]; omega)]
        rw [e] at hp
        exact hp
      · exact h2.fr hf (fun b hb h => by rw [h4] at h; injection h with h; have := hx b hb; omega)
    · exact h2.no hf
  · rcases hA.2.2 with ⟨e1, e2, e3, hf, _, hle⟩ | ⟨e1, hf, _⟩
    · rcases h4 with ⟨h4, h5, h6⟩ | ⟨q, h4, h5⟩
      · exact .inl ⟨e3.trans h4, e1.trans h5, e2.trans h6⟩
      · exact .inr ⟨q, e3.trans h4, h5⟩
    · exact .inr ⟨_, e1, hsz⟩

/-- The lists' own rows. -/
def LS (L : List Ent) : Nat → Prop := fun b => ∃ (j : Nat) (x : Ent), L[j]? = some x ∧ x.r = some b
theorem ListsAt.rows {w : World} {B bk : Nat} {L : List Ent} (h : ListsAt w B bk L) : (∀ (j : Nat) (x : Ent), L[j]? = some x → Row w 28 2 x.a x.n x.c x.r (cells x.xs)) ∧ (∀ b, LS L b → B ≤ b ∧ b < w.heap.size) ∧
    (∀ (i j : Nat) (k k' : Ent), L[i]? = some k → L[j]? = some k' → i ≠ j → ∀ b, k.r = some b → k'.r ≠ some b) := by
  obtain ⟨ai, ci, ri, y, hB, hb, hi, hiB, hE, hA⟩ := h
  exact ⟨fun j x hj => (hE j x hj).1, fun b ⟨j, x, hj, hx⟩ => ⟨(hE j x hj).2 b hx, (hE j x hj).1.lt b hx⟩, hA⟩
theorem ListsAt.of_rows {w wr : World} {B bk : Nat} {L : List Ent} (h : ListsAt w B bk L) (hf : Fr (LS L) w wr) (hr : ∀ (j : Nat) (x : Ent), L[j]? = some x → Row wr 28 2 x.a x.n x.c x.r (cells x.xs)) : ListsAt wr B bk L := by
  obtain ⟨ai, ci, ri, y, hB, hb, hi, hiB, hE, hA⟩ := h
  refine ⟨ai, ci, ri, y, hB, hb.fr hf ?_, hi.fr hf ?_, hiB, fun j k hj => ⟨hr j k hj, (hE j k hj).2⟩, hA⟩
  · rintro ⟨j, x, hj, hx⟩
    exact row_nebk (hE j x hj).1 hb (by decide) hx
  · rintro b hb' ⟨j, x, hj, hx⟩
    exact row_ne hi (hE j x hj).1 (by decide) hb' hx

/-- The lists that were grown so far, and those of the book. -/
def GO (w : World) (L : List Ent) (ao : Option Addr) (co : Nat) (ro : Option Nat) (G : List Ent) (wr : World) : Prop :=
  Fr (LS L) w wr ∧ (∀ (j : Nat) (x : Ent), L[j]? = some x → Row wr 28 2 x.a x.n x.c x.r (cells x.xs)) ∧ (Row wr 33 1 ao G.length co ro (G.map Ent.v) ∧ (∀ b, ro = some b → w.heap.size ≤ b)) ∧
    ∀ (j : Nat) (k : Ent), G[j]? = some k → Row wr 28 2 k.a k.n k.c k.r (cells (marks j 0 k.n)) ∧ k.n ≤ 2147483648 ∧ ((∃ x, L[j]? = some x ∧ k.r = x.r) ∨ ∃ b, k.r = some b ∧ w.heap.size ≤ b)

theorem GO.step {w wo w1 w3 : World} {B bk i : Nat} {L G : List Ent} {x : Ent} {ao ao' a' : Option Addr} {co co' c' : Nat} {r' ro ro' : Option Nat} {o : Obj} (hLs : ListsAt w B bk L)
    (h : GO w L ao co ro G wo) (hG : G.length = i) (hx : L[i]? = some x) (hxs : x.xs = marks i 0 x.n) (hxn : x.n ≤ 1073741824) (hg : GI wo x.a x.n x.c x.r i 72 a' c' r' w1)
    (hA : App (w1.alloc o) 33 1 ao G.length co ro 1 (G.map Ent.v ++ [.slice a' (x.n + 72) c']) ao' co' ro' w3) :
    GO w L ao' co' ro' (G ++ [⟨a', x.n + 72, c', r', none, 0, none, []⟩]) w3 := by
  obtain ⟨hr0, hlt, hap⟩ := hLs.rows
  obtain ⟨h1, h2, ⟨h3, h4⟩, h5⟩ := h
  obtain ⟨g1, g2, g3, g4⟩ := hg
  have hxl : ∀ b, x.r = some b → b < w.heap.size := fun b hb => (hlt b ⟨i, x, hx, hb⟩).2
  have hF1 : Fr (fun b => some b = ro) w1 w3 := (((Fr.refl _ w1).alloc o).trans hA.fr (fun _ _ h => h))
  have hF : Fr (fun b => some b = x.r ∨ some b = ro) wo w3 := (g1.mono (fun _ _ h => .inl h)).trans hF1 (fun _ _ h => .inr h)
  have nxo : ∀ b, x.r = some b → ro ≠ some b := fun b hb hb' => by have := hxl b hb; have := h4 b hb'; omega
  have h31 : Row w1 33 1 ao G.length co ro (G.map Ent.v) := h3.fr g1 (fun b hb h => nxo b h.symm hb)
  have hsz0 := h1.size
  have hsz1 := g1.size
  refine ⟨h1.trans hF (fun b hb hS => ?_), fun j y hj => ?_, ⟨?_, fun b hb => ?_⟩, fun j k hj => ?_⟩
  · rcases hS with hS | hS
    · exact ⟨i, x, hx, hS.symm⟩
    · have := h4 b hS.symm; omega
  · by_cases hji : j = i
    · subst hji
      rw [hx] at hj; injection hj with hj; subst hj
      rw [hxs]
      exact g2.fr hF1 (fun b hb h => nxo b hb h.symm)
    · refine (h2 j y hj).fr hF (fun b hb hS => ?_)
      rcases hS with hS | hS
      · exact hap j i y x hj hx hji b hb hS.symm
      · have := h4 b hS.symm; have := (hlt b ⟨j, y, hj, hb⟩).2; omega
  · rw [List.length_append, List.map_append]; exact hA.1
  · rcases hA.rr with e | ⟨e, _⟩
    · exact h4 b (e ▸ hb)
    · rw [e] at hb; injection hb with hb; simp at hb; omega
  · rw [List.getElem?_append] at hj
    split at hj
    · rename_i hjl
      obtain ⟨k1, k2, k3⟩ := h5 j k hj
      refine ⟨k1.fr hF (fun b hb hS => ?_), k2, k3⟩
      rcases hS with hS | hS
      · rcases k3 with ⟨y, k3, k4⟩ | ⟨q, k3, k4⟩
        · exact hap j i y x k3 hx (by omega) b (k4 ▸ hb) hS.symm
        · rw [hb] at k3; injection k3 with k3; have := hxl b hS.symm; omega
      · exact row_ne k1 h3 (by decide) hb hS.symm
    · have hj0 : j = i := by
        rcases Nat.eq_zero_or_pos (j - G.length) with h0 | h0
        · omega
        · rw [List.getElem?_eq_none (by simp; omega)] at hj; cases hj
      subst hj0
      rw [hG, Nat.sub_self] at hj
      simp only [List.getElem?_cons_zero, Option.some.injEq] at hj
      subst hj
      refine ⟨g3.fr hF1 (fun b hb h => row_ne g3 h31 (by decide) hb h.symm), by show x.n + 72 ≤ _; omega, ?_⟩
      rcases g4 with ⟨e, _⟩ | ⟨q, e, hq⟩
      · exact .inl ⟨x, hx, e⟩
      · exact .inr ⟨q, e, by omega⟩
theorem GO.start {w : World} {B bk : Nat} {L : List Ent} (hLs : ListsAt w B bk L) : GO w L none 0 none [] w :=
  ⟨Fr.refl _ _, hLs.rows.1, ⟨Row.nil _ _ _, fun _ h => by cases h⟩, fun _ _ h => by simp at h⟩
theorem GI.start {w wo : World} {L G : List Ent} {ao : Option Addr} {co i : Nat} {ro : Option Nat} {x : Ent} (h : GO w L ao co ro G wo) (hx : L[i]? = some x) (hxs : x.xs = marks i 0 x.n) : GI wo x.a x.n x.c x.r i 0 x.a x.c x.r wo := by
  have := h.2.1 i x hx
  rw [hxs] at this
  exact ⟨Fr.refl _ _, this, this, .inl ⟨rfl, rfl, rfl⟩⟩

theorem GO.start' {w wo : World} {L G : List Ent} {ao xa xwa : Option Addr} {co i xn xc xwc : Nat} {ro xr xwr : Option Nat} {xs : List El} (h : GO w L ao co ro G wo) (hx : L[i]? = some ⟨xa, xn, xc, xr, xwa, xwc, xwr, xs⟩) (hxs : xs = marks i 0 xn) : GI wo xa xn xc xr i 0 xa xc xr wo :=
  GI.start h hx hxs

/-- What the grown lists are behind the call. -/
def GrowQ (w : World) (B bk : Nat) (L : List Ent) (e : Ending) (w' : World) : Prop :=
  ∃ a c G, e = .returned (.slice a G.length c) ∧ G.length = L.length ∧ AllMarked w' a c G ∧ ListsAt w' B bk L ∧ Below B w w'
theorem GO.done {w wr : World} {B bk : Nat} {L G : List Ent} {ao : Option Addr} {co : Nat} {ro : Option Nat} (hLs : ListsAt w B bk L) (h : GO w L ao co ro G wr) (hl : G.length = L.length) (hBw : B ≤ w.heap.size) :
    GrowQ w B bk L (.returned (.slice ao G.length co)) wr :=
  ⟨ao, co, G, rfl, hl, ⟨h.2.2.1.1.rd, fun j k hj => ⟨(h.2.2.2 j k hj).1.rd, (h.2.2.2 j k hj).2.1⟩⟩, hLs.of_rows h.1 h.2.1, h.1.below hBw (fun b hb => (hLs.rows.2.1 b hb).1)⟩
end Go.Proofs.Ytofdfmbbnchcoaa
