/- QueuePlays: what holds between two operations. -/
import Derived.Test.YtonehdeoonjgbaaQueueAlive
import Derived.Test.YtonehdeoonjgbaaApart
namespace Go.Proofs.Ytonehdeoonjgbaa
open Go.RowKit Go.Hp
set_option maxRecDepth 100000

/-- The queue, and the lists that are kept. -/
structure Core (w0 : World) (B q bk : Nat) (most : Int) (k : Nat) (rq : Option Nat) (R : List Int) (L : List Ent) (wr : World) : Prop where
  queue : QAt wr q rq R most
  book : BookAt wr B bk L
  len : L.length = k
  rqB : ∀ b, rq = some b → B ≤ b
  apart : ∀ e ∈ L, ∀ b, rq = some b → e.r ≠ some b ∧ e.wr ≠ some b
  small : ∀ e ∈ L, e.n ≤ 1000
  below : Below B w0 wr
  qB : B ≤ q
  size : B ≤ wr.heap.size
/-- The law's own list. -/
def RowR (wr : World) (rq : Option Nat) (ra : Option Addr) (rc : Nat) (R : List Int) : Prop := ∃ rr, Row wr 3 1 ra R.length rc rr (cells R) ∧ ∀ b, rq = some b → rr ≠ some b

section
variable {w0 W W' : World} {B q bk k : Nat} {most : Int} {rq rq' : Option Nat} {R R' : List Int} {L : List Ent}
theorem Core.no (h : Core w0 B q bk most k rq R L W) (hf : Fr No W W') : Core w0 B q bk most k rq R L W' :=
  ⟨h.queue.no hf, h.book.no hf, h.len, h.rqB, h.apart, h.small, h.below.trans (hf.below h.size (fun _ h => h.elim)), h.qB, Nat.le_trans h.size hf.size⟩
theorem RowR.no {ra : Option Addr} {rc : Nat} (h : RowR W rq ra rc R) (hf : Fr No W W') : RowR W' rq ra rc R := by
  obtain ⟨rr, h1, h2⟩ := h; exact ⟨rr, h1.no hf, h2⟩
theorem RowR.fresh {ra : Option Addr} {n rc : Nat} {rr : Option Nat} (hq : QAt W q rq R most) (hr : Row W' 3 1 ra n rc rr (cells R')) (hn : n = R'.length) (hf : ∀ b, rr = some b → W.heap.size ≤ b) : RowR W' rq ra rc R' := by
  subst hn
  refine ⟨rr, hr, fun b hb hb' => ?_⟩
  obtain ⟨_, _, _, h⟩ := hq
  have := h.lt b hb; have := hf b hb'; omega
theorem Core.step (h : Core w0 B q bk most k rq R L W) (hs : QStep W q rq W' rq') (hq : QAt W' q rq' R' most) : Core w0 B q bk most k rq' R' L W' := by
  obtain ⟨hb, hrB, hsz⟩ := hs.rest h.qB h.rqB h.size
  obtain ⟨a, c, hbk, hrow⟩ := h.queue
  have hE : ∀ e ∈ L, EntAt W B e := by obtain ⟨_, _, _, _, _, _, _, _, _, _, _, _, _, hE, _⟩ := h.book; exact hE
  refine ⟨hq, h.book.fr hs.2 ?_ ?_, h.len, hrB, ?_, h.small, h.below.trans hb, h.qB, hsz⟩
  · rintro b ⟨_, cs, T, h1, h2⟩ (rfl | h3)
    · rcases h2 with rfl | rfl <;> exact Bk.ne h1 hbk (by decide) rfl
    · rcases h2 with rfl | rfl <;> exact row_nebk hrow h1 (by decide) h3.symm
  · intro e he
    refine ⟨?_, ?_⟩
    · rintro b hb (rfl | h3)
      · exact row_nebk (hE e he).1 hbk (by decide) hb
      · exact (h.apart e he b h3.symm).1 hb
    · rintro b hb (rfl | h3)
      · exact row_nebk (hE e he).2.1 hbk (by decide) hb
      · exact (h.apart e he b h3.symm).2 hb
  · intro e he b hb
    rcases hs.1 with e1 | ⟨b', e1, e2⟩
    · exact h.apart e he b (e1 ▸ hb)
    · rw [hb] at e1; injection e1 with e1
      exact ⟨fun h1 => by have := (hE e he).1.lt b h1; omega, fun h1 => by have := (hE e he).2.1.lt b h1; omega⟩
theorem RowR.step {ra : Option Addr} {rc : Nat} {R2 : List Int} (hq : QAt W q rq R most) (h : RowR W rq ra rc R2) (hs : QStep W q rq W' rq') : RowR W' rq' ra rc R2 := by
  obtain ⟨rr, h1, h2⟩ := h
  obtain ⟨a, c, hbk, hrow⟩ := hq
  refine ⟨rr, h1.fr hs.2 ?_, fun b hb hb' => ?_⟩
  · rintro b hb (rfl | h3)
    · exact row_nebk h1 hbk (by decide) hb
    · exact h2 b h3.symm hb
  · rcases hs.1 with e1 | ⟨b', e1, e2⟩
    · exact h2 b (e1 ▸ hb) hb'
    · rw [hb] at e1; injection e1 with e1
      have := h1.lt b hb'; omega
/-- One list more is kept. -/
theorem Core.add {a : Option Addr} {n c : Nat} {r : Option Nat} {xs : List El} {e : Ending} (h : Core w0 B q bk most k rq R L W) (hA : AddQ W B bk L a n c r xs e W') (hrq : ∀ b, rq = some b → r ≠ some b) (hn : n ≤ 1000) :
    ∃ L', Core w0 B q bk most (k + 1) rq R L' W' := by
  obtain ⟨_, wa, wc, wr, hbook, hwr, hF⟩ := hA
  obtain ⟨a0, c0, hbk, hrow⟩ := h.queue
  have hsz := hF.size
  refine ⟨_, ⟨⟨a0, c0, hbk.fr hF ?_, hrow.fr hF (row_nbs hrow)⟩, hbook, by rw [List.length_append, h.len]; rfl, h.rqB, ?_, ?_, h.below.trans (hF.below h.size (fun b hb => hb.1)), h.qB, Nat.le_trans h.size hsz⟩⟩
  · rintro ⟨_, cs, T, h1, h2⟩
    rcases h2 with rfl | rfl <;> exact Bk.ne h1 hbk (by decide) rfl
  · intro e he b hb
    rw [List.mem_append, List.mem_singleton] at he
    rcases he with he | rfl
    · exact h.apart e he b hb
    · exact ⟨hrq b hb, fun h1 => by have := hwr b h1; have := hrow.lt b hb; omega⟩
  · intro e he
    rw [List.mem_append, List.mem_singleton] at he
    rcases he with he | rfl
    · exact h.small e he
    · exact hn
theorem RowR.add {ra : Option Addr} {rc : Nat} {R2 : List Int} {a : Option Addr} {n c : Nat} {r : Option Nat} {xs : List El} {e : Ending} (h : RowR W rq ra rc R2) (hA : AddQ W B bk L a n c r xs e W') : RowR W' rq ra rc R2 := by
  obtain ⟨_, wa, wc, wr, hbook, hwr, hF⟩ := hA
  obtain ⟨rr, h1, h2⟩ := h
  exact ⟨rr, h1.fr hF (row_nbs h1), h2⟩
end

theorem Core.done {w0 W W' : World} {B q bk k ob : Nat} {most : Int} {rq : Option Nat} {R R' R2 : List Int} {L : List Ent} {ra : Option Addr} {rc : Nat} {cs : List Value} {x : Value} {e : Ending}
    (h : Core w0 B q bk most k rq R L W) (hr : RowR W rq ra rc R2) (hb : Bk W ob cs 43) (hD : QDone W q rq R' most x e W') :
    e = .returned x ∧ ∃ rq', Core w0 B q bk most k rq' R' L W' ∧ RowR W' rq' ra rc R2 ∧ Bk W' ob cs 43 := by
  obtain ⟨he, rq', hq, hs⟩ := hD
  refine ⟨he, rq', h.step hs hq, hr.step h.queue hs, hb.fr hs.2 ?_⟩
  obtain ⟨a, c, hbk, hrow⟩ := h.queue
  rintro (rfl | h3)
  · exact Bk.ne hb hbk (by decide) rfl
  · exact row_nebk hrow hb (by decide) h3.symm
/-- Two appends, the first one to nil: a new row. -/
theorem app2 {W w0 w1 w1' w2 : World} {e z m m2 c1 c2 : Nat} {a1 a2 : Option Addr} {r1 r2 : Option Nat} {cs cs2 : List Value} (hW : Fr No W w0) (hA1 : App w0 e z none 0 0 none m cs a1 c1 r1 w1) (h12 : Fr No w1 w1')
    (hA2 : App w1' e z a1 m c1 r1 m2 cs2 a2 c2 r2 w2) : Row w2 e z a2 (m + m2) c2 r2 cs2 ∧ (∀ k, r2 = some k → W.heap.size ≤ k) ∧ Fr No W w2 := by
  obtain ⟨h1, h2, h3⟩ := App.fresh hA1 hW
  have s1 := h3.size; have s2 := h12.size
  refine ⟨hA2.1, fun k hk => ?_, (h3.then_ h12).trans hA2.fr (fun k hk h => by have := h2 k h.symm; omega)⟩
  rcases hA2.rr with e | ⟨e, _⟩
  · exact h2 k (e ▸ hk)
  · rw [e] at hk; injection hk with hk; omega

/-- An append to one new row. -/
theorem app_one {W w' : World} {e z m c' : Nat} {a' : Option Addr} {r' : Option Nat} {cs cs' : List Value} (hA : App (W.alloc (.cells cs.toArray e)) e z (some ⟨W.heap.size, 0, none⟩) 1 1 (some W.heap.size) m cs' a' c' r' w') :
    (∀ k, r' = some k → W.heap.size ≤ k) ∧ Fr No W w' := by
  have h1 : Fr No W (W.alloc (.cells cs.toArray e)) := (Fr.refl No W).alloc _
  refine ⟨fun k hk => ?_, h1.trans hA.fr (fun k hk h => by injection h with h; omega)⟩
  rcases hA.rr with e | ⟨e, _⟩
  · rw [e] at hk; injection hk with hk; omega
  · rw [e] at hk; injection hk with hk; have := h1.size; omega

theorem Rd.cutTo {w : World} {a : Option Addr} {n c i : Nat} {cs : List Value} (h : Rd w 1 a n c cs) (hi : i ≤ n) : Rd w 1 a i c (cs.take i) := by
  obtain ⟨h1, h2, h3, h4, h5⟩ := h
  refine ⟨by rw [List.length_take]; omega, by omega, h3, h4, fun h0 => ?_⟩
  obtain ⟨g, off, ha, hg, hc⟩ := h5 (by omega)
  refine ⟨g, off, ha, hg, fun j u hu => hc j u ?_⟩
  rw [List.getElem?_take] at hu
  split at hu
  · exact hu
  · cases hu
theorem Rd.from_ {w : World} {g off n c i : Nat} {cs : List Value} (h : Rd w 1 (some ⟨g, off, none⟩) n c cs) (hi : i ≤ n) : Rd w 1 (some ⟨g, off + i, none⟩) (n - i) (c - i) (cs.drop i) := by
  obtain ⟨h1, h2, h3, h4, h5⟩ := h
  refine ⟨by rw [List.length_drop]; omega, by omega, by omega, (fun h => by cases h), fun h0 => ?_⟩
  obtain ⟨g', off', ha, hg, hc⟩ := h5 (by omega)
  injection ha with ha; injection ha with ha1 ha2; subst ha1; subst ha2
  refine ⟨g, off + i, rfl, hg, fun j u hu => ?_⟩
  rw [List.getElem?_drop] at hu
  have := hc _ u hu
  rwa [← Nat.add_assoc] at this
theorem Rd.zero (w : World) (a : Addr) : Rd w 1 (some a) 0 0 [] := ⟨rfl, Nat.le_refl _, by omega, (fun h => by cases h), (fun h => by omega)⟩

/-- Between two operations: k were done; the law's list may have m elements. -/
def St (w0 : World) (B q bk : Nat) (most : Int) (k m : Nat) (v : Value) (wr : World) : Prop :=
  ∃ rq R L ra rc, v = .slice ra R.length rc ∧ Core w0 B q bk most k rq R L wr ∧ RowR wr rq ra rc R ∧ R.Nodup ∧ R.length ≤ m

/-- The cells of the operations. -/
def opcells (ops : List (Int × Int)) : List Value := ops.flatMap fun o => [.int .i64 o.1, .int .i64 o.2]
theorem opcells_len (ops : List (Int × Int)) : (opcells ops).length = ops.length * 2 := by
  induction ops with
  | nil => rfl
  | cons o ops ih => simp only [opcells, List.flatMap_cons, List.length_append, List.length_cons, List.length_nil] at *; rw [ih]; omega
theorem opcells_get (ops : List (Int × Int)) (k : Nat) (h : k < ops.length) : (opcells ops)[k * 2]? = some (.int .i64 (ops.getD k (0, 0)).1) ∧ (opcells ops)[k * 2 + 1]? = some (.int .i64 (ops.getD k (0, 0)).2) := by
  induction ops generalizing k with
  | nil => simp at h
  | cons o ops ih =>
    cases k with
    | zero => exact ⟨rfl, rfl⟩
    | succ k =>
      have := ih k (by simpa using h)
      simp only [opcells, List.flatMap_cons] at *
      have e1 : (k + 1) * 2 = k * 2 + 2 := by omega
      rw [e1, List.getElem?_append_right (by simp), List.getElem?_append_right (by simp)]
      simpa using this

theorem idx_snoc {l : List Int} {x y : Int} (hn : (l ++ [y]).Nodup) : idx (l ++ [y]) x = if y = x then (l.length : Int) else idx l x := by
  unfold idx
  by_cases h : y = x
  · subst h
    rw [if_pos (by simp), if_pos rfl]
    have : y ∉ l := by
      rw [List.nodup_append] at hn
      exact fun h => hn.2.2 y h y (by simp) rfl
    rw [List.idxOf_append, if_neg this]; simp
  · rw [if_neg h]
    by_cases hm : x ∈ l
    · rw [if_pos (by simp [hm]), if_pos hm, List.idxOf_append, if_pos hm]
    · rw [if_neg (by simp [hm]; exact fun e => h e.symm), if_neg hm]
theorem nodup_snoc {R : List Int} {x : Int} (h : R.Nodup) (hx : x ∉ R) : (R ++ [x]).Nodup := by
  rw [List.nodup_append]
  exact ⟨h, by simp, fun a ha b hb e => by simp at hb; subst hb; subst e; exact hx ha⟩
theorem nodup_cut {R : List Int} {i : Nat} (h : R.Nodup) : (R.take i ++ R.drop (i + 1)).Nodup := by
  rw [← List.eraseIdx_eq_take_drop_succ]
  exact h.sublist (List.eraseIdx_sublist R i)
end Go.Proofs.Ytonehdeoonjgbaa
