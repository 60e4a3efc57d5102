/- TablePlays: what holds between two operations. -/
import Derived.Test.YtofdfmbbnchcoaaTabAlive
import Derived.Test.YtofdfmbbnchcoaaApart
namespace Go.Proofs.Ytofdfmbbnchcoaa
open Go.RowKit Go.Hp
set_option maxRecDepth 100000

/-- Both tables, and the lists that are kept. -/
structure Core (w0 : World) (B q p bk k : Nat) (s s2 : Int) (rq rp : Option Nat) (R R2 : List El) (L : List Ent) (wr : World) : Prop where
  tab : TAt wr q rq R s
  ref : RAt wr p rp R2 s2
  book : BookAt wr B bk L
  len : L.length = k
  rqB : ∀ b, rq = some b → B ≤ b
  rpB : ∀ b, rp = some b → B ≤ b
  two : ∀ b, rq = some b → rp ≠ some b
  apart : ∀ e ∈ L, ∀ b, rq = some b → e.r ≠ some b ∧ e.wr ≠ some b
  apart2 : ∀ e ∈ L, ∀ b, rp = some b → e.r ≠ some b ∧ e.wr ≠ some b
  small : ∀ e ∈ L, e.n ≤ 1000
  below : Below B w0 wr
  qB : B ≤ q
  pB : B ≤ p
  size : B ≤ wr.heap.size

section
variable {w0 W W' : World} {B q p bk k : Nat} {s s' s2 s2' : Int} {rq rq' rp rp' : Option Nat} {R R' R2 R2' : List El} {L : List Ent}
theorem Core.no (h : Core w0 B q p bk k s s2 rq rp R R2 L W) (hf : Fr No W W') : Core w0 B q p bk k s s2 rq rp R R2 L W' :=
  ⟨h.tab.no hf, h.ref.no hf, h.book.no hf, h.len, h.rqB, h.rpB, h.two, h.apart, h.apart2, h.small, h.below.trans (hf.below h.size (fun _ h => h.elim)), h.qB, h.pB, Nat.le_trans h.size hf.size⟩
theorem Core.qp (h : Core w0 B q p bk k s s2 rq rp R R2 L W) : q ≠ p := by
  obtain ⟨_, _, h1, _⟩ := h.tab; obtain ⟨_, _, h2, _⟩ := h.ref
  exact h1.ne h2 (by decide)
theorem Core.stepT (h : Core w0 B q p bk k s s2 rq rp R R2 L W) (hs : TStep W q rq W' rq') (hq : TAt W' q rq' R' s') : Core w0 B q p bk k s' s2 rq' rp R' R2 L W' := by
  obtain ⟨hb, hrB, hsz⟩ := hs.rest h.qB h.rqB h.size
  obtain ⟨a, c, hbk, hrow⟩ := h.tab
  obtain ⟨a2, c2, hbk2, hrow2⟩ := h.ref
  have hE : ∀ e ∈ L, EntAt W B e := by obtain ⟨_, _, _, _, _, _, _, _, _, _, _, _, _, hE, _⟩ := h.book; exact hE
  refine ⟨hq, h.ref.fr hs.2 ?_ ?_, h.book.fr hs.2 ?_ ?_, h.len, hrB, h.rpB, ?_, ?_, h.apart2, h.small, h.below.trans hb, h.qB, h.pB, hsz⟩
  · rintro (h1 | h1)
    · exact h.qp h1.symm
    · exact row_nebk hrow hbk2 (by decide) h1.symm
  · rintro b hb (h1 | h1)
    · subst h1; exact row_nebk hrow2 hbk (by decide) hb
    · exact h.two b h1.symm hb
  · rintro b ⟨_, cs, T, h1, h2⟩ (rfl | h3)
    · rcases h2 with rfl | rfl <;> exact Bk.ne h1 hbk (by decide) rfl
    · rcases h2 with rfl | rfl <;> exact row_nebk hrow h1 (by decide) h3.symm
  · intro e he
    refine ⟨?_, ?_⟩
    · rintro b hb (rfl | h3)
      · exact row_nebk (hE e he).1 hbk (by decide) hb
      · exact (h.apart e he b h3.symm).1 hb
    · rintro b hb (rfl | h3)
      · exact row_nebk (hE e he).2.1 hbk (by decide) hb
      · exact (h.apart e he b h3.symm).2 hb
  · intro b hb hb2
    rcases hs.1 with e1 | ⟨b', e1, e2⟩
    · exact h.two b (e1 ▸ hb) hb2
    · rw [hb] at e1; injection e1 with e1
      have := hrow2.lt b hb2; omega
  · intro e he b hb
    rcases hs.1 with e1 | ⟨b', e1, e2⟩
    · exact h.apart e he b (e1 ▸ hb)
    · rw [hb] at e1; injection e1 with e1
      exact ⟨fun h1 => by have := (hE e he).1.lt b h1; omega, fun h1 => by have := (hE e he).2.1.lt b h1; omega⟩
theorem Core.stepR (h : Core w0 B q p bk k s s2 rq rp R R2 L W) (hs : TStep W p rp W' rp') (hq : RAt W' p rp' R2' s2') : Core w0 B q p bk k s s2' rq rp' R R2' L W' := by
  obtain ⟨hb, hrB, hsz⟩ := hs.rest h.pB h.rpB h.size
  obtain ⟨a, c, hbk, hrow⟩ := h.tab
  obtain ⟨a2, c2, hbk2, hrow2⟩ := h.ref
  have hE : ∀ e ∈ L, EntAt W B e := by obtain ⟨_, _, _, _, _, _, _, _, _, _, _, _, _, hE, _⟩ := h.book; exact hE
  refine ⟨h.tab.fr hs.2 ?_ ?_, hq, h.book.fr hs.2 ?_ ?_, h.len, h.rqB, hrB, ?_, h.apart, ?_, h.small, h.below.trans hb, h.qB, h.pB, hsz⟩
  · rintro (h1 | h1)
    · exact h.qp h1
    · exact row_nebk hrow2 hbk (by decide) h1.symm
  · rintro b hb (h1 | h1)
    · subst h1; exact row_nebk hrow hbk2 (by decide) hb
    · exact h.two b hb h1.symm
  · rintro b ⟨_, cs, T, h1, h2⟩ (rfl | h3)
    · rcases h2 with rfl | rfl <;> exact Bk.ne h1 hbk2 (by decide) rfl
    · rcases h2 with rfl | rfl <;> exact row_nebk hrow2 h1 (by decide) h3.symm
  · intro e he
    refine ⟨?_, ?_⟩
    · rintro b hb (rfl | h3)
      · exact row_nebk (hE e he).1 hbk2 (by decide) hb
      · exact (h.apart2 e he b h3.symm).1 hb
    · rintro b hb (rfl | h3)
      · exact row_nebk (hE e he).2.1 hbk2 (by decide) hb
      · exact (h.apart2 e he b h3.symm).2 hb
  · intro b hb hb2
    rcases hs.1 with e1 | ⟨b', e1, e2⟩
    · exact h.two b hb (e1 ▸ hb2)
    · rw [hb2] at e1; injection e1 with e1
      have := hrow.lt b hb; omega
  · intro e he b hb
    rcases hs.1 with e1 | ⟨b', e1, e2⟩
    · exact h.apart2 e he b (e1 ▸ hb)
    · rw [hb] at e1; injection e1 with e1
      exact ⟨fun h1 => by have := (hE e he).1.lt b h1; omega, fun h1 => by have := (hE e he).2.1.lt b h1; omega⟩
theorem TStep.of_fr {w w' : World} {q : Nat} {r : Option Nat} (h : Fr (fun b => b = q) w w') : TStep w q r w' r := ⟨.inl rfl, h.mono (fun _ _ h => .inl h)⟩
/-- What lies apart from both. -/
theorem Core.keepT {ob T : Nat} {cs : List Value} (h : Core w0 B q p bk k s s2 rq rp R R2 L W) (hs : TStep W q rq W' rq') (hb : Bk W ob cs T) (h1 : T ≠ 28) (h2 : T ≠ 56) : Bk W' ob cs T := by
  obtain ⟨a, c, hbk, hrow⟩ := h.tab
  refine hb.fr hs.2 ?_
  rintro (rfl | h3)
  · exact Bk.ne hb hbk h2 rfl
  · exact row_nebk hrow hb h1.symm h3.symm
theorem Core.keepR {ob T : Nat} {cs : List Value} (h : Core w0 B q p bk k s s2 rq rp R R2 L W) (hs : TStep W p rp W' rp') (hb : Bk W ob cs T) (h1 : T ≠ 28) (h2 : T ≠ 37) : Bk W' ob cs T := by
  obtain ⟨a, c, hbk, hrow⟩ := h.ref
  refine hb.fr hs.2 ?_
  rintro (rfl | h3)
  · exact Bk.ne hb hbk h2 rfl
  · exact row_nebk hrow hb h1.symm h3.symm
/-- One list more is kept. -/
theorem Core.add {a : Option Addr} {n c : Nat} {r : Option Nat} {xs : List El} {e : Ending} (h : Core w0 B q p bk k s s2 rq rp R R2 L W) (hA : AddQ W B bk L a n c r xs e W') (hrq : ∀ b, rq = some b → r ≠ some b) (hrp : ∀ b, rp = some b → r ≠ some b) (hn : n ≤ 1000) :
    ∃ L', Core w0 B q p bk (k + 1) s s2 rq rp R R2 L' W' := by
  obtain ⟨_, wa, wc, wr, hbook, hwr, hF⟩ := hA
  obtain ⟨a0, c0, hbk, hrow⟩ := h.tab
  obtain ⟨a2, c2, hbk2, hrow2⟩ := h.ref
  have hsz := hF.size
  refine ⟨_, ⟨⟨a0, c0, hbk.fr hF ?_, hrow.fr hF (row_nbs hrow)⟩, ⟨a2, c2, hbk2.fr hF ?_, hrow2.fr hF (row_nbs hrow2)⟩, hbook, by rw [List.length_append, h.len]; rfl, h.rqB, h.rpB, h.two, ?_, ?_, ?_, h.below.trans (hF.below h.size (fun b hb => hb.1)), h.qB, h.pB, Nat.le_trans h.size hsz⟩⟩
  · rintro ⟨_, cs, T, h1, h2⟩
    rcases h2 with rfl | rfl <;> exact Bk.ne h1 hbk (by decide) rfl
  · rintro ⟨_, cs, T, h1, h2⟩
    rcases h2 with rfl | rfl <;> exact Bk.ne h1 hbk2 (by decide) rfl
  · intro e he b hb
    rw [List.mem_append, List.mem_singleton] at he
    rcases he with he | rfl
    · exact h.apart e he b hb
    · exact ⟨hrq b hb, fun h1 => by have := hwr b h1; have := hrow.lt b hb; omega⟩
  · intro e he b hb
    rw [List.mem_append, List.mem_singleton] at he
    rcases he with he | rfl
    · exact h.apart2 e he b hb
    · exact ⟨hrp b hb, fun h1 => by have := hwr b h1; have := hrow2.lt b hb; omega⟩
  · intro e he
    rw [List.mem_append, List.mem_singleton] at he
    rcases he with he | rfl
    · exact h.small e he
    · exact hn
end

/-- The cells of the operations. -/
structure OpV where
  kind : Int
  n : Int
  x : ByteArray
  y : ByteArray
def op0 : OpV := ⟨0, 0, ⟨#[]⟩, ⟨#[]⟩⟩
def OpV.cells (o : OpV) : List Value := [.int .i64 o.kind, .int .i64 o.n, .string o.x, .string o.y]
def opcells (ops : List OpV) : List Value := ops.flatMap OpV.cells
theorem opcells_len (ops : List OpV) : (opcells ops).length = ops.length * 4 := by
  induction ops with
  | nil => rfl
  | cons o ops ih => simp only [opcells, OpV.cells, List.flatMap_cons, List.length_append, List.length_cons, List.length_nil] at *; rw [ih]; omega
theorem opcells_get (ops : List OpV) (k : Nat) (h : k < ops.length) : (opcells ops)[k * 4]? = some (.int .i64 (ops.getD k op0).kind) ∧ (opcells ops)[k * 4 + 1]? = some (.int .i64 (ops.getD k op0).n) ∧ (opcells ops)[k * 4 + 2]? = some (.string (ops.getD k op0).x) ∧ (opcells ops)[k * 4 + 3]? = some (.string (ops.getD k op0).y) := by
  induction ops generalizing k with
  | nil => simp at h
  | cons o ops ih =>
    cases k with
    | zero => exact ⟨rfl, rfl, rfl, rfl⟩
    | succ k =>
      have := ih k (by simpa using h)
      simp only [opcells, OpV.cells, List.flatMap_cons] at *
      have e1 : (k + 1) * 4 = k * 4 + 4 := by omega
      rw [e1, List.getElem?_append_right (by simp), List.getElem?_append_right (by simp), List.getElem?_append_right (by simp), List.getElem?_append_right (by simp)]
      simpa using this

theorem addL_len {l : List El} {size : Int} {x : El} {j n : Nat} (h : l.length ≤ n) : (addL l size x j).length ≤ n + 1 := by
  unfold addL
  split
  · rw [List.length_cons, List.length_take]; omega
  · rw [List.length_take]; omega
theorem addL_cost {l : List El} {size : Int} {x : El} {j : Nat} (h : ∀ y ∈ l, costE y ≤ 1000) (hx : costE x ≤ 1000) : ∀ y ∈ addL l size x j, costE y ≤ 1000 := by
  unfold addL
  intro y hy
  split at hy
  · rcases List.mem_cons.1 hy with rfl | hy
    · exact hx
    · exact h y (List.mem_of_mem_take hy)
  · exact h y (List.mem_of_mem_take hy)
theorem take_cost {l : List El} {j : Nat} (h : ∀ y ∈ l, costE y ≤ 1000) : ∀ y ∈ l.take j, costE y ≤ 1000 := fun y hy => h y (List.mem_of_mem_take hy)
end Go.Proofs.Ytofdfmbbnchcoaa
