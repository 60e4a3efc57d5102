/- Plain laws on memory: frames, rows of cells, append, copy and clear on rows of any element size. -/
import Derived.WalkKit
import Derived.Deep.Upon
import Derived.Laws.CopyOwn
import Derived.Deep.RegionLaw
import Derived.Deep.QuietTactic
namespace Go.Hp
open Go Go.RowKit

/-- What lies outside S is as it was; nothing is gone. -/
structure Fr (S : Nat → Prop) (w w' : World) : Prop where
  os : w'.os = w.os
  tape : w'.tape = w.tape
  output : w'.output = w.output
  size : w.heap.size ≤ w'.heap.size
  block : ∀ k, k < w.heap.size → ¬ S k → w'.heap[k]? = w.heap[k]?

abbrev No : Nat → Prop := fun _ => False

section
variable {S S' : Nat → Prop} {w w1 w2 w' : World}
theorem Fr.refl (S : Nat → Prop) (w : World) : Fr S w w := ⟨rfl, rfl, rfl, Nat.le_refl _, fun _ _ _ => rfl⟩
theorem Fr.mono (h : Fr S w w') (hs : ∀ k, k < w.heap.size → S k → S' k) : Fr S' w w' := ⟨h.os, h.tape, h.output, h.size, fun k hk hn => h.block k hk (fun hS => hn (hs k hk hS))⟩
theorem Fr.trans (h : Fr S w w1) (k : Fr S' w1 w2) (hs : ∀ k, k < w.heap.size → S' k → S k) : Fr S w w2 :=
  ⟨k.os.trans h.os, k.tape.trans h.tape, k.output.trans h.output, Nat.le_trans h.size k.size,
   fun i hi hn => (k.block i (Nat.lt_of_lt_of_le hi h.size) (fun hS => hn (hs i hi hS))).trans (h.block i hi hn)⟩
theorem Fr.then_ (h : Fr S w w1) (k : Fr No w1 w2) : Fr S w w2 := h.trans k (fun _ _ h => h.elim)
theorem Fr.drew (h : Fr S w w1) : Fr S w w1.drew := ⟨h.os, h.tape, h.output, h.size, h.block⟩
theorem Fr.drewN (h : Fr S w w1) (n : Nat) : Fr S w (w1.drewN n) := ⟨h.os, h.tape, h.output, h.size, h.block⟩
theorem Fr.alloc (h : Fr S w w1) (o : Obj) : Fr S w (w1.alloc o) :=
  ⟨h.os, h.tape, h.output, by have := h.size; simp; omega, fun k hk hn => (Below.heap_alloc w1 o k (Nat.lt_of_lt_of_le hk h.size)).trans (h.block k hk hn)⟩
theorem Fr.setCell (h : Fr S w w1) {a : Addr} (ha : S a.block ∨ w.heap.size ≤ a.block) (u : Value) : Fr S w (w1.setCell a u) :=
  ⟨h.os, h.tape, h.output, by have := h.size; simp [World.setCell]; omega, fun k hk hn => (Below.heap_setCell w1 a u k (fun e => by subst e; rcases ha with ha | ha <;> first | exact hn ha | omega)).trans (h.block k hk hn)⟩
theorem Fr.setRow (h : Fr S w w1) {g : Nat} (ha : S g ∨ w.heap.size ≤ g) (cs : Array Value) : Fr S w (w1.setRow g cs) :=
  ⟨h.os, h.tape, h.output, by have := h.size; simp [World.setRow]; omega, fun k hk hn => (setRow_other w1 g k cs (fun e => by subst e; rcases ha with ha | ha <;> first | exact hn ha | omega)).trans (h.block k hk hn)⟩
theorem Fr.setCells {g : Nat} (ha : S g ∨ w.heap.size ≤ g) : ∀ (vs : List Value) (o : Nat) (w1 : World), Fr S w w1 → Fr S w (w1.setCells g o vs)
  | [], _, _, h => h
  | v :: r, o, _, h => Fr.setCells ha r (o + 1) _ (Fr.setCell h (a := ⟨g, o, none⟩) ha v)
theorem Fr.below (h : Fr S w w') {B : Nat} (hB : B ≤ w.heap.size) (hs : ∀ k, S k → B ≤ k) : Below B w w' :=
  ⟨h.os, h.tape, h.output, h.size, fun k hk => h.block k (by omega) (fun hS => by have := hs k hS; omega)⟩
theorem Fr.of_below (h : Below w.heap.size w w') : Fr S w w' := ⟨h.os, h.tape, h.output, h.size, fun k hk _ => h.block k hk⟩
theorem Fr.of_grownBy {row : Option Nat} (h : w.grownBy w' row) : Fr (fun k => some k = row) w w' := ⟨h.os, h.tape, h.output, h.size, fun k hk hn => h.block k hk hn⟩
theorem Fr.of_drewN {n : Nat} (h : w' = w.drewN n) : Fr S w w' := by subst h; exact (Fr.refl S w).drewN n
theorem Fr.cell (h : Fr S w w') {a : Addr} (hn : ¬ S a.block) {v : Value} (hc : w.cell? a = some v) : w'.cell? a = some v :=
  (World.cell?_of_block (h.block a.block (World.block_lt_of_cell? w a hc) hn)).trans hc
theorem Fr.frozen (h : Fr S w w') {a : Addr} (hl : a.block < w.heap.size) (hn : ¬ S a.block) : w'.frozen? a = w.frozen? a := World.frozen?_of_block (h.block a.block hl hn)
end

/-- Block b holds these cells (type T); none is frozen. -/
def Bk (w : World) (b : Nat) (cs : List Value) (T : TypeId) : Prop := w.heap[b]? = some (.cells cs.toArray T (0, 0))

section
variable {S : Nat → Prop} {w w' : World} {b g : Nat} {cs : List Value} {T : TypeId}
theorem Bk.lt (h : Bk w b cs T) : b < w.heap.size := (Array.getElem?_eq_some_iff.1 h).1
theorem Bk.cell (h : Bk w b cs T) (i : Nat) : w.cell? ⟨b, i, none⟩ = cs[i]? := by
  unfold Bk at h; simp [World.cell?, h]
theorem Bk.frozen (h : Bk w b cs T) (i : Nat) : w.frozen? ⟨b, i, none⟩ = false := by
  unfold Bk at h; simp [World.frozen?, h]
theorem Bk.fr (h : Bk w b cs T) (hf : Fr S w w') (hn : ¬ S b) : Bk w' b cs T := (hf.block b h.lt hn).trans h
theorem Bk.set (h : Bk w b cs T) (i : Nat) (u : Value) : Bk (w.setCell ⟨b, i, none⟩ u) b (cs.set i u) T := by
  unfold Bk at *
  simp [World.setCell, Array.getElem?_modify, h]
theorem Bk.set_ne (h : Bk w b cs T) {a : Addr} (hn : b ≠ a.block) (u : Value) : Bk (w.setCell a u) b cs T := by
  unfold Bk at *
  rw [Below.heap_setCell _ _ _ _ hn]; exact h
theorem Bk.alloc (h : Bk w b cs T) (o : Obj) : Bk (w.alloc o) b cs T := (Below.heap_alloc w o b h.lt).trans h
theorem Bk.drew (h : Bk w b cs T) : Bk w.drew b cs T := h
theorem Bk.drewN (h : Bk w b cs T) (n : Nat) : Bk (w.drewN n) b cs T := h
theorem Bk.new (w : World) (cs : List Value) (T : TypeId) : Bk (w.alloc (.cells cs.toArray T)) w.heap.size cs T := heap_alloc_new w _
theorem Bk.row (h : Bk w b cs T) (cs' : List Value) : Bk (w.setRow b cs'.toArray) b cs' T := setRow_heap w b _ _ _ _ h
theorem Bk.cells {b : Nat} {T : TypeId} : ∀ (vs : List Value) (o : Nat) (cs : List Value) (w : World), Bk w b cs T → o + vs.length ≤ cs.length → Bk (w.setCells b o vs) b (cs.take o ++ vs ++ cs.drop (o + vs.length)) T
  | [], o, cs, w, h, _ => by simpa [World.setCells] using h
  | v :: r, o, cs, w, h, hl => by
    have h2 := Bk.cells r (o + 1) _ _ (h.set o v) (by simp at hl ⊢; omega)
    have e := list_seg_step cs o v r (by simpa using hl)
    simp only [World.setCells, List.length_cons]
    rw [← e]
    exact h2
theorem Bk.no (h : Bk w b cs T) (hf : Fr No w w') : Bk w' b cs T := h.fr hf (fun h => h)
theorem Bk.ne {b' : Nat} {cs' : List Value} {T' : TypeId} (h : Bk w b cs T) (h' : Bk w b' cs' T') (hT : T ≠ T') : b ≠ b' := by
  rintro rfl
  unfold Bk at *
  rw [h] at h'
  injection h' with h'
  injection h' with _ h'
  exact hT h'
theorem Bk.inj {cs' : List Value} {T' : TypeId} (h : Bk w b cs T) (h' : Bk w b cs' T') : cs = cs' := by
  unfold Bk at *
  rw [h] at h'
  injection h' with h'
  injection h' with h' _
  simpa using h'
end

/-- The slice (a, n, c) of elements of type e (z cells each): its cells are cs; it may be written; its row is block r (none: no capacity). -/
def Row (w : World) (e z : Nat) (a : Option Addr) (n c : Nat) (r : Option Nat) (cs : List Value) : Prop :=
  cs.length = n * z ∧ n ≤ c ∧ c ≤ 9223372036854775807 ∧ (a = none → c = 0) ∧
  ((r = none ∧ c = 0) ∨ ∃ g off L, r = some g ∧ a = some ⟨g, off, none⟩ ∧ Bk w g L e ∧ off + c * z ≤ L.length ∧ (L.drop off).take (n * z) = cs)

/-- The slice (a, n, c) can be read: its cells are cs. -/
def Rd (w : World) (z : Nat) (a : Option Addr) (n c : Nat) (cs : List Value) : Prop :=
  cs.length = n * z ∧ n ≤ c ∧ c ≤ 9223372036854775807 ∧ (a = none → c = 0) ∧
  (0 < n → ∃ g off, a = some ⟨g, off, none⟩ ∧ g < w.heap.size ∧ ∀ j u, cs[j]? = some u → w.cell? ⟨g, off + j, none⟩ = some u)

/-- The block in which a readable slice lies. -/
def abk (a : Option Addr) (n : Nat) : Option Nat := if n = 0 then none else a.map (·.block)

section
variable {S : Nat → Prop} {w w' : World} {e z : Nat} {a : Option Addr} {n c m : Nat} {r : Option Nat} {cs : List Value}
theorem Row.nil (w : World) (e z : Nat) : Row w e z none 0 0 none [] := ⟨by simp, Nat.le_refl _, by omega, fun _ => rfl, .inl ⟨rfl, rfl⟩⟩
theorem Row.empty (w : World) (e z : Nat) (a : Option Addr) : Row w e z a 0 0 none [] := ⟨by simp, Nat.le_refl _, by omega, fun _ => rfl, .inl ⟨rfl, rfl⟩⟩
theorem Row.one (w : World) (e z : Nat) (cs : List Value) (h : cs.length = z) : Row (w.alloc (.cells cs.toArray e)) e z (some ⟨w.heap.size, 0, none⟩) 1 1 (some w.heap.size) cs :=
  ⟨by omega, Nat.le_refl _, by omega, (fun h => by cases h), .inr ⟨w.heap.size, 0, cs, rfl, rfl, Bk.new w cs e, by omega, by rw [List.drop_zero, Nat.one_mul, ← h]; exact List.take_length⟩⟩
theorem Row.len (h : Row w e z a n c r cs) : cs.length = n * z := h.1
theorem Row.le (h : Row w e z a n c r cs) : n ≤ c := h.2.1
theorem Row.capLe (h : Row w e z a n c r cs) : c ≤ 9223372036854775807 := h.2.2.1
theorem Row.lt (h : Row w e z a n c r cs) : ∀ k, r = some k → k < w.heap.size := by
  intro k hk
  rcases h.2.2.2.2 with ⟨rfl, _⟩ | ⟨g, off, L, rfl, _, hb, _⟩
  · cases hk
  · injection hk with hk; subst hk; exact hb.lt
theorem Row.fr (h : Row w e z a n c r cs) (hf : Fr S w w') (hn : ∀ k, r = some k → ¬ S k) : Row w' e z a n c r cs := by
  refine ⟨h.1, h.2.1, h.2.2.1, h.2.2.2.1, ?_⟩
  rcases h.2.2.2.2 with h | ⟨g, off, L, hr, ha, hb, h1, h2⟩
  · exact .inl h
  · exact .inr ⟨g, off, L, hr, ha, hb.fr hf (hn g hr), h1, h2⟩
theorem Row.rd (h : Row w e z a n c r cs) : Rd w z a n c cs := by
  refine ⟨h.1, h.2.1, h.2.2.1, h.2.2.2.1, fun hn => ?_⟩
  obtain ⟨h1, h2, _, _, h | ⟨g, off, L, hr, ha, hb, h3, h4⟩⟩ := h
  · omega
  · refine ⟨g, off, ha, hb.lt, fun j u hu => ?_⟩
    rw [hb.cell]
    rw [← h4, List.getElem?_take] at hu
    split at hu
    · rw [List.getElem?_drop] at hu; exact hu
    · cases hu
/-- A shorter slice of the same row. -/
theorem Row.front (h : Row w e z a n c r cs) (hm : m ≤ n) : Row w e z a m c r (cs.take (m * z)) := by
  obtain ⟨h1, h2, h3, h4, h5⟩ := h
  have hz : m * z ≤ n * z := Nat.mul_le_mul_right _ hm
  refine ⟨by rw [List.length_take]; omega, by omega, h3, h4, ?_⟩
  rcases h5 with h5 | ⟨g, off, L, hr, ha, hb, h6, h7⟩
  · exact .inl h5
  · refine .inr ⟨g, off, L, hr, ha, hb, h6, ?_⟩
    rw [← h7, List.take_take, Nat.min_eq_left hz]
/-- One cell of a row is written. -/
theorem Row.set1 {g off i : Nat} (h : Row w e z (some ⟨g, off, none⟩) n c r cs) (hi : i < n * z) (u : Value) :
    r = some g ∧ Row (w.setCell ⟨g, off + i, none⟩ u) e z (some ⟨g, off, none⟩) n c r (cs.set i u) ∧ w.frozen? ⟨g, off + i, none⟩ = false ∧ (∃ v, w.cell? ⟨g, off + i, none⟩ = some v) := by
  obtain ⟨h1, h2, h3, h4, h5⟩ := h
  have hz : n * z ≤ c * z := Nat.mul_le_mul_right _ h2
  rcases h5 with ⟨_, h5⟩ | ⟨g', off', L, hr, ha, hb, h6, h7⟩
  · subst h5; simp at hz; omega
  · injection ha with ha; injection ha with ha1 ha2
    subst ha1; subst ha2
    refine ⟨hr, ⟨by rw [List.length_set]; exact h1, h2, h3, h4, .inr ⟨g, off, _, hr, rfl, hb.set (off + i) u, by rw [List.length_set]; exact h6, ?_⟩⟩, hb.frozen _, L[off + i], ?_⟩
    · rw [List.drop_set, if_neg (by omega), Nat.add_sub_cancel_left, List.take_set, h7]
    · rw [hb.cell, List.getElem?_eq_getElem]
theorem Rd.len (h : Rd w z a n c cs) : cs.length = n * z := h.1
theorem Rd.le (h : Rd w z a n c cs) : n ≤ c := h.2.1
theorem Rd.capLe (h : Rd w z a n c cs) : c ≤ 9223372036854775807 := h.2.2.1
theorem Rd.fr (h : Rd w z a n c cs) (hf : Fr S w w') (hn : ∀ k, abk a n = some k → ¬ S k) : Rd w' z a n c cs := by
  refine ⟨h.1, h.2.1, h.2.2.1, h.2.2.2.1, fun h0 => ?_⟩
  obtain ⟨g, off, ha, hg, hc⟩ := h.2.2.2.2 h0
  have hS : ¬ S g := hn g (by simp [abk, ha]; omega)
  exact ⟨g, off, ha, Nat.lt_of_lt_of_le hg hf.size, fun j u hu => hf.cell hS (hc j u hu)⟩
theorem Rd.drew (h : Rd w z a n c cs) : Rd w.drew z a n c cs := h
theorem Row.drew (h : Row w e z a n c r cs) : Row w.drew e z a n c r cs := h
theorem Rd.alloc (h : Rd w z a n c cs) (o : Obj) : Rd (w.alloc o) z a n c cs := h.fr ((Fr.refl No w).alloc o) (fun _ _ h => h)
theorem Row.alloc (h : Row w e z a n c r cs) (o : Obj) : Row (w.alloc o) e z a n c r cs := h.fr ((Fr.refl No w).alloc o) (fun _ _ h => h)
theorem Rd.no (h : Rd w z a n c cs) (hf : Fr No w w') : Rd w' z a n c cs := h.fr hf (fun _ _ h => h)
theorem Row.no (h : Row w e z a n c r cs) (hf : Fr No w w') : Row w' e z a n c r cs := h.fr hf (fun _ _ h => h)
theorem Rd.nil (w : World) (z : Nat) : Rd w z none 0 0 [] := (Row.nil w 0 z).rd
theorem Rd.cell (h : Rd w z a n c cs) {j : Nat} {u : Value} (hj : cs[j]? = some u) : ∃ g off, a = some ⟨g, off, none⟩ ∧ w.cell? ⟨g, off + j, none⟩ = some u := by
  have hn : 0 < n := by
    have h1 := h.1
    have := (List.getElem?_eq_some_iff.1 hj).1
    rcases Nat.eq_zero_or_pos n with h0 | h0
    · subst h0; simp at h1; subst h1; simp at hj
    · exact h0
  obtain ⟨g, off, ha, _, hc⟩ := h.2.2.2.2 hn
  exact ⟨g, off, ha, hc j u hj⟩
theorem Rd.src {P : Program} {tx e' : TypeId} (h : Rd w z a n c cs) (hk : P.underlying tx = some (.slice e')) (h1 : ∀ u ∈ cs, u.oneCell' = true) : Src P z tx (.slice a n c) n cs w := by
  rcases Nat.eq_zero_or_pos n with h0 | h0
  · subst h0
    obtain rfl : cs = [] := List.eq_nil_of_length_eq_zero (by simpa using h.1)
    cases a with
    | none => exact Src.ofNil w hk c
    | some ad => exact Src.ofSlice w hk ad 0 c [] (by simp) (by simp) (by simp)
  · obtain ⟨g, off, rfl, _, hc⟩ := h.2.2.2.2 h0
    exact Src.ofSlice w hk _ n c cs h.1 (fun j u hu => by rw [Addr.add_lit]; exact hc j u hu) h1
end

/-- What an append leaves: in place, or a new row. -/
def App (w : World) (e z : Nat) (a : Option Addr) (n c : Nat) (r : Option Nat) (m : Nat) (cs : List Value) (a' : Option Addr) (c' : Nat) (r' : Option Nat) (w' : World) : Prop :=
  Row w' e z a' (n + m) c' r' cs ∧ (n + m ≤ c' ∧ c' ≤ 9223372036854775807) ∧
  ((a' = a ∧ c' = c ∧ r' = r ∧ Fr (fun k => some k = r) w w' ∧ w'.heap.size = w.heap.size ∧ n + m ≤ c) ∨
   (r' = some w.heap.size ∧ Fr No w w' ∧ w.heap.size < w'.heap.size ∧ c < n + m))

section
variable {P : Program}

theorem App.fr {w w' : World} {e z n c m c' : Nat} {r r' : Option Nat} {cs : List Value} {a a' : Option Addr} (h : App w e z a n c r m cs a' c' r' w') : Fr (fun k => some k = r) w w' := by
  rcases h.2.2 with h | h
  · exact h.2.2.2.1
  · exact h.2.1.mono (fun _ _ h => h.elim)
theorem App.rr {w w' : World} {e z n c m c' : Nat} {r r' : Option Nat} {cs : List Value} {a a' : Option Addr} (h : App w e z a n c r m cs a' c' r' w') : r' = r ∨ (r' = some w.heap.size ∧ w.heap.size < w'.heap.size) := by
  rcases h.2.2 with h | h
  · exact .inl h.2.2.1
  · exact .inr ⟨h.1, h.2.2.1⟩

theorem run_app (w : World) (t tx ty e : TypeId) (i : TypeInfo) (z bytes : Nat) (zv : Value) (ht : P.underlying t = some (.slice e)) (hi : P.info? e = some i) (hz : i.zero = some zv) (hsz : i.size = z) (hby : i.bytes = bytes) (hzs : zv.cells.size = z)
    {a : Option Addr} {n c : Nat} {r : Option Nat} {cs : List Value} (h : Row w e z a n c r cs) {x : Value} {m : Nat} {ks : List Value} (hs : Src P z tx x m ks w) (hb : (n + m) * bytes ≤ 140737488355328) (h63 : n + m ≤ 9223372036854775807) :
    ∃ a' c' r' w', (Builtin.append_ #[t, tx] ty #[.slice a n c, x]).run P w = .ok (.slice a' (n + m) c') w' ∧ App w e z a n c r m (cs ++ ks) a' c' r' w' := by
  subst hsz; subst hby
  obtain ⟨h1, h2, h3, h4, h5⟩ := h
  have hkl := hs.newsLen
  have hlen : (cs ++ ks).length = (n + m) * i.size := by rw [List.length_append, h1, hkl, Nat.add_mul]
  by_cases hm : m = 0
  · subst hm
    obtain rfl : ks = [] := List.eq_nil_of_length_eq_zero (by simpa using hkl)
    have hrun := run_append_nothing (P := P) w t tx ty e i ht hi a n c h2 x hs
    refine ⟨a, c, r, w, hrun, ⟨by simpa using h1, by omega, h3, h4, ?_⟩, ⟨by omega, h3⟩, .inl ⟨rfl, rfl, rfl, Fr.refl _ _, rfl, by omega⟩⟩
    simpa using h5
  by_cases hr : n + m ≤ c
  · rcases h5 with ⟨_, h5⟩ | ⟨g, off, L, rfl, rfl, hb5, h6, h7⟩
    · omega
    have hfit : off + n * i.size + ks.length ≤ L.length := by
      have : (n + m) * i.size ≤ c * i.size := Nat.mul_le_mul_right _ hr
      rw [hkl, Nat.add_assoc, ← Nat.add_mul]; omega
    have hrun := run_append_room_src (P := P) w t tx ty e i ht hi g off n c x m ks hs hr
      (fun j hj => by rw [hb5.cell, List.getElem?_eq_getElem (by omega)]; rfl) (fun j hj => hb5.frozen _)
    refine ⟨_, _, some g, _, hrun, ⟨hlen, hr, h3, h4, .inr ⟨g, off, _, rfl, rfl, Bk.cells ks _ _ _ hb5 hfit, ?_, ?_⟩⟩, ⟨hr, h3⟩, .inl ⟨rfl, rfl, rfl, Fr.setCells (S := fun k => some k = some g) (g := g) (.inl rfl) ks _ w (Fr.refl _ w), ?_, hr⟩⟩
    · simp only [List.length_append, List.length_take, List.length_drop]
      rw [Nat.min_eq_left (by omega)]; omega
    · rw [List.append_assoc, List.drop_append, List.drop_take]
      have e1 : off - (L.take (off + n * i.size)).length = 0 := by rw [List.length_take]; omega
      have e2 : off + n * i.size - off = n * i.size := by omega
      rw [e1, e2, h7, List.drop_zero, ← List.append_assoc, ← hlen]
      exact List.take_left
    · have := (World.keptBut_setCells g (may := fun _ => True) ks (off + n * i.size) w (fun _ _ => trivial))
      have hsz : ∀ (vs : List Value) (o : Nat) (w : World), (w.setCells g o vs).heap.size = w.heap.size := by
        intro vs
        induction vs with
        | nil => intros; rfl
        | cons v r ih => intro o w; simp only [World.setCells]; rw [ih]; simp [World.setCell]
      exact hsz _ _ _
  · have hold : (Builtin.firstCells i.size n (.slice a n c)).run P w.drew = .ok cs.toArray w.drew := by
      rcases h5 with ⟨_, h5⟩ | ⟨g, off, L, rfl, rfl, hb5, h6, h7⟩
      · have hn0 : n = 0 := by omega
        subst hn0
        obtain rfl : cs = [] := List.eq_nil_of_length_eq_zero (by simpa using h1)
        cases a with
        | none => exact run_firstCells_none w.drew _ _ _ _
        | some ad => exact run_firstCells_some w.drew i.size 0 ad 0 c [] (by simp) (by simp)
      · refine run_firstCells_some w.drew i.size n _ n c cs h1 (fun j u hu => ?_)
        rw [Addr.add_lit]
        have hb6 : Bk w.drew g L e := hb5
        rw [hb6.cell]
        rw [← h7, List.getElem?_take] at hu
        split at hu
        · rw [List.getElem?_drop] at hu; exact hu
        · cases hu
    have hrun := run_append_grow_src (P := P) w t tx ty e i zv ht hi hz a n c cs hold x m ks hs (by omega) (by omega) (growslice_fits (by omega) hb)
    have hge := grownCap_ge w (n + m) c e
    have hcm := grownCap_le_maxLen w (n + m) c e (by simp only [maxLen]; omega)
    simp only [maxLen] at hcm
    have hl0 : ((cs ++ ks).toArray ++ Builtin.zeroCells zv.cells (grownCap w (n + m) c e - (n + m))) = ((cs ++ ks) ++ (Builtin.zeroCells zv.cells (grownCap w (n + m) c e - (n + m))).toList).toArray := by
      apply Array.ext'; simp
    rw [hl0] at hrun
    have hzl : ((Builtin.zeroCells zv.cells (grownCap w (n + m) c e - (n + m))).toList).length = (grownCap w (n + m) c e - (n + m)) * i.size := by
      rw [Array.length_toList, size_zeroCells, hzs]
    refine ⟨_, _, some w.heap.size, _, hrun, ⟨hlen, hge, by omega, (fun h => by cases h), .inr ⟨w.heap.size, 0, _, rfl, rfl, Bk.new w.drew _ e, ?_, ?_⟩⟩, ⟨hge, by omega⟩, .inr ⟨rfl, (Fr.refl No w).drew.alloc _, by simp, by omega⟩⟩
    · rw [List.length_append, hlen, hzl, ← Nat.add_mul, Nat.zero_add]
      exact Nat.le_of_eq (by congr 1; omega)
    · rw [List.drop_zero, ← hlen]
      exact List.take_left

/-- append(s, x...), at a list of operations. -/
theorem wpList_app (w : World) {ops : Array Oper} {rest : List Oper} {o : Oper} {b : Act} {Q : Exit → Act → World → Prop}
    (hg : o.guard = none) (s x : Operand) (t : TypeId) (hop : o.op = Op.call { callee := Callee.builtin Builtin.append, args := #[s, x], argTypes := #[t, t] })
    (e : TypeId) (i : TypeInfo) (zv : Value) (z bytes : Nat) (h1 : P.underlying t = some (.slice e)) (h2 : P.info? e = some i) (h3 : i.zero = some zv) (h4 : i.size = z) (h5 : i.bytes = bytes) (h6 : zv.cells.size = z)
    (a : Option Addr) (n c : Nat) (hs : b.eval s = .slice a n c) (r : Option Nat) (cs : List Value) (h : Row w e z a n c r cs)
    (ax : Option Addr) (m cx : Nat) (hx : b.eval x = .slice ax m cx) (ks : List Value) (hk : Rd w z ax m cx ks) (hone : ∀ u ∈ ks, u.oneCell' = true)
    (b1 : n + m ≤ 9223372036854775807) (b2 : (n + m) * bytes ≤ 140737488355328)
    (hK : ∀ a' c' r' w', App w e z a n c r m (cs ++ ks) a' c' r' w' → wpList P ops Q rest (b.put o.dst (.slice a' (n + m) c')) w') :
    wpList P ops Q (o :: rest) b w := by
  refine wpList_plain hg fun K hK' => ?_
  obtain ⟨a', c', r', w', hrun, hA⟩ := run_app (P := P) w t t o.type e i z bytes zv h1 h2 h3 h4 h5 h6 h (hk.src h1 hone) b2 b1
  unfold Oper.wp
  simp [execOp, hop, resolve, invoke, builtin, hs, hx, hrun, Result.andThen]
  exact hK' _ _ (hK a' c' r' w' hA)

/-- The same as a step of a region that draws its order. -/
theorem step_app {ops : Array Oper} {o : Oper} {b : Act} {w : World} {K : Act → World → Prop} {Q : Exit → Act → World → Prop} {E : Prop}
    (hg : o.guard = none) (s x : Operand) (t : TypeId) (hop : o.op = Op.call { callee := Callee.builtin Builtin.append, args := #[s, x], argTypes := #[t, t] })
    (e : TypeId) (i : TypeInfo) (zv : Value) (z bytes : Nat) (h1 : P.underlying t = some (.slice e)) (h2 : P.info? e = some i) (h3 : i.zero = some zv) (h4 : i.size = z) (h5 : i.bytes = bytes) (h6 : zv.cells.size = z)
    (a : Option Addr) (n c : Nat) (hs : b.eval s = .slice a n c) (r : Option Nat) (cs : List Value) (h : Row w e z a n c r cs)
    (ax : Option Addr) (m cx : Nat) (hx : b.eval x = .slice ax m cx) (ks : List Value) (hk : Rd w z ax m cx ks) (hone : ∀ u ∈ ks, u.oneCell' = true)
    (b1 : n + m ≤ 9223372036854775807) (b2 : (n + m) * bytes ≤ 140737488355328)
    (hK : ∀ a' c' r' w', App w e z a n c r m (cs ++ ks) a' c' r' w' → K (b.put o.dst (.slice a' (n + m) c')) w') :
    if Region.wanted o (yielded ops b.tmps) = true then Oper.wp P o b w K Q else E := by
  have hw : Region.wanted o (yielded ops b.tmps) = true := by simp [Region.wanted, hg]
  rw [if_pos hw]
  obtain ⟨a', c', r', w', hrun, hA⟩ := run_app (P := P) w t t o.type e i z bytes zv h1 h2 h3 h4 h5 h6 h (hk.src h1 hone) b2 b1
  unfold Oper.wp
  simp [execOp, hop, resolve, invoke, builtin, hs, hx, hrun, Result.andThen]
  exact hK a' c' r' w' hA
end
end Go.Hp
