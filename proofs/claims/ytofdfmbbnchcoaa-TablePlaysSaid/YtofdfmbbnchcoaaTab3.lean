/- The table of headers: where a field is found. -/
import Derived.Test.YtofdfmbbnchcoaaTab2
namespace Go.Proofs.Ytofdfmbbnchcoaa
open Go.RowKit Go.Hp
set_option maxRecDepth 100000
attribute [local go_sem high] eqF

/-- The first place of one that p speaks of, counted from s on; -1. -/
def posOf (p : El → Prop) [DecidablePred p] : List El → Nat → Int
  | [], _ => -1
  | y :: ys, s => if p y then (s : Int) else posOf p ys (s + 1)
section
variable {p : El → Prop} [DecidablePred p]
theorem posOf_skip : ∀ (l1 l2 : List El) (s : Nat), (∀ y ∈ l1, ¬ p y) → posOf p (l1 ++ l2) s = posOf p l2 (s + l1.length)
  | [], l2, s, _ => rfl
  | y :: ys, l2, s, h => by
    rw [List.cons_append, posOf, if_neg (h y (by simp)), posOf_skip ys l2 (s + 1) (fun z hz => h z (by simp [hz])), List.length_cons]
    congr 1; omega
theorem posOf_none {l : List El} {s : Nat} (h : ∀ y ∈ l, ¬ p y) : posOf p l s = -1 := by
  have := posOf_skip (p := p) l [] s h
  rw [List.append_nil] at this
  rw [this]; rfl
theorem nth_get {l : List El} {k : Nat} (hk : k < l.length) : nth l k = l[k] := by simp [nth, List.getD, List.getElem?_eq_getElem hk]
theorem posOf_at {l : List El} {k : Nat} (hk : k < l.length) (he : p (nth l k)) (hn : ∀ y ∈ l.take k, ¬ p y) : posOf p l 0 = k := by
  have h1 : l = l.take k ++ nth l k :: l.drop (k + 1) := by
    rw [nth_get hk, List.getElem_cons_drop, List.take_append_drop]
  rw [h1, posOf_skip _ _ _ hn, posOf, if_pos he, List.length_take]
  omega
theorem posOf_range : ∀ (l : List El) (s : Nat), posOf p l s = -1 ∨ ((s : Int) ≤ posOf p l s ∧ posOf p l s < s + l.length)
  | [], s => .inl rfl
  | y :: ys, s => by
    rw [posOf, List.length_cons]
    split
    · right; omega
    · rcases posOf_range ys (s + 1) with h | h
      · exact .inl h
      · right; omega
theorem posOf_neg : ∀ {l : List El} {s : Nat}, posOf p l s < 0 → ∀ y ∈ l, ¬ p y
  | [], s, _ => by simp
  | y :: ys, s, h => by
    rw [posOf] at h
    split at h
    · omega
    · rename_i h0
      intro z hz
      rcases List.mem_cons.1 hz with rfl | hz
      · exact h0
      · exact posOf_neg h z hz
end
/-- The first place of x; -1. -/
def idx (l : List El) (x : El) : Int := posOf (fun y => y = x) l 0
/-- The first place of a name; -1. -/
def idn (l : List El) (x : ByteArray) : Int := posOf (fun y => y.1 = x) l 0
theorem idx_at {l : List El} {x : El} {k : Nat} (hk : k < l.length) (he : x = nth l k) (hn : x ∉ l.take k) : idx l x = k :=
  posOf_at hk he.symm (fun y hy h => hn (h ▸ hy))
theorem idx_none {l : List El} {x : El} (hn : x ∉ l) : idx l x = -1 := posOf_none (fun y hy h => hn (h ▸ hy))
theorem idn_at {l : List El} {x : ByteArray} {k : Nat} (hk : k < l.length) (he : x = (nth l k).1) (hn : x ∉ (l.take k).map Prod.fst) : idn l x = k :=
  posOf_at hk he.symm (fun y hy h => hn (h ▸ List.mem_map_of_mem hy))
theorem idn_none {l : List El} {x : ByteArray} (hn : x ∉ l.map Prod.fst) : idn l x = -1 := posOf_none (fun y hy h => hn (h ▸ List.mem_map_of_mem hy))
theorem idx_lt (l : List El) (x : El) : -1 ≤ idx l x ∧ idx l x < l.length := by
  have := posOf_range (p := fun y => y = x) l 0; unfold idx; omega
theorem idn_lt (l : List El) (x : ByteArray) : -1 ≤ idn l x ∧ idn l x < l.length := by
  have := posOf_range (p := fun y => y.1 = x) l 0; unfold idn; omega
theorem idx_neg {l : List El} {x : El} (h : idx l x < 0) : x ∉ l := fun hx => posOf_neg h x hx rfl
theorem notin_take_succ {l : List El} {x : El} {k : Nat} (hk : k < l.length) (hn : x ∉ l.take k) (he : ¬ x = nth l k) : x ∉ l.take (k + 1) := by
  rw [List.take_succ_eq_append_getElem hk, List.mem_append, List.mem_singleton, ← nth_get hk]
  rintro (h | h)
  · exact hn h
  · exact he h
theorem notin_names_succ {l : List El} {x : ByteArray} {k : Nat} (hk : k < l.length) (hn : x ∉ (l.take k).map Prod.fst) (he : ¬ x = (nth l k).1) : x ∉ (l.take (k + 1)).map Prod.fst := by
  rw [List.take_succ_eq_append_getElem hk, List.map_append, List.mem_append, ← nth_get hk]
  rintro (h | h)
  · exact hn h
  · simp at h; exact he h

theorem index_calls (a : Option Addr) (n c : Nat) (x0 x1 : ByteArray) (xs : List El) (w : World) (hx : Rd w 2 a n c (cells xs)) :
    Calls Try.prog 30 #[.slice a n c, .agg #[.string x0, .string x1]] w fun e w' => e = .returned (.int .i64 (idx xs (x0, x1))) ∧ Fr No w w' := by
  have hn := rd_xlen hx
  have c1 := hx.capLe; have c2 := hx.le
  have HN := Lib.hid hn
  clear hn
  obtain ⟨v, hv⟩ : ∃ v, v = idx xs (x0, x1) := ⟨_, rfl⟩
  rw [← hv]
  have HV := Lib.hid hv
  clear hv
  have hbx : Bk (w.alloc (.cells #[.string x0, .string x1] 28)) w.heap.size [.string x0, .string x1] 28 := Bk.new w [.string x0, .string x1] 28
  have hxa : Rd (w.alloc (.cells #[.string x0, .string x1] 28)) 2 a n c (cells xs) := hx.alloc _
  have HF := Lib.hid ((Fr.refl No w).alloc (.cells #[.string x0, .string x1] 28))
  obtain ⟨bx, hbxe⟩ : ∃ bx, bx = w.heap.size := ⟨_, rfl⟩
  rw [← hbxe] at hbx
  have HBX := Lib.hid hbxe
  go_enter Try.func30, Try.ntmps30
  go_wp2
  rw [← HBX.out]
  clear hx hbxe
  generalize w.alloc (.cells #[.string x0, .string x1] 28) = w0 at *
  have d0 : w0.cell? ⟨bx, 0, none⟩ = some (.string x0) := hbx.cell 0
  have d1 : w0.cell? ⟨bx, 1, none⟩ = some (.string x1) := hbx.cell 1
  clear hbx
  go_loopw [8] (fun i wr => ∃ k : Nat, k ≤ n ∧ i = .int .i64 k ∧ (x0, x1) ∉ xs.take k ∧ ∃ q, wr = w0.drewN q) (fun i _ => n - (intOf i).toNat)
  case atStart => exact ⟨0, by omega, rfl, by simp, 0, rfl⟩
  case round =>
    obtain ⟨k, hk, rfl, hpre, q, rfl⟩ := hrel
    have HP := Lib.hid hpre
    clear hpre
    by_cases hlt : k < n
    · have gx := cells_get xs k (by have := HN.out; omega)
      obtain ⟨g, off, rfl, hc⟩ := hxa.cell gx.1
      obtain ⟨g2, off2, e2, hd⟩ := hxa.cell gx.2
      injection e2 with e2; injection e2 with e2 e3; subst e2; subst e3
      rw [← Nat.add_assoc] at hd
      clear gx
      have b0 : (0 : Int) ≤ (k : Int) := by omega
      have b1 : (k : Int) < (n : Int) := by omega
      by_cases he : (x0, x1) = nth xs k
      · have he' : (x0.toList == (nth xs k).1.toList && (x1.toList == (nth xs k).2.toList)) = true := by have := el_eq (x := (x0, x1)) (y := nth xs k); simp only at this; rw [this]; simpa using he
        have HE := Lib.hid he
        clear he
        go_wp2
        go_quiet (fail)
        go_wp2
        go_ret
        exact ⟨by rw [HV.out, idx_at (by have := HN.out; omega) HE.out HP.out]; rfl, by rw [World.drewN_drewN]; exact HF.out.drewN _⟩
      · have he' : (x0.toList == (nth xs k).1.toList && (x1.toList == (nth xs k).2.toList)) = false := by have := el_eq (x := (x0, x1)) (y := nth xs k); simp only at this; rw [this]; simpa using he
        have HE := Lib.hid he
        clear he
        go_wp2
        go_quiet (fail)
        go_wp2
        go_roundw
        case rel => exact ⟨k + 1, by omega, by go_num, notin_take_succ (by have := HN.out; omega) HP.out HE.out, q + nq, by first | rfl | exact World.drewN_drewN _ _ _⟩
        case measure => simp [intOf]; omega
    · go_wp2
      go_ret
      exact ⟨by
        have h1 := HP.out; have h2 := HN.out
        rw [List.take_of_length_le (by omega)] at h1
        rw [HV.out, idx_none h1]; rfl, HF.out.drewN _⟩

/-- The function value: are the names alike? -/
theorem named_calls (y0 y1 x0 x1 : ByteArray) (bx : Nat) (w : World) (hb : Bk w bx [.string x0, .string x1] 28) :
    Calls Try.prog 32 #[.agg #[.string y0, .string y1], .pointer (some ⟨bx, 0, none⟩)] w fun e w' => e = .returned (.bool (y0.toList == x0.toList)) ∧ Fr No w w' := by
  have hb1 : Bk (w.alloc (.cells #[.string y0, .string y1] 28)) bx [.string x0, .string x1] 28 := hb.alloc _
  have d0 : (w.alloc (.cells #[.string y0, .string y1] 28)).cell? ⟨bx, 0, none⟩ = some (.string x0) := hb1.cell 0
  go_enter Try.func32, Try.ntmps32
  go_wp2
  go_ret
  exact ⟨rfl, (Fr.refl No w).alloc _⟩

theorem named_index_calls (a : Option Addr) (n c : Nat) (x0 x1 : ByteArray) (bx : Nat) (xs : List El) (w : World) (hx : Rd w 2 a n c (cells xs)) (hb : Bk w bx [.string x0, .string x1] 28) :
    Calls Try.prog 31 #[.slice a n c, .func (.func 32) #[] #[.pointer (some ⟨bx, 0, none⟩)]] w fun e w' => e = .returned (.int .i64 (idn xs x0)) ∧ Fr No w w' := by
  have hn := rd_xlen hx
  have c1 := hx.capLe; have c2 := hx.le
  have HN := Lib.hid hn
  have HX := Lib.hid hx
  have HB := Lib.hid hb
  obtain ⟨v, hv⟩ : ∃ v, v = idn xs x0 := ⟨_, rfl⟩
  rw [← hv]
  have HV := Lib.hid hv
  clear hv hn hx hb
  go_enter Try.func31, Try.ntmps31
  go_wp2
  go_loopw [8] (fun i wr => ∃ k : Nat, k ≤ n ∧ i = .int .i64 k ∧ x0 ∉ (xs.take k).map Prod.fst ∧ Fr No w wr) (fun i _ => n - (intOf i).toNat)
  case atStart => exact ⟨0, by omega, rfl, by simp, Fr.refl _ _⟩
  case round =>
    obtain ⟨k, hk, rfl, hpre, hfr⟩ := hrel
    have HP := Lib.hid hpre
    clear hpre
    by_cases hlt : k < n
    · have gx := cells_get xs k (by have := HN.out; omega)
      have hx := HX.out.no hfr
      obtain ⟨g, off, rfl, hc⟩ := hx.cell gx.1
      obtain ⟨g2, off2, e2, hd⟩ := hx.cell gx.2
      injection e2 with e2; injection e2 with e2 e3; subst e2; subst e3
      rw [← Nat.add_assoc] at hd
      clear gx hx
      have b0 : (0 : Int) ≤ (k : Int) := by omega
      have b1 : (k : Int) < (n : Int) := by omega
      go_wp2_with fail
      refine (named_calls _ _ x0 x1 bx _ (HB.out.no hfr)).mono ?_
      rintro e w1 ⟨rfl, hf1⟩
      rw [tl_eq]
      by_cases he : x0 = (nth xs k).1
      · have he' : decide ((nth xs k).1 = x0) = true := by simpa using he.symm
        rw [he']
        have HE := Lib.hid he
        clear he he'
        go_wp2
        go_ret
        exact ⟨by rw [HV.out, idn_at (by have := HN.out; omega) HE.out HP.out]; rfl, hfr.then_ hf1⟩
      · have he' : decide ((nth xs k).1 = x0) = false := by simpa using fun h => he h.symm
        rw [he']
        have HE := Lib.hid he
        clear he he'
        go_wp2
        go_roundw
        case rel => exact ⟨k + 1, by omega, by go_num, notin_names_succ (by have := HN.out; omega) HP.out HE.out, hfr.then_ hf1⟩
        case measure => simp [intOf]; omega
    · go_wp2
      go_ret
      exact ⟨by
        have h1 := HP.out; have h2 := HN.out
        rw [List.take_of_length_le (by omega)] at h1
        rw [HV.out, idn_none h1]; rfl, hfr⟩
end Go.Proofs.Ytofdfmbbnchcoaa
