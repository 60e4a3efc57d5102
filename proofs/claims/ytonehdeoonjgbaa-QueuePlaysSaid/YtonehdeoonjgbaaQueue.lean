/- The queue: what each of its methods does. -/
import Derived.Test.YtonehdeoonjgbaaDelete
namespace Go.Proofs.Ytonehdeoonjgbaa
open Go.RowKit Go.Hp
set_option maxRecDepth 100000

/-- The first place of x; -1. -/
def idx (l : List Int) (x : Int) : Int := if x ∈ l then ((l.idxOf x : Nat) : Int) else -1
theorem idx_at {l : List Int} {x : Int} {k : Nat} (hk : k < l.length) (he : x = nth l k) (hn : x ∉ l.take k) : idx l x = k := by
  have e : nth l k = l[k] := by simp [nth, List.getD, List.getElem?_eq_getElem hk]
  have hm : x ∈ l := by rw [he, e]; exact List.getElem_mem _
  unfold idx
  rw [if_pos hm]
  congr 1
  have h1 : l = l.take k ++ x :: l.drop (k + 1) := by
    rw [he, e, List.getElem_cons_drop, List.take_append_drop]
  rw [h1, List.idxOf_append, if_neg hn, List.idxOf_cons_self, List.length_take]
  omega
theorem idx_none {l : List Int} {x : Int} (hn : x ∉ l) : idx l x = -1 := by unfold idx; rw [if_neg hn]
theorem idx_lt (l : List Int) (x : Int) : -1 ≤ idx l x ∧ idx l x < l.length := by
  unfold idx
  split
  · rename_i h; have := List.idxOf_lt_length_of_mem h; omega
  · omega
theorem idx_neg (l : List Int) (x : Int) : idx l x < 0 ↔ x ∉ l := by
  unfold idx
  split
  · rename_i h; constructor
    · omega
    · exact fun h' => absurd h h'
  · rename_i h; exact ⟨fun _ => h, fun _ => by omega⟩
theorem notin_take_succ {l : List Int} {x : Int} {k : Nat} (hk : k < l.length) (hn : x ∉ l.take k) (he : ¬ x = nth l k) : x ∉ l.take (k + 1) := by
  have e : nth l k = l[k] := by simp [nth, List.getD, List.getElem?_eq_getElem hk]
  rw [List.take_succ_eq_append_getElem hk, List.mem_append, List.mem_singleton]
  rintro (h | h)
  · exact hn h
  · exact he (by rw [e]; exact h)

theorem index_calls (a : Option Addr) (n c : Nat) (x : Int) (xs : List El) (w : World) (hx : Rd w 1 a n c (cells xs)) :
    Calls Try.prog 18 #[.slice a n c, .int .i64 x] w fun e w' => e = .returned (.int .i64 (idx xs x)) ∧ w = w' := by
  have hn := rd_xlen hx
  have c1 := hx.capLe; have c2 := hx.le
  have HN := Lib.hid hn
  clear hn
  obtain ⟨v, hv⟩ : ∃ v, v = idx xs x := ⟨_, rfl⟩
  rw [← hv]
  have HV := Lib.hid hv
  clear hv
  go_enter Try.func18, Try.ntmps18
  go_wp2
  go_loopw [8] (fun i wr => ∃ k : Nat, k ≤ n ∧ i = .int .i64 k ∧ x ∉ xs.take k ∧ wr = w) (fun i _ => n - (intOf i).toNat)
  case atStart => exact ⟨0, by omega, rfl, by simp, rfl⟩
  case round =>
    obtain ⟨k, hk, rfl, hpre, rfl⟩ := hrel
    have HP := Lib.hid hpre
    clear hpre
    by_cases hlt : k < n
    · have gx := cells_get xs k (by have := HN.out; omega)
      obtain ⟨g, off, rfl, hc⟩ := hx.cell gx
      clear gx
      have b0 : (0 : Int) ≤ (k : Int) := by omega
      have b1 : (k : Int) < (n : Int) := by omega
      by_cases he : x = nth xs k
      · have he' : (x == nth xs k) = true := by simpa using he
        have HE := Lib.hid he
        clear he
        go_wp2
        go_ret
        exact ⟨by rw [HV.out, idx_at (by have := HN.out; omega) HE.out HP.out]; rfl, rfl⟩
      · have he' : (x == nth xs k) = false := by simpa using he
        have HE := Lib.hid he
        clear he
        go_wp2
        go_roundw
        case rel => exact ⟨k + 1, by omega, by go_num, notin_take_succ (by have := HN.out; omega) HP.out HE.out, by first | rfl | trivial⟩
        case measure => simp [intOf]; omega
    · go_wp2
      go_ret
      exact ⟨by
        have h1 := HP.out; have h2 := HN.out
        rw [List.take_of_length_le (by omega)] at h1
        rw [HV.out, idx_none h1]; rfl, rfl⟩

theorem contains_calls (a : Option Addr) (n c : Nat) (x : Int) (xs : List El) (w : World) (hx : Rd w 1 a n c (cells xs)) :
    Calls Try.prog 41 #[.slice a n c, .int .i64 x] w fun e w' => e = .returned (.bool (decide (x ∈ xs))) ∧ w = w' := by
  obtain ⟨v, hv⟩ : ∃ v, v = decide (x ∈ xs) := ⟨_, rfl⟩
  have hi : decide (0 ≤ idx xs x) = v := by
    rw [hv, Bool.eq_iff_iff, decide_eq_true_iff, decide_eq_true_iff]
    have := idx_neg xs x
    constructor
    · intro h; exact Decidable.byContradiction fun h' => by have := this.2 h'; omega
    · intro h; rcases Int.lt_or_le (idx xs x) 0 with h' | h'
      · exact absurd h (this.1 h')
      · exact h'
  rw [← hv]
  clear hv
  obtain ⟨j, hj⟩ : ∃ j, idx xs x = j := ⟨_, rfl⟩
  have hc := index_calls a n c x xs w hx
  rw [hj] at hi hc
  have HC := Lib.hid hc
  clear hc hj
  go_enter Try.func41, Try.ntmps41
  go_wp2_with fail
  refine HC.out.mono ?_
  rintro e w' ⟨rfl, rfl⟩
  go_wp2
  go_ret
  exact ⟨rfl, rfl⟩

/-- A queue at block q: its calls l, of which there may be most; they lie in block r. -/
def QAt (w : World) (q : Nat) (r : Option Nat) (l : List Int) (most : Int) : Prop :=
  ∃ a c, Bk w q [.slice a l.length c, .int .i64 most] 48 ∧ Row w 3 1 a l.length c r (cells l)
/-- What may have changed. -/
def QStep (w : World) (q : Nat) (r : Option Nat) (w' : World) (r' : Option Nat) : Prop :=
  (r' = r ∨ ∃ b, r' = some b ∧ w.heap.size ≤ b) ∧ Fr (fun b => b = q ∨ some b = r) w w'
theorem QAt.fr {w w' : World} {q : Nat} {r : Option Nat} {l : List Int} {most : Int} {S : Nat → Prop} (h : QAt w q r l most) (hf : Fr S w w') (h1 : ¬ S q) (h2 : ∀ b, r = some b → ¬ S b) : QAt w' q r l most := by
  obtain ⟨a, c, hb, hr⟩ := h
  exact ⟨a, c, hb.fr hf h1, hr.fr hf h2⟩
theorem QAt.no {w w' : World} {q : Nat} {r : Option Nat} {l : List Int} {most : Int} (h : QAt w q r l most) (hf : Fr No w w') : QAt w' q r l most := h.fr hf (fun h => h) (fun _ _ h => h)

theorem qnil : ∀ (w : World) (a : Addr), (binOp .eql 24 (.pointer (some a)) (.pointer none)).run Try.prog w = .ok (.bool false) w := fun _ _ => by kernel_rfl

def mayE (l : List Int) (most id : Int) : Int := if id ∈ l then 1 else if most ≤ l.length then 13 else 0

theorem may_calls (q : Nat) (r : Option Nat) (l : List Int) (most id : Int) (w : World) (h : QAt w q r l most) :
    Calls Try.prog 15 #[.pointer (some ⟨q, 0, none⟩), .int .i64 id] w fun e w' => e = .returned (.int .i64 (mayE l most id)) ∧ ∃ m, w' = w.drewN m := by
  obtain ⟨a, c, hb, hr⟩ := h
  have c0 : w.cell? ⟨q, 0, none⟩ = some (.slice a l.length c) := hb.cell 0
  have c1 : w.cell? ⟨q, 1, none⟩ = some (.int .i64 most) := hb.cell 1
  have hcn := contains_calls a l.length c id l w hr.rd
  have HC := Lib.hid hcn
  clear hcn
  obtain ⟨v, hv⟩ : ∃ v, v = mayE l most id := ⟨_, rfl⟩
  rw [← hv]
  by_cases hm : id ∈ l
  · have hd : decide (id ∈ l) = true := by simpa using hm
    have hv1 : v = 1 := by rw [hv]; simp [mayE, hm]
    rw [hd] at HC
    clear hd hv hm
    subst hv1
    go_enter Try.func15, Try.ntmps15
    go_wp2_with fail
    refine HC.out.mono ?_
    rintro e w' ⟨rfl, rfl⟩
    go_wp2
    go_ret
    exact ⟨rfl, 0, rfl⟩
  · have hd : decide (id ∈ l) = false := by simpa using hm
    rw [hd] at HC
    by_cases hb2 : most ≤ l.length
    · have hv1 : v = 13 := by rw [hv]; simp [mayE, hm, hb2]
      clear hd hv hm
      subst hv1
      go_enter Try.func15, Try.ntmps15
      go_wp2_with fail
      refine HC.out.mono ?_
      rintro e w' ⟨rfl, rfl⟩
      go_wp2
      go_quiet (fail)
      go_wp2
      go_ret
      exact ⟨rfl, nq, rfl⟩
    · have hv1 : v = 0 := by rw [hv]; simp [mayE, hm, hb2]
      have hb3 : (l.length : Int) < most := by omega
      clear hd hv hm hb2
      subst hv1
      go_enter Try.func15, Try.ntmps15
      go_wp2_with fail
      refine HC.out.mono ?_
      rintro e w' ⟨rfl, rfl⟩
      go_wp2
      go_quiet (fail)
      go_wp2
      go_ret
      exact ⟨rfl, nq, rfl⟩
end Go.Proofs.Ytonehdeoonjgbaa
