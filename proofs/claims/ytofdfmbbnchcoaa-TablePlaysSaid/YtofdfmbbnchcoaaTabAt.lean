/- The tables: a place, whichever it is. -/
import Derived.Test.YtofdfmbbnchcoaaTabState
namespace Go.Proofs.Ytofdfmbbnchcoaa
open Go.RowKit Go.Hp
set_option maxRecDepth 100000

/-- What stands at a place, and whether it is one. -/
def atL (L : List El) (i : Int) : El × Bool := if 1 ≤ i ∧ i ≤ (L.length : Int) then (nth L (i - 1).toNat, true) else (z0, false)
theorem fixedL_len (l : List El) : (fixedL ++ l).length = 16 + l.length := by rw [List.length_append]; rfl
theorem at_any (p : Value) (l : List El) (i : Int) (w : World) (h : Tabs w l p) (hl : l.length ≤ 1000000) :
    Calls Try.prog 7 #[p, .int .i64 i] w fun e w' => e = .returned (.tuple #[vE (atL (fixedL ++ l) i).1, .bool (atL (fixedL ++ l) i).2]) ∧ Fr No w w' := by
  have hlen := fixedL_len l
  by_cases hi : 1 ≤ i ∧ i ≤ ((fixedL ++ l).length : Int)
  · obtain ⟨k, rfl⟩ : ∃ k : Nat, i = (k : Int) + 1 := ⟨(i - 1).toNat, by omega⟩
    have e : atL (fixedL ++ l) ((k : Int) + 1) = (nth (fixedL ++ l) k, true) := by
      unfold atL
      rw [if_pos hi]
      congr 2
      omega
    rw [e]
    exact at_in p l k w h hl (by omega)
  · have e : atL (fixedL ++ l) i = (z0, false) := by unfold atL; rw [if_neg hi]
    rw [e]
    exact at_out p l i w h hl (by omega)
theorem rat_any (q : Nat) (r : Option Nat) (l : List El) (size i : Int) (w : World) (h : RAt w q r l size) (hl : l.length ≤ 1000000) :
    Calls Try.prog 14 #[.pointer (some ⟨q, 0, none⟩), .int .i64 i] w fun e w' => e = .returned (.tuple #[vE (atL (fixedL ++ l) i).1, .bool (atL (fixedL ++ l) i).2]) ∧ Fr No w w' := by
  have hlen := fixedL_len l
  by_cases hi : 1 ≤ i ∧ i ≤ ((fixedL ++ l).length : Int)
  · obtain ⟨k, rfl⟩ : ∃ k : Nat, i = (k : Int) + 1 := ⟨(i - 1).toNat, by omega⟩
    have e : atL (fixedL ++ l) ((k : Int) + 1) = (nth (fixedL ++ l) k, true) := by
      unfold atL
      rw [if_pos hi]
      congr 2
      omega
    rw [e]
    exact rat_in q r l size k w h hl (by omega)
  · have e : atL (fixedL ++ l) i = (z0, false) := by unfold atL; rw [if_neg hi]
    rw [e]
    exact rat_out q r l size i w h hl (by omega)
theorem Core.keepA {w0 W W' : World} {B q p bk k ob : Nat} {s s2 : Int} {rq rp : Option Nat} {R R2 : List El} {L : List Ent} {cs : List Value} {a : Option Addr} {n c : Nat} {r : Option Nat} {xs : List El} {e : Ending} {T : Nat}
    (_h : Core w0 B q p bk k s s2 rq rp R R2 L W) (hA : AddQ W B bk L a n c r xs e W') (hb : Bk W ob cs T) (h1 : T ≠ 45) (h2 : T ≠ 33) : Bk W' ob cs T := by
  obtain ⟨_, wa, wc, wr, hbook, hwr, hF⟩ := hA
  refine hb.fr hF ?_
  rintro ⟨_, cs', T', h3, h4⟩
  rcases h4 with rfl | rfl
  · exact Bk.ne hb h3 h1 rfl
  · exact Bk.ne hb h3 h2 rfl
end Go.Proofs.Ytofdfmbbnchcoaa
