/- The lists that are kept (Fields): are all marked? -/
import Derived.Test.YtofdfmbbnchcoaaPut
namespace Go.Proofs.Ytofdfmbbnchcoaa
open Go.RowKit Go.Hp
set_option maxRecDepth 100000

/-- Lists that are all marked. -/
def AllMarked (w : World) (a : Option Addr) (c : Nat) (G : List Ent) : Prop :=
  Rd w 1 a G.length c (G.map Ent.v) ∧ ∀ (j : Nat) (k : Ent), G[j]? = some k → Rd w 2 k.a k.n k.c (cells (marks j 0 k.n)) ∧ k.n ≤ 2147483648
theorem AllMarked.no {w w' : World} {a : Option Addr} {c : Nat} {G : List Ent} (h : AllMarked w a c G) (hf : Fr No w w') : AllMarked w' a c G :=
  ⟨h.1.no hf, fun j k hj => ⟨(h.2 j k hj).1.no hf, (h.2 j k hj).2⟩⟩
theorem same_true (a b : Option Addr) (n c d : Nat) (xs : List El) (w : World) (hx : Rd w 2 a n c (cells xs)) (hy : Rd w 2 b n d (cells xs)) :
   Calls Try.prog 19 #[.slice a n c, .slice b n d] w fun e w' => e = .returned (.bool true) ∧ ∃ q, w' = w.drewN q :=
  (same_calls a b n c n d xs xs w hx hy).mono fun e w' h => ⟨by rw [h.1]; simp, h.2⟩

set_option maxHeartbeats 1000000 in
theorem marked_calls (a : Option Addr) (c : Nat) (G : List Ent) (w : World) (hG : AllMarked w a c G) (hL : G.length ≤ 1000) :
    Calls Try.prog 51 #[.slice a G.length c] w fun e w' => e = .returned (.bool true) ∧ Fr No w w' := by
  have gl := hG.1.le; have gc := hG.1.capLe
  have HG := Lib.hid hG
  clear hG
  go_enter Try.func51, Try.ntmps51
  go_wp2
  go_loopw [3] (fun i wr => ∃ k : Nat, k ≤ G.length ∧ i = .int .i64 k ∧ Fr No w wr) (fun i _ => G.length - (intOf i).toNat)
  case atStart => exact ⟨0, by omega, rfl, Fr.refl _ _⟩
  case round =>
    obtain ⟨k, hk, rfl, hfr⟩ := hrel
    by_cases hlt : k < G.length
    · obtain ⟨x, hx⟩ : ∃ x, G[k]? = some x := ⟨_, List.getElem?_eq_getElem hlt⟩
      have hg := HG.out.no hfr
      obtain ⟨hxr, hxn⟩ := hg.2 k x hx
      obtain ⟨g, off, rfl, hc⟩ := hg.1.cell (map_get Ent.v hx)
      clear hx hg
      obtain ⟨xa, xn, xc, xr, xwa, xwc, xwr, xs⟩ := x
      simp only [Ent.v] at hc hxr hxn
      have HX := Lib.hid hxr
      clear hxr
      have b0 : (0 : Int) ≤ (k : Int) := by omega
      have b1 : (k : Int) < (G.length : Int) := by omega
      go_wp2
      go_region_law (first
        | (go_simp; go_at_call 63; refine (mark_calls k 0 xn _ (by omega) (by omega)).mono ?_; rintro e w2 ⟨a2, c2, r2, rfl, hrow2, hb2, hfr2'⟩; have hfr2 : Fr No wr w2 := ⟨hfr2'.os, hfr2'.tape, hfr2'.output, hfr2'.size, hfr2'.block⟩; have hc2 : w2.cell? ⟨g, off + k, none⟩ = some (.slice xa xn xc) := hfr2.cell (fun h => h) hc; clear hb2)
        | (go_simp; go_at_call 19; refine (same_true xa a2 xn xc c2 (marks k 0 xn) w2 (HX.out.no hfr2) hrow2.rd).mono ?_; rintro e w3 ⟨rfl, q, rfl⟩))
      all_goals
        go_wp2
        go_roundw
        case rel => exact ⟨k + 1, by omega, by go_num, (hfr.then_ hfr2).drewN q⟩
        case measure => simp [intOf]; omega
    · go_wp2
      go_ret
      exact ⟨rfl, hfr⟩
end Go.Proofs.Ytofdfmbbnchcoaa
