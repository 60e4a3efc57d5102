/- The lists that are kept (Fields): are they as they were? -/
import Derived.Test.YtofdfmbbnchcoaaBook
namespace Go.Proofs.Ytofdfmbbnchcoaa
open Go.RowKit Go.Hp
set_option maxRecDepth 100000

theorem Rd.drewN' {w : World} {z : Nat} {a : Option Addr} {n c : Nat} {cs : List Value} (h : Rd w z a n c cs) (q : Nat) : Rd (w.drewN q) z a n c cs := h.no ((Fr.refl No w).drewN q)
theorem map_get (f : Ent → Value) {L : List Ent} {k : Nat} {x : Ent} (h : L[k]? = some x) : (L.map f)[k]? = some (f x) := by simp [h]

theorem still_calls (B bk : Nat) (L : List Ent) (w : World) (hBook : BookAt w B bk L) (hL : L.length ≤ 250) :
    Calls Try.prog 36 #[.pointer (some ⟨bk, 0, none⟩)] w fun e w' => e = .returned (.bool true) ∧ ∃ q, w' = w.drewN q := by
  obtain ⟨ai, ci, ri, aw, cw, rw', hB, hbk, hi, hw, hiB, hwB, hne, hE, hA⟩ := hBook
  have c0 : w.cell? ⟨bk, 4, none⟩ = some (.slice ai L.length ci) := hbk.cell 4
  have c1 : w.cell? ⟨bk, 5, none⟩ = some (.slice aw L.length cw) := hbk.cell 5
  have ic := hi.capLe; have wc := hw.capLe; have il := hi.le; have wl := hw.le
  go_enter Try.func36, Try.ntmps36
  go_wp2
  go_loopw [3] (fun i wr => ∃ k : Nat, k ≤ L.length ∧ i = .int .i64 k ∧ ∃ q, wr = w.drewN q) (fun i _ => L.length - (intOf i).toNat)
  case atStart => exact ⟨0, by omega, rfl, 0, rfl⟩
  case round =>
    obtain ⟨k, hk, rfl, q, rfl⟩ := hrel
    by_cases hlt : k < L.length
    · obtain ⟨x, hx⟩ : ∃ x, L[k]? = some x := ⟨_, List.getElem?_eq_getElem hlt⟩
      have hEx := hE x (List.mem_of_getElem? hx)
      obtain ⟨g, off, rfl, hc⟩ := hi.rd.cell (map_get Ent.v hx)
      obtain ⟨g', off', rfl, hc'⟩ := hw.rd.cell (map_get Ent.wv hx)
      clear hx
      simp only [Ent.v] at hc
      simp only [Ent.wv] at hc'
      have b0 : (0 : Int) ≤ (k : Int) := by omega
      have b1 : (k : Int) < (L.length : Int) := by omega
      have hs : ∀ m, Calls Try.prog 19 #[.slice x.a x.n x.c, .slice x.wa x.n x.wc] (w.drewN (q + m)) fun e w' => e = .returned (.bool true) ∧ ∃ j, w' = w.drewN (q + j) := fun m =>
        (same_calls x.a x.wa x.n x.c x.n x.wc x.xs x.xs _ (Rd.drewN' hEx.1.rd _) (Rd.drewN' hEx.2.1.rd _)).mono fun e w' ⟨h1, j, h2⟩ => ⟨by rw [h1]; simp, m + j, by rw [h2, World.drewN_drewN, Nat.add_assoc]⟩
      have HS := Lib.hid hs
      clear hs
      go_wp2
      go_quiet ((go_at_call 19; exact HS.out _))
      go_wp2
      go_roundw
      case rel => exact ⟨k + 1, by omega, by go_num, q + nq, by first | rfl | exact World.drewN_drewN _ _ _⟩
      case measure => simp [intOf]; omega
    · go_wp2
      go_ret
      exact ⟨rfl, q, rfl⟩
end Go.Proofs.Ytofdfmbbnchcoaa
