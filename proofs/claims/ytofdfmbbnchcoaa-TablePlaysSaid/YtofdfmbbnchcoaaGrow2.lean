/- The lists that are kept (Fields): the walk of the growing. -/
import Derived.Test.YtofdfmbbnchcoaaGrow
namespace Go.Proofs.Ytofdfmbbnchcoaa
open Go.RowKit Go.Hp
set_option maxRecDepth 100000

set_option maxHeartbeats 2000000 in
theorem grow_calls (B bk : Nat) (L : List Ent) (w : World) (hLs : ListsAt w B bk L) (hMk : Marked L) (hL : L.length ≤ 250) (hBw : B ≤ w.heap.size) (hn : ∀ (j : Nat) (k : Ent), L[j]? = some k → k.n ≤ 1073741824) :
    Calls Try.prog 46 #[.pointer (some ⟨bk, 0, none⟩)] w (GrowQ w B bk L) := by
  obtain ⟨i0, hi0, hz0, hz1, hz2⟩ := info_parts infoL
  obtain ⟨iE, hiE, hy0, hy1, hy2⟩ := info_parts infoE
  go_enter Try.func46, Try.ntmps46
  go_wp2
  go_loopw [3, 4] (fun v i wr => ∃ (ao : Option Addr) (co : Nat) (ro : Option Nat) (G : List Ent), G.length ≤ L.length ∧ i = .int .i64 G.length ∧ v = .slice ao G.length co ∧ GO w L ao co ro G wr) (fun _ i _ => L.length - (intOf i).toNat)
  case atStart => exact ⟨none, 0, none, [], by simp, rfl, rfl, GO.start hLs⟩
  case round =>
    obtain ⟨ao, co, ro, G, hGl, rfl, rfl, hGO⟩ := hrel
    have hLr := hLs.of_rows hGO.1 hGO.2.1
    have HG := Lib.hid hGO
    obtain ⟨ai, ci, ri, y, hB, hb, hrow, hiB, _, _⟩ := hLr
    have c0 : wr.cell? ⟨bk, 4, none⟩ = some (.slice ai L.length ci) := hb.cell 4
    have ic := hrow.capLe; have il := hrow.le
    by_cases hlt : G.length < L.length
    · obtain ⟨x, hx⟩ : ∃ x, L[G.length]? = some x := ⟨_, List.getElem?_eq_getElem hlt⟩
      obtain ⟨g, off, rfl, hc⟩ := hrow.rd.cell (map_get Ent.v hx)
      have hxn := hn _ x hx
      have hxs := hMk _ x hx
      have hxl : ∀ b, x.r = some b → b < w.heap.size := fun b hb => (hLs.rows.2.1 b ⟨_, _, hx, hb⟩).2
      obtain ⟨xa, xn, xc, xr, xwa, xwc, xwr, xs⟩ := x
      simp only at hxn hxs hxl
      simp only [Ent.v] at hc
      have hsz := hGO.1.size
      have hgi := HG.out.start' hx hxs
      have hcap : xn ≤ xc ∧ xc ≤ 9223372036854775807 := ⟨hgi.2.1.le, hgi.2.1.capLe⟩
      obtain ⟨hx1, hx2⟩ := hcap
      have HX := Lib.hid hx
      have HS := Lib.hid hxs
      have HXL : Hid (∀ b, xr = some b → b < wr.heap.size) := fun b hb => Nat.lt_of_lt_of_le (hxl b hb) hsz
      have HXW := Lib.hid hxl
      have HI := Lib.hid hgi
      clear hx hxs hxl hgi hb hrow hGO
      have b0 : (0 : Int) ≤ (G.length : Int) := by omega
      have b1 : (G.length : Int) < (L.length : Int) := by omega
      obtain ⟨gi, hgi⟩ : ∃ gi, gi = G.length := ⟨_, rfl⟩
      go_wp2
      obtain ⟨wo, rfl⟩ : ∃ wo : World, wo = wr := ⟨_, rfl⟩
      go_loopw [5, 6] (fun v j wi => ∃ (n : Nat) (al : Option Addr) (cl : Nat) (rl : Option Nat), n ≤ 12 ∧ j = .int .i64 n ∧ v = .slice al (xn + n) cl ∧ GI wo xa xn xc xr G.length n al cl rl wi) (fun _ j _ => 12 - (intOf j).toNat)
      case atStart => exact ⟨0, xa, xc, xr, by omega, rfl, rfl, HI.out⟩
      case round =>
        obtain ⟨n, al, cl, rl, hn12, rfl, rfl, hGI⟩ := hrel
        have hc1 := hGI.2.2.1.le; have hc2 := hGI.2.2.1.capLe
        have HI2 := Lib.hid hGI
        clear hGI
        by_cases hlt2 : n < 12
        · go_wp2_with (first
            | (go_at_call 63; refine (mark_calls G.length (xn + n) 1 wr (by omega) (by omega)).mono ?_; rintro e w1 ⟨am, cm, rm, rfl, hm, hmB, hmF⟩; clear hmB)
            | (at_builtin; refine wpList_app _ rfl (.tmp 27) (.tmp 31) 33 rfl 28 iE (.agg #[.string ⟨#[]⟩, .string ⟨#[]⟩]) 2 32 Try.underlying33 hiE hy0 hy1 hy2 rfl al (xn + n) cl rfl rl _ ((HI2.out.no hmF).2.2.1) am 1 cm rfl _ hm.rd (cells_one _) (by omega) (by omega) ?_; intro a2 c2 r2 w2 hA2))
          go_roundw
          case rel => exact ⟨n + 1, a2, c2, r2, by omega, by go_num, rfl, (HI2.out.no hmF).app HXL hA2⟩
          case measure => simp [intOf]; omega
        · have h12 : n = 12 := by omega
          subst h12
          clear hlt2 hn12
          go_wp2_with (first
            | (go_at_call 63; refine (mark_calls G.length (xn + 12) 60 wr (by omega) (by omega)).mono ?_; rintro e w1 ⟨am, cm, rm, rfl, hm, hmB, hmF⟩; clear hmB)
            | (at_builtin; refine wpList_app _ rfl (.tmp 34) (.tmp 38) 33 rfl 28 iE (.agg #[.string ⟨#[]⟩, .string ⟨#[]⟩]) 2 32 Try.underlying33 hiE hy0 hy1 hy2 rfl al (xn + 12) cl rfl rl _ ((HI2.out.no hmF).2.2.1) am 60 cm rfl _ hm.rd (cells_one _) (by omega) (by omega) ?_; intro a2 c2 r2 w2 hA2; have hI2 : GI wo xa xn xc xr G.length 72 a2 c2 r2 w2 := (HI2.out.no hmF).app HXL hA2; have hR2 : Row w2 33 1 ao G.length co ro (G.map Ent.v) := HG.out.2.2.1.1.fr hI2.1 (fun b hb h => by have := HXW.out b h.symm; have := HG.out.2.2.1.2 b hb; omega))
            | (at_builtin; refine wpList_app _ rfl (.tmp 33) (.tmp 40) 41 rfl 33 i0 (.slice none 0 0) 1 24 Try.underlying41 hi0 hz0 hz1 hz2 rfl ao G.length co rfl ro _ (hR2.alloc _) (some ⟨w2.heap.size, 0, none⟩) 1 1 rfl [.slice a2 (xn + 72) c2] (Row.one w2 33 1 [_] rfl).rd (by simp [Value.oneCell']) (by omega) (by omega) ?_; intro a3 c3 r3 w3 hA3))
          have hfin := HG.out.step hLs rfl HX.out HS.out hxn hI2 hA3
          have HF := Lib.hid hfin
          clear hfin
          go_wp2
          go_roundw
          case rel => exact ⟨a3, c3, r3, _, by rw [List.length_append]; simp; omega, by rw [List.length_append]; go_num, by rw [List.length_append]; rfl, HF.out⟩
          case measure => simp [intOf]; omega
    · go_wp2
      go_ret
      exact HG.out.done hLs (by omega) hBw
end Go.Proofs.Ytofdfmbbnchcoaa
