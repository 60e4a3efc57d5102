/- Messages: a light request. -/
import Derived.Test.YtfejfaldjfichaaDoorMsgV
import Derived.Deep.DeepCutAuto
import Derived.Deep.CutBlock
import Derived.Deep.RegionHeld3
namespace Go.Proofs.YtfejfaldjfichaaDoor
open Go.RowKit Go.Hp
set_option maxRecDepth 100000

/-- Two appends, the first to nothing. -/
theorem app2 {W w0 w1 w1' w2 : World} {e z m m2 c1 c2 : Nat} {a1 a2 : Option Addr} {r1 r2 : Option Nat} {cs cs2 : List Value} (hW : Fr No W w0) (hA1 : App w0 e z none 0 0 none m cs a1 c1 r1 w1) (h12 : Fr No w1 w1')
    (hA2 : App w1' e z a1 m c1 r1 m2 cs2 a2 c2 r2 w2) : Row w2 e z a2 (m + m2) c2 r2 cs2 ∧ (∀ k, r2 = some k → W.heap.size ≤ k) ∧ Fr No W w2 := by
  obtain ⟨h1, h2, h3⟩ := App.fresh hA1 hW
  have s1 := h3.size; have s2 := h12.size
  refine ⟨hA2.1, fun k hk => ?_, (h3.then_ h12).trans hA2.fr (fun k hk h => by have := h2 k h.symm; omega)⟩
  rcases hA2.rr with e | ⟨e, _⟩
  · exact h2 k (e ▸ hk)
  · rw [e] at hk; injection hk with hk; omega

def SomeQ (w : World) (e : Ending) (w' : World) : Prop := ∃ x, e = .returned (.bool x) ∧ Fr No w w'
set_option maxHeartbeats 4000000 in
theorem light_calls (m s au p b : ByteArray) (fa : Option Addr) (fn fc : Nat) (ta : Option Addr) (tn tc : Nat) (F T : List El) (w : World) (hF : Rd w 2 fa fn fc (cells F)) (hT : Rd w 2 ta tn tc (cells T)) (hfn : fn ≤ 2000000) (htn : tn ≤ 2000000) :
    Calls Tryd.prog 15 #[.agg #[.string m, .string s, .string au, .string p, .slice fa fn fc, .string b, .slice ta tn tc]] w (SomeQ w) := by
  obtain ⟨i0, hi0, hz0, hz1, hz2⟩ := info_parts infoE
  obtain ⟨ob, hob⟩ : ∃ ob, w.heap.size = ob := ⟨_, rfl⟩
  have hB := Bk.new w [.string m, .string s, .string au, .string p, .slice fa fn fc, .string b, .slice ta tn tc] 34
  rw [hob] at hB
  have hw1 : Fr No w (w.alloc (.cells #[.string m, .string s, .string au, .string p, .slice fa fn fc, .string b, .slice ta tn tc] 34)) := (Fr.refl No w).alloc _
  go_enter Tryd.func15, Tryd.ntmps15
  go_wp2
  generalize w.alloc (.cells #[.string m, .string s, .string au, .string p, .slice fa fn fc, .string b, .slice ta tn tc] 34) = W at *
  have HB := Lib.hid hB
  have HW := Lib.hid hw1
  have HRF := Lib.hid (hF.no hw1)
  have HRT := Lib.hid (hT.no hw1)
  have hl1 := rd_xlen hF
  have hl2 := rd_xlen hT
  have HL := Lib.hid (show (F ++ T).length = fn + tn by rw [List.length_append]; omega)
  have hQ : ∀ w' : World, Fr No W w' → (w'.cell? ⟨ob, 4, none⟩ = some (.slice fa fn fc) ∧ w'.cell? ⟨ob, 6, none⟩ = some (.slice ta tn tc)) := fun w' hf =>
    ⟨(HB.out.no hf).cell 4, (HB.out.no hf).cell 6⟩
  have HQ := Lib.hid hQ
  clear hF hT hB hw1 hl1 hl2 hQ hob
  go_region_held3 (fun w' => w'.cell? ⟨ob, 4, none⟩ = some (.slice fa fn fc) ∧ w'.cell? ⟨ob, 6, none⟩ = some (.slice ta tn tc))
    (first
      | exact qB
      | exact qA
      | exact HQ.out _ ((Fr.refl No W).drew)
      | go_keep)
    (first
      | (refine step_app (by rfl) (.const (.slice none 0 0)) (.tmp 26) 32 (by rfl) 30 i0 (.agg #[.string ⟨#[]⟩, .string ⟨#[]⟩]) 2 32 Tryd.underlying32 hi0 hz0 hz1 hz2 rfl none 0 0 (by rfl) none [] (Row.nil _ _ _) fa fn fc (by rfl) (cells F) (HRF.out.no ((Fr.refl No W).drew)) (cells_one _) (by omega) (by omega) ?_; intro a3 c3 r3 w3 hA3; have hf3 := (App.fresh hA3 ((Fr.refl No W).drew)).2.2; have qA := HQ.out _ hf3)
      | (refine step_app (by rfl) (.tmp 27) (.tmp 29) 32 (by rfl) 30 i0 (.agg #[.string ⟨#[]⟩, .string ⟨#[]⟩]) 2 32 Tryd.underlying32 hi0 hz0 hz1 hz2 rfl a3 (0 + fn) c3 (by simp [Act.eval]) r3 ([] ++ cells F) hA3.1 ta tn tc (by simp [Act.eval]) (cells T) (HRT.out.no hf3) (cells_one _) (by omega) (by omega) ?_; intro a4 c4 r4 w4 hA4; have hZ := app2 ((Fr.refl No W).drew) hA3 (Fr.refl No w3) (by rw [Nat.zero_add] at hA4; exact hA4); have qB := HQ.out _ hZ.2.2))
  all_goals
    obtain ⟨hZ1, hZ2, hZ3⟩ := hZ
    rw [List.nil_append, ← cells_append] at hZ1
    have HR4 := Lib.hid hZ1.rd
    have HF4 := Lib.hid hZ3
    have HB4 := Lib.hid (HB.out.no hZ3)
    have hcap := hZ1.rd.capLe; have hle := hZ1.rd.le
    clear hZ1 hZ2 hZ3 hA3 hA4 hf3 qA qB HRF HRT
    go_wp2
    go_loopw [3, 5, 32] (fun v _ i wr => ∃ (k : Nat) (x : Int), k ≤ fn + tn ∧ i = .int .i64 k ∧ v = .int .i64 x ∧ Fr No w4 wr) (fun _ _ i _ => fn + tn - (intOf i).toNat)
    case atStart => exact ⟨0, _, by omega, rfl, rfl, Fr.refl _ _⟩
    case round =>
      obtain ⟨k, x, hk, rfl, rfl, hfr⟩ := hrel
      by_cases hlt : k < fn + tn
      · have hkl : k < (F ++ T).length := by have := HL.out; omega
        have gx := cells_get (F ++ T) k hkl
        have hx := HR4.out.no hfr
        obtain ⟨g, off, rfl, hc⟩ := hx.cell gx.1
        obtain ⟨g2, off2, e2, hd⟩ := hx.cell gx.2
        injection e2 with e2; injection e2 with e2 e3; subst e2; subst e3
        rw [← Nat.add_assoc] at hd
        have HFR := Lib.hid hfr
        have b0 : (0 : Int) ≤ (k : Int) := by omega
        have b1 : (k : Int) < (fn : Int) + (tn : Int) := by omega
        clear gx hx hfr
        go_wp2
        go_roundw
        case rel => exact ⟨k + 1, _, by omega, by go_num, rfl, HFR.out.alloc _⟩
        case measure => simp [intOf]; omega
      · have HFR := Lib.hid hfr
        have hb := HB4.out.no hfr
        have d4 : wr.cell? ⟨ob, 4, none⟩ = some (.slice fa fn fc) := hb.cell 4
        have d6 : wr.cell? ⟨ob, 6, none⟩ = some (.slice ta tn tc) := hb.cell 6
        clear hfr hb
        go_wp2
        all_goals
          go_ret
          exact ⟨_, rfl, (HW.out.then_ HF4.out).then_ HFR.out⟩
end Go.Proofs.YtfejfaldjfichaaDoor
