/- The table of headers: the eldest go. -/
import Derived.Test.YtofdfmbbnchcoaaTab5
namespace Go.Proofs.Ytofdfmbbnchcoaa
open Go.RowKit Go.Hp
set_option maxRecDepth 100000

/-- Of l the first j are left, where there may be m bytes. -/
def IsFit (l : List El) (m : Int) (j : Nat) : Prop := j ≤ l.length ∧ (j = 0 ∨ sumE (l.take j) ≤ m) ∧ ∀ i, j < i → i ≤ l.length → m < sumE (l.take i)
theorem IsFit.one {l : List El} {m : Int} {j j' : Nat} (h : IsFit l m j) (h' : IsFit l m j') : j = j' := by
  obtain ⟨h1, h2, h3⟩ := h
  obtain ⟨k1, k2, k3⟩ := h'
  rcases Nat.lt_trichotomy j j' with h | h | h
  · have := h3 j' h k1
    rcases k2 with k2 | k2 <;> omega
  · exact h
  · have := k3 j h h1
    rcases h2 with h2 | h2 <;> omega

def ShrQ (w : World) (q : Nat) (r : Option Nat) (l : List El) (size m : Int) (e : Ending) (w' : World) : Prop :=
  e = .returned (.tuple #[]) ∧ ∃ j, IsFit l m j ∧ TAt w' q r (l.take j) size ∧ Fr (fun b => b = q) w w'

set_option maxHeartbeats 2000000 in
theorem shrink_calls (q : Nat) (r : Option Nat) (l : List El) (size most : Int) (w : World) (h : TAt w q r l size) (hs : ∀ x ∈ l, costE x ≤ 1000) (hl : l.length ≤ 1000) :
    Calls Try.prog 24 #[.pointer (some ⟨q, 0, none⟩), .int .i64 most] w (ShrQ w q r l size most) := by
  have HT := Lib.hid h
  have HS := Lib.hid hs
  clear h hs
  go_enter Try.func24, Try.ntmps24
  go_wp2
  go_loopg [4] l.length (fun gg v wr => gg ≤ l.length ∧ TAt wr q r (l.take gg) size ∧ (∀ i, gg < i → i ≤ l.length → most < sumE (l.take i)) ∧ Fr (fun b => b = q) w wr)
  case atStart => exact ⟨Nat.le_refl _, by rw [List.take_length]; exact HT.out, (fun i h1 h2 => by omega), Fr.refl _ _⟩
  case round =>
    obtain ⟨hj, hta, hfit, hfr⟩ := hrel
    have HFIT := Lib.hid hfit
    have HTA := Lib.hid hta
    clear hfit
    obtain ⟨a, c, hb, hr⟩ := hta
    rw [List.length_take, Nat.min_eq_left hj] at hb hr
    have hsb := sumE_bound (l := l.take gk) (fun x hx => HS.out x (List.mem_of_mem_take hx))
    rw [List.length_take, Nat.min_eq_left hj] at hsb
    cases gk with
    | zero =>
      have e0 : sumE (l.take 0) = 0 := by simp [sumE]
      rw [e0] at hb
      have c2 : wr.cell? ⟨q, 2, none⟩ = some (.int .i64 0) := hb.cell 2
      have c0 : wr.cell? ⟨q, 0, none⟩ = some (.slice a 0 c) := hb.cell 0
      by_cases hm : most < 0
      · clear hb hr hsb e0
        go_wp2
        go_end0
        exact ⟨rfl, 0, ⟨by omega, .inl rfl, HFIT.out⟩, HTA.out, hfr⟩
      · clear hb hr hsb e0
        have hm2 : ¬ (most < 0) := hm
        go_wp2
        go_end0
        exact ⟨rfl, 0, ⟨by omega, .inl rfl, HFIT.out⟩, HTA.out, hfr⟩
    | succ m =>
      have hml : m < l.length := by omega
      have HSS := Lib.hid (sumE_take_succ hml)
      obtain ⟨s, hse⟩ : ∃ s, sumE (l.take (m + 1)) = s := ⟨_, rfl⟩
      obtain ⟨s', hse'⟩ : ∃ s', sumE (l.take m) = s' := ⟨_, rfl⟩
      have hsb' := sumE_bound (l := l.take m) (fun x hx => HS.out x (List.mem_of_mem_take hx))
      rw [List.length_take, Nat.min_eq_left (by omega)] at hsb'
      have HSE := Lib.hid hse
      have HSE' := Lib.hid hse'
      rw [hse] at hb hsb HSS
      rw [hse'] at HSS hsb'
      clear hse hse'
      have c2 : wr.cell? ⟨q, 2, none⟩ = some (.int .i64 s) := hb.cell 2
      have c0 : wr.cell? ⟨q, 0, none⟩ = some (.slice a (m + 1) c) := hb.cell 0
      by_cases hm : most < s
      · have gx := cells_get (l.take (m + 1)) m (by rw [List.length_take]; omega)
        have hnt : nth (l.take (m + 1)) m = nth l m := by
          rw [nth_get (by rw [List.length_take]; omega), nth_get hml, List.getElem_take]
        rw [hnt] at gx
        obtain ⟨x, hxe⟩ : ∃ x, nth l m = x := ⟨_, rfl⟩
        have hcx : costE (nth l m) ≤ 1000 := HS.out _ (by rw [nth_get hml]; exact List.getElem_mem _)
        rw [hxe] at gx HSS hcx
        have hsz := size_of_cost hcx
        obtain ⟨x0, x1⟩ := x
        obtain ⟨g, off, rfl, hc⟩ := hr.rd.cell gx.1
        obtain ⟨g2, off2, e2, hd⟩ := hr.rd.cell gx.2
        injection e2 with e2; injection e2 with e2 e3; subst e2; subst e3
        rw [← Nat.add_assoc] at hd
        have hle := hr.le; have hca := hr.capLe
        obtain ⟨cx, hcxe⟩ : ∃ cx, costE (x0, x1) = cx := ⟨_, rfl⟩
        rw [hcxe] at HSS
        have hss := HSS.out
        have HCX := Lib.hid hcxe
        have HB := Lib.hid hb
        have HR := Lib.hid hr
        have b0 : (0 : Int) ≤ (m : Int) := by omega
        have b1 : (m : Int) < (m : Int) + 1 := by omega
        have b2 : IntKind.i64.wrap ((m : Int) + 1 - 1) = (m : Int) := by rw [IntWalk.i64_in _ (by omega)]; omega
        have b3 : IntKind.i64.wrap (s - cx) = s' := by rw [IntWalk.i64_in _ (by omega)]; omega
        have b4 : (m : Int) ≤ (c : Int) := by omega
        have b5 : (m : Int) ≤ (m : Int) + 1 := by omega
        have hrq : r ≠ some q := row_nebk hr hb (by decide)
        have hrg : r = some g := by
          rcases hr.2.2.2.2 with ⟨_, h5⟩ | ⟨g', o', _, h5, h6, _⟩
          · omega
          · injection h6 with h6; injection h6 with h6 _; rw [h5, h6]
        have hgq : g ≠ q := fun e => hrq (by rw [hrg, e])
        clear hb hr gx hnt hxe hcx hcxe hss hsb hsb' hrq hrg
        go_wp2
        go_region_law (first
          | (go_simp; go_at_call 20; refine (cost_calls x0 x1 _ (by omega) (by omega)).mono ?_; rintro e w2 ⟨rfl, hf2'⟩; have hf2 : Fr No wr w2 := ⟨hf2'.os, hf2'.tape, hf2'.output, hf2'.size, hf2'.block⟩; rw [HCX.out]; have q3 : w2.cell? ⟨q, 2, none⟩ = some (.int .i64 s) := (HB.out.no hf2).cell 2; have q4 : w2.frozen? ⟨q, 2, none⟩ = false := (HB.out.no hf2).frozen 2))
        all_goals
          have hb1 : Bk (w2.setCell ⟨q, 2, none⟩ (.int .i64 s')) q [.slice (some ⟨g, off, none⟩) (m + 1) c, .int .i64 size, .int .i64 s'] 56 := (HB.out.no hf2).set 2 _
          have hF1 : Fr (fun b => b = q) wr (w2.setCell ⟨q, 2, none⟩ (.int .i64 s')) := (hf2.mono (S' := fun b => b = q) (fun _ _ h => h.elim)).setCell (a := ⟨q, 2, none⟩) (.inl rfl) _
          generalize w2.setCell ⟨q, 2, none⟩ (.int .i64 s') = W1 at *
          have k0 : W1.cell? ⟨q, 0, none⟩ = some (.slice (some ⟨g, off, none⟩) (m + 1) c) := hb1.cell 0
          have k1 : W1.frozen? ⟨q, 0, none⟩ = false := hb1.frozen 0
          have HF1 := Lib.hid (hfr.trans (hF1.setCell (a := ⟨q, 0, none⟩) (.inl rfl) (.slice (some ⟨g, off, none⟩) m c)) (fun _ _ h => h))
          have HB1 := Lib.hid (hb1.set 0 (.slice (some ⟨g, off, none⟩) m c))
          have hpre := HR.out.front (m := m) (by omega)
          have HPR := Lib.hid (hpre.fr (hF1.setCell (a := ⟨q, 0, none⟩) (.inl rfl) (.slice (some ⟨g, off, none⟩) m c)) (fun b hb h => by subst h; exact row_nebk HR.out HB.out (by decide) hb))
          clear hb1 hF1 q3 q4 hf2 hf2' hpre
          go_wp2
          go_roundg m
          case rel => exact ⟨by omega, ⟨some ⟨g, off, none⟩, c, by
              rw [List.length_take, Nat.min_eq_left (by omega), HSE'.out]; exact HB1.out, by
              rw [List.length_take, Nat.min_eq_left (by omega)]
              have e := HPR.out
              have e3 : (cells (l.take (m + 1))).take (m * 2) = cells (l.take m) := by
                rw [← List.take_append_drop m (l.take (m + 1)), cells_append, List.take_append_of_le_length (by rw [cells_len, List.length_take, List.length_take]; omega), List.take_take, Nat.min_eq_left (by omega)]
                exact List.take_of_length_le (by rw [cells_len, List.length_take]; omega)
              rw [e3] at e
              exact e⟩, (fun i h1 h2 => by
                rcases Nat.lt_or_ge (m + 1) i with h | h
                · exact HFIT.out i h h2
                · have : i = m + 1 := by omega
                  subst this; rw [HSE.out]; exact hm), HF1.out⟩
          case measure => omega
      · have hm2 : ¬ (most < s) := hm
        clear hb hr
        go_wp2
        go_end0
        exact ⟨rfl, m + 1, ⟨hj, .inr (by rw [HSE.out]; omega), HFIT.out⟩, HTA.out, hfr⟩
end Go.Proofs.Ytofdfmbbnchcoaa
