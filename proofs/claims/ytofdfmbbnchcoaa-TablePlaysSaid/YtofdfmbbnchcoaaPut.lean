/- The lists that are kept (Fields): all are marked. -/
import Derived.Test.YtofdfmbbnchcoaaStill
import Derived.StillTailTactics
namespace Go.Proofs.Ytofdfmbbnchcoaa
open Go.RowKit Go.Hp
set_option maxRecDepth 100000

/-- The lists of the book alone. -/
def ListsAt (w : World) (B bk : Nat) (L : List Ent) : Prop :=
  ∃ ai ci ri y, B ≤ bk ∧ Bk w bk (bcells (.slice ai L.length ci) y) 45 ∧ Row w 33 1 ai L.length ci ri (L.map Ent.v) ∧ (∀ b, ri = some b → B ≤ b) ∧
    (∀ (j : Nat) (k : Ent), L[j]? = some k → Row w 28 2 k.a k.n k.c k.r (cells k.xs) ∧ (∀ b, k.r = some b → B ≤ b)) ∧
    (∀ (i j : Nat) (k k' : Ent), L[i]? = some k → L[j]? = some k' → i ≠ j → ∀ b, k.r = some b → k'.r ≠ some b)
theorem BookAt.lists {w : World} {B bk : Nat} {L : List Ent} (h : BookAt w B bk L) : ListsAt w B bk L := by
  obtain ⟨ai, ci, ri, aw, cw, rw', hB, hb, hi, hw, hiB, hwB, hne, hE, hA⟩ := h
  exact ⟨ai, ci, ri, _, hB, hb, hi, hiB, fun j k hj => ⟨(hE k (List.mem_of_getElem? hj)).1, (hE k (List.mem_of_getElem? hj)).2.2.1⟩, hA.1⟩
theorem ListsAt.fr {w w' : World} {B bk : Nat} {L : List Ent} {S : Nat → Prop} (h : ListsAt w B bk L) (hf : Fr S w w') (h1 : ∀ b, BS w B b → ¬ S b) (h2 : ∀ (j : Nat) (k : Ent), L[j]? = some k → ∀ b, k.r = some b → ¬ S b) : ListsAt w' B bk L := by
  obtain ⟨ai, ci, ri, y, hB, hb, hi, hiB, hE, hA⟩ := h
  refine ⟨ai, ci, ri, y, hB, hb.fr hf (h1 bk ⟨hB, _, _, hb, .inl rfl⟩), hi.fr hf (fun b e => ?_), hiB, fun j k hj => ⟨(hE j k hj).1.fr hf (h2 j k hj), (hE j k hj).2⟩, hA⟩
  obtain ⟨_, h3⟩ := row_blk hi e; exact h1 b ⟨hiB b e, _, _, h3, .inr rfl⟩
theorem ListsAt.no {w w' : World} {B bk : Nat} {L : List Ent} (h : ListsAt w B bk L) (hf : Fr No w w') : ListsAt w' B bk L := h.fr hf (fun _ _ h => h) (fun _ _ _ _ _ h => h)

def mkEnt (i k j : Nat) (x : Ent) : Ent := { x with xs := if j < i then marks j 0 x.n else if j = i then marks j 0 k ++ x.xs.drop k else x.xs }
/-- The first i lists are marked, and k elements of the next one. -/
def Lq (L : List Ent) (i k : Nat) : List Ent := L.mapIdx (mkEnt i k)
theorem Lq_length (L : List Ent) (i k : Nat) : (Lq L i k).length = L.length := by simp [Lq]
theorem Lq_get (L : List Ent) (i k j : Nat) : (Lq L i k)[j]? = L[j]?.map (mkEnt i k j) := by simp [Lq]
theorem Lq_v (L : List Ent) (i k : Nat) : (Lq L i k).map Ent.v = L.map Ent.v := by
  apply List.ext_getElem?
  intro j
  rw [List.getElem?_map, Lq_get, List.getElem?_map]
  cases L[j]? <;> rfl
theorem Lq_zero (L : List Ent) : Lq L 0 0 = L := by
  apply List.ext_getElem?
  intro j
  rw [Lq_get]
  cases h : L[j]? with
  | none => rfl
  | some x =>
    simp only [Option.map_some, mkEnt, Nat.not_lt_zero, if_false]
    split
    · simp [marks]
    · rfl
theorem Lq_next (L : List Ent) (i : Nat) {x : Ent} (hx : L[i]? = some x) (hl : x.xs.length = x.n) : Lq L i x.n = Lq L (i + 1) 0 := by
  apply List.ext_getElem?
  intro j
  rw [Lq_get, Lq_get]
  cases h : L[j]? with
  | none => rfl
  | some y =>
    simp only [Option.map_some, mkEnt]
    congr 2
    by_cases h1 : j < i
    · rw [if_pos h1, if_pos (by omega)]
    · rw [if_neg h1]
      by_cases h2 : j = i
      · subst h2
        rw [hx] at h; injection h with h; subst h
        rw [if_pos rfl, if_pos (by omega), ← hl, List.drop_length, List.append_nil]
      · rw [if_neg h2, if_neg (by omega)]
        by_cases h3 : j = i + 1
        · rw [if_pos h3]; simp [marks]
        · rw [if_neg h3]
/-- All the lists are marked. -/
def Marked (L : List Ent) : Prop := ∀ (j : Nat) (k : Ent), L[j]? = some k → k.xs = marks j 0 k.n
theorem Lq_marked (L : List Ent) : Marked (Lq L L.length 0) := by
  intro j k hj
  rw [Lq_get] at hj
  cases h : L[j]? with
  | none => rw [h] at hj; cases hj
  | some x =>
    rw [h] at hj
    simp only [Option.map_some, Option.some.injEq] at hj
    subst hj
    have hlt : j < L.length := (List.getElem?_eq_some_iff.1 h).1
    simp [mkEnt, hlt]
theorem part_len {i k : Nat} {xs : List El} (hk : k ≤ xs.length) : (marks i 0 k ++ xs.drop k).length = xs.length := by rw [List.length_append, marks_len, List.length_drop]; omega
theorem part_set {i k : Nat} {xs : List El} (hk : k < xs.length) : (marks i 0 k ++ xs.drop k).set k (mkE i k) = marks i 0 (k + 1) ++ xs.drop (k + 1) := by
  rw [List.set_append, marks_len, if_neg (by omega), Nat.sub_self, marks_succ, Nat.zero_add, List.append_assoc]
  congr 1
  rw [List.drop_eq_getElem_cons hk]; rfl
theorem cells_set : ∀ (xs : List El) (k : Nat) (x : El), ((cells xs).set (k * 2) (.string x.1)).set (k * 2 + 1) (.string x.2) = cells (xs.set k x)
  | [], k, x => by simp [cells]
  | y :: ys, 0, x => rfl
  | y :: ys, k + 1, x => by
    have := cells_set ys k x
    simp only [cells, List.flatMap_cons, List.cons_append, List.nil_append, List.set_cons_succ] at *
    have e1 : (k + 1) * 2 = k * 2 + 1 + 1 := by omega
    rw [e1]
    simp only [List.set_cons_succ]
    rw [this]
/-- One mark more. -/
theorem ListsAt.step {w : World} {B bk i k g off : Nat} {L : List Ent} {x : Ent} (h : ListsAt w B bk (Lq L i k)) (hx : L[i]? = some x) (ha : x.a = some ⟨g, off, none⟩) (hk : k < x.n) (hl : x.xs.length = x.n) :
    ListsAt ((w.setCell ⟨g, off + k * 2, none⟩ (.string (mkE i k).1)).setCell ⟨g, off + k * 2 + 1, none⟩ (.string (mkE i k).2)) B bk (Lq L i (k + 1)) ∧ (B ≤ g ∧ x.r = some g) ∧ (w.frozen? ⟨g, off + k * 2, none⟩ = false ∧ ∃ v, w.cell? ⟨g, off + k * 2, none⟩ = some v) ∧ (w.frozen? ⟨g, off + k * 2 + 1, none⟩ = false ∧ ∃ v, w.cell? ⟨g, off + k * 2 + 1, none⟩ = some v) := by
  obtain ⟨ai, ci, ri, y, hB, hb, hi, hiB, hE, hA⟩ := h
  have hxi : (Lq L i k)[i]? = some (mkEnt i k i x) := by rw [Lq_get, hx]; rfl
  obtain ⟨hrow, hrB⟩ := hE i _ hxi
  have e1 : (mkEnt i k i x).a = some ⟨g, off, none⟩ := ha
  have e2 : (mkEnt i k i x).xs = marks i 0 k ++ x.xs.drop k := by simp [mkEnt]
  rw [e1, e2] at hrow
  have hk2 : k < (mkEnt i k i x).n := hk
  obtain ⟨hr, hrow1, hfz, hc⟩ := hrow.set1 (i := k * 2) (by omega) (.string (mkE i k).1)
  obtain ⟨_, hrow', _, _⟩ := hrow1.set1 (i := k * 2 + 1) (by omega) (.string (mkE i k).2)
  obtain ⟨_, _, hfz2, hc2⟩ := hrow.set1 (i := k * 2 + 1) (by omega) (.string (mkE i k).2)
  rw [cells_set, part_set (by omega)] at hrow'
  rw [← Nat.add_assoc] at hrow' hfz2 hc2
  have hF : Fr (fun b => b = g) w ((w.setCell ⟨g, off + k * 2, none⟩ (.string (mkE i k).1)).setCell ⟨g, off + k * 2 + 1, none⟩ (.string (mkE i k).2)) := ((Fr.refl (fun b => b = g) w).setCell (.inl rfl) _).setCell (.inl rfl) _
  refine ⟨⟨ai, ci, ri, y, hB, ?_, ?_, hiB, fun j q hj => ?_, fun a b q q' ha hb => ?_⟩, ⟨hrB g hr, hr⟩, ⟨hfz, hc⟩, hfz2, hc2⟩
  · rw [Lq_length] at hb ⊢
    exact hb.fr hF (fun h => by subst h; exact row_nebk hrow hb (by decide) hr)
  · rw [Lq_length, Lq_v] at hi ⊢
    exact hi.fr hF (fun b hb h => by subst h; exact row_ne hi hrow (by decide) hb hr)
  · rw [Lq_get] at hj
    cases hLj : L[j]? with
    | none => rw [hLj] at hj; cases hj
    | some z =>
      rw [hLj, Option.map_some, Option.some.injEq] at hj
      subst hj
      by_cases hji : j = i
      · subst hji
        rw [hx] at hLj; injection hLj with hLj; subst hLj
        have e3 : (mkEnt j (k + 1) j x).xs = marks j 0 (k + 1) ++ x.xs.drop (k + 1) := by simp [mkEnt]
        refine ⟨?_, hrB⟩
        rw [e3]
        exact ha ▸ hrow'
      · have hj0 : (Lq L i k)[j]? = some (mkEnt i k j z) := by rw [Lq_get, hLj]; rfl
        have e4 : (mkEnt i (k + 1) j z).xs = (mkEnt i k j z).xs := by simp [mkEnt, hji]
        refine ⟨?_, (hE j _ hj0).2⟩
        rw [e4]
        exact (hE j _ hj0).1.fr hF (fun b hb h => by subst h; exact hA i j _ _ hxi hj0 (fun e => hji e.symm) b hr hb)
  · rw [Lq_get] at ha hb
    cases hLa : L[a]? with
    | none => rw [hLa] at ha; cases ha
    | some z =>
      cases hLb : L[b]? with
      | none => rw [hLb] at hb; cases hb
      | some z' =>
        rw [hLa, Option.map_some, Option.some.injEq] at ha
        rw [hLb, Option.map_some, Option.some.injEq] at hb
        subst ha; subst hb
        exact hA a b (mkEnt i k a z) (mkEnt i k b z') (by rw [Lq_get, hLa]; rfl) (by rw [Lq_get, hLb]; rfl)

def PutQ (w : World) (B bk : Nat) (L : List Ent) (e : Ending) (w' : World) : Prop := e = .returned (.tuple #[]) ∧ ListsAt w' B bk (Lq L L.length 0) ∧ Below B w w'

set_option maxHeartbeats 1000000 in
theorem put_calls (B bk : Nat) (L : List Ent) (w : World) (hLs : ListsAt w B bk L) (hL : L.length ≤ 250) (hBw : B ≤ w.heap.size) (hn : ∀ (j : Nat) (k : Ent), L[j]? = some k → k.n ≤ 1073741824) :
    Calls Try.prog 41 #[.pointer (some ⟨bk, 0, none⟩)] w (PutQ w B bk L) := by
  have hlen : ∀ (j : Nat) (k : Ent), L[j]? = some k → k.xs.length = k.n := by
    obtain ⟨ai, ci, ri, y, hB, hb, hi, hiB, hE, hA⟩ := hLs
    exact fun j k hj => rd_xlen (hE j k hj).1.rd
  have H0 := Lib.hid hlen
  clear hlen
  go_enter Try.func41, Try.ntmps41
  go_wp2
  go_loopw [2] (fun i wr => ∃ k : Nat, k ≤ L.length ∧ i = .int .i64 k ∧ ListsAt wr B bk (Lq L k 0) ∧ Below B w wr) (fun i _ => L.length - (intOf i).toNat)
  case atStart => exact ⟨0, by omega, rfl, by rw [Lq_zero]; exact hLs, Below.refl _ _⟩
  case round =>
    obtain ⟨i, hi, rfl, hLq, hbel⟩ := hrel
    have HQ := Lib.hid hLq
    obtain ⟨ai, ci, ri, y, hB, hb, hrow, hiB, hE, hA⟩ := hLq
    rw [Lq_length] at hb
    have c0 : wr.cell? ⟨bk, 4, none⟩ = some (.slice ai L.length ci) := hb.cell 4
    rw [Lq_length, Lq_v] at hrow
    have ic := hrow.capLe; have il := hrow.le
    by_cases hlt : i < L.length
    · obtain ⟨x, hx⟩ : ∃ x, L[i]? = some x := ⟨_, List.getElem?_eq_getElem hlt⟩
      obtain ⟨g, off, rfl, hc⟩ := hrow.rd.cell (map_get Ent.v hx)
      obtain ⟨xa, xn, xc, xr, xwa, xwc, xwr, xs⟩ := x
      simp only [Ent.v] at hc
      have hxn : xn ≤ 1073741824 := hn i _ hx
      have hxl : xs.length = xn := H0.out i _ hx
      have HL := Lib.hid hxl
      have hxc : xn ≤ xc ∧ xc ≤ 9223372036854775807 := by
        have h1 := (hE i (mkEnt i 0 i ⟨xa, xn, xc, xr, xwa, xwc, xwr, xs⟩) (by rw [Lq_get, hx]; rfl)).1
        exact ⟨h1.le, h1.capLe⟩
      obtain ⟨hx1, hx2⟩ := hxc
      have HX := Lib.hid hx
      clear hx hE hA hxl
      have b0 : (0 : Int) ≤ (i : Int) := by omega
      have b1 : (i : Int) < (L.length : Int) := by omega
      have hsz := hbel.size
      go_wp2_with (go_at_call 63; refine (mark_calls i 0 xn wr (by omega) (by omega)).mono ?_; rintro e w1 ⟨am, cm, rm, rfl, hm, hmB, hmF⟩)
      have HQ1 := Lib.hid (HQ.out.no hmF)
      have hm1 := hm.rd
      have hmab : ∀ b, abk am xn = some b → wr.heap.size ≤ b := by
        intro b hb'
        refine hmB b ?_
        rcases hm.2.2.2.2 with ⟨_, h5⟩ | ⟨g5, o5, _, h5, h6, _⟩
        · have := hm.le; have h0 : xn = 0 := by omega
          simp [abk, h0] at hb'
        · rw [h6] at hb'; rw [h5]
          simp only [abk] at hb'
          split at hb'
          · cases hb'
          · simpa using hb'
      have HLt : ∀ (j : Nat) (k : Ent), (Lq L i 0)[j]? = some k → ∀ b, k.r = some b → b < wr.heap.size := by
        obtain ⟨_, _, _, _, _, _, _, _, hE, _⟩ := HQ.out
        exact fun j k hj b hb => (hE j k hj).1.lt b hb
      have hbel1 : Below B w w1 := hbel.trans (hmF.below (by omega) (fun _ h => h.elim))
      clear hm hb hrow c0 hc HQ hmF hmB
      obtain ⟨wo, rfl⟩ : ∃ wo : World, wo = wr := ⟨_, rfl⟩
      have mc := hm1.capLe; have ml := hm1.le
      have HM1 := Lib.hid hm1
      clear hm1
      have HAB := Lib.hid hmab
      clear hmab
      have HLT := Lib.hid HLt
      clear HLt
      go_loopw [4] (fun kk wi => ∃ k : Nat, k ≤ xn ∧ kk = .int .i64 k ∧ ListsAt wi B bk (Lq L i k) ∧ Rd wi 2 am xn cm (cells (marks i 0 xn)) ∧ Below B w wi) (fun kk _ => xn - (intOf kk).toNat)
      case atStart => exact ⟨0, by omega, rfl, HQ1.out, HM1.out, hbel1⟩
      case round =>
        obtain ⟨k, hk, rfl, hLq, hm, hbel2⟩ := hrel
        have HQ := Lib.hid hLq
        have HM := Lib.hid hm
        by_cases hlt2 : k < xn
        · obtain ⟨ai, ci, ri, y, hB, hb, hrow, hiB, hE, hA⟩ := hLq
          rw [Lq_length] at hb
          rw [Lq_length, Lq_v] at hrow
          have c0 : wr.cell? ⟨bk, 4, none⟩ = some (.slice ai L.length ci) := hb.cell 4
          obtain ⟨g2, off2, rfl, hc⟩ := hrow.rd.cell (map_get Ent.v HX.out)
          simp only [Ent.v] at hc
          have ic2 := hrow.capLe; have il2 := hrow.le
          have hmk : nth (marks i 0 xn) k = mkE i k := by simp [nth, marks, List.getD, hlt2]
          have gm := cells_get (marks i 0 xn) k (by rw [marks_len]; exact hlt2)
          rw [hmk] at gm
          obtain ⟨g3, om, rfl, hcm⟩ := hm.cell gm.1
          obtain ⟨g4, om4, e4, hcm2⟩ := hm.cell gm.2
          injection e4 with e4; injection e4 with e4 e5; subst e4; subst e5
          rw [← Nat.add_assoc] at hcm2
          clear gm
          obtain ⟨gx, ox, hxa, _⟩ := (hE i (mkEnt i k i ⟨xa, xn, xc, xr, xwa, xwc, xwr, xs⟩) (by rw [Lq_get, HX.out]; rfl)).1.rd.2.2.2.2 (by show 0 < xn; omega)
          have hxa' : xa = some ⟨gx, ox, none⟩ := hxa
          have hst := HQ.out.step HX.out hxa' hlt2 HL.out
          subst hxa'
          obtain ⟨hst, ⟨hgB, hgr⟩, ⟨hfz, vold, hold⟩, hfz2, vold2, hold2⟩ := hst
          have hgx : gx < wo.heap.size := by
            have h0 := Lq_get L i 0 i
            rw [HX.out, Option.map_some] at h0
            exact HLT.out i _ h0 gx hgr
          have HGR := Lib.hid hgr
          clear hgr
          have HST := Lib.hid hst
          clear hst hmk hxa hE hA hb hrow hm
          have b2 : (0 : Int) ≤ (k : Int) := by omega
          have b3 : (k : Int) < (xn : Int) := by omega
          have b4 : (k : Int) < (cm : Int) := by omega
          go_wp2
          go_still_tail 13, (by kernel_rfl)
          go_wp2
          go_roundw
          case rel =>
            have hF : Fr (fun b => b = gx) wr ((wr.setCell ⟨gx, ox + k * 2, none⟩ (.string (mkE i k).1)).setCell ⟨gx, ox + k * 2 + 1, none⟩ (.string (mkE i k).2)).drew := (((Fr.refl (fun b => b = gx) wr).setCell (.inl rfl) _).setCell (.inl rfl) _).drew
            have hsz2 := hbel2.size
            exact ⟨k + 1, by omega, by go_num, HST.out.no ((Fr.refl No _).drew), HM.out.fr hF (fun b hb h => by subst h; have := HAB.out b hb; omega), hbel2.trans (hF.below (by omega) (fun _ h => by subst h; exact hgB))⟩
          case measure => simp [intOf]; omega
        · go_wp2
          have : k = xn := by omega
          subst this
          go_roundw
          case rel => exact ⟨i + 1, by omega, by go_num, by rw [← Lq_next L i HX.out HL.out]; exact HQ.out, hbel2⟩
          case measure => simp [intOf]; omega
    · go_wp2
      go_end0
      have : i = L.length := by omega
      subst this
      exact ⟨rfl, HQ.out, hbel⟩
end Go.Proofs.Ytofdfmbbnchcoaa
