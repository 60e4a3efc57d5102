/- Messages: fields are looked at, one by one. -/
import Derived.Test.YtfejfaldjfichaaDoorMsgM
namespace Go.Proofs.YtfejfaldjfichaaDoor
open Go.RowKit Go.Hp
set_option maxRecDepth 100000

/-- The error at a field, behind others. -/
def stepE (names : List ByteArray) (pre : List El) (x : El) : Int :=
  if (!(memS names x.1) && !(nameOK x.1)) || forbB x then 6
  else if !(valueOK x.2) then 3
  else if memS names x.1 && (pre.any (fun y => !(memS names y.1)) || (getF x.1 pre).isSome) then 7 else 0
/-- The first error; 0. -/
def walkE (names : List ByteArray) (pre : List El) : List El → Int
  | [] => 0
  | x :: xs => if stepE names pre x = 0 then walkE names (pre ++ [x]) xs else stepE names pre x
/-- What the names with a colon say. -/
def saidF (names : List ByteArray) (l : List El) (x : ByteArray) : Option ByteArray := if memS names x then getF x l else none
def OkTo (names : List ByteArray) (l : List El) (k : Nat) : Prop := ∀ j, j < k → stepE names (l.take j) (nth l j) = 0
theorem nth_append_left {l r : List El} {j : Nat} (h : j < l.length) : nth (l ++ r) j = nth l j := by
  simp [nth, List.getD, List.getElem?_append_left h]
theorem nth_append_zero {l r : List El} {x : El} : nth (l ++ x :: r) l.length = x := by
  simp [nth, List.getD]
theorem walkE_go (names : List ByteArray) : ∀ (xs pre : List El) (k : Nat), OkTo names (pre ++ xs) k → k < (pre ++ xs).length → pre.length ≤ k → stepE names ((pre ++ xs).take k) (nth (pre ++ xs) k) ≠ 0 → walkE names pre xs = stepE names ((pre ++ xs).take k) (nth (pre ++ xs) k)
  | [], pre, k, _, h2, h3, _ => by simp at h2; omega
  | x :: xs, pre, k, h1, h2, h3, h4 => by
    have e0 : (pre ++ x :: xs).take pre.length = pre := by simp
    rw [walkE]
    by_cases hk : k = pre.length
    · subst hk
      rw [e0, nth_append_zero] at h4 ⊢
      rw [if_neg h4]
    · have h0 := h1 pre.length (by omega)
      rw [e0, nth_append_zero] at h0
      rw [if_pos h0]
      have e : pre ++ x :: xs = (pre ++ [x]) ++ xs := by simp
      rw [e] at h1 h2 h4 ⊢
      exact walkE_go names xs (pre ++ [x]) k h1 h2 (by rw [List.length_append]; simp; omega) h4
theorem walkE_at {names : List ByteArray} {l : List El} {k : Nat} (h1 : OkTo names l k) (h2 : k < l.length) (h4 : stepE names (l.take k) (nth l k) ≠ 0) : walkE names [] l = stepE names (l.take k) (nth l k) :=
  walkE_go names l [] k h1 h2 (Nat.zero_le _) h4
theorem walkE_okgo (names : List ByteArray) : ∀ (xs pre : List El), OkTo names (pre ++ xs) (pre ++ xs).length → walkE names pre xs = 0
  | [], _, _ => rfl
  | x :: xs, pre, h => by
    have h0 := h pre.length (by simp)
    rw [show (pre ++ x :: xs).take pre.length = pre by simp, nth_append_zero] at h0
    rw [walkE, if_pos h0]
    have e : pre ++ x :: xs = (pre ++ [x]) ++ xs := by simp
    rw [e] at h
    exact walkE_okgo names xs (pre ++ [x]) h
theorem walkE_ok {names : List ByteArray} {l : List El} (h : OkTo names l l.length) : walkE names [] l = 0 := walkE_okgo names l [] h
theorem OkTo.succ {names : List ByteArray} {l : List El} {k : Nat} (h : OkTo names l k) (h0 : stepE names (l.take k) (nth l k) = 0) : OkTo names l (k + 1) := by
  intro j hj
  by_cases e : j = k
  · subst e; exact h0
  · exact h j (by omega)

theorem getF_snoc (y : ByteArray) (l : List El) (x : El) : getF y (l ++ [x]) = (getF y l).or (if x.1 = y then some x.2 else none) := by
  unfold getF
  rw [List.find?_append]
  cases List.find? (fun f => f.1.toList == y.toList) l with
  | some z => simp
  | none =>
    simp only [Option.none_or, Option.map_none, List.find?_cons, List.find?_nil, tl_eq]
    by_cases h : x.1 = y
    · simp [h]
    · simp [h]
theorem take_succE {l : List El} {k : Nat} (hk : k < l.length) : l.take (k + 1) = l.take k ++ [nth l k] := by
  rw [List.take_succ_eq_append_getElem hk, nth_getE hk]
/-- A field without a colon says nothing. -/
theorem saidF_plain {names : List ByteArray} {l : List El} {k : Nat} (hk : k < l.length) (hm : memS names (nth l k).1 = false) (x : ByteArray) : saidF names (l.take k) x = saidF names (l.take (k + 1)) x := by
  unfold saidF
  split
  · rename_i h
    rw [take_succE hk, getF_snoc, if_neg]
    · simp
    · rintro rfl
      rw [hm] at h; cases h
  · rfl
theorem saidF_colon {names : List ByteArray} {l : List El} {k : Nat} (hk : k < l.length) (hm : memS names (nth l k).1 = true) (hn : (getF (nth l k).1 (l.take k)).isSome = false) (x : ByteArray) :
    (if x = (nth l k).1 then some (nth l k).2 else saidF names (l.take k) x) = saidF names (l.take (k + 1)) x := by
  have hn : getF (nth l k).1 (l.take k) = none := by simpa using hn
  unfold saidF
  rw [take_succE hk, getF_snoc]
  by_cases h : x = (nth l k).1
  · subst h
    rw [if_pos rfl, if_pos hm, hn, if_pos rfl]; rfl
  · rw [if_neg h]
    have h' : ¬ (nth l k).1 = x := fun e => h e.symm
    simp [h']
theorem plain_snoc {names : List ByteArray} {l : List El} {k : Nat} (hk : k < l.length) : (l.take (k + 1)).any (fun y => !(memS names y.1)) = ((l.take k).any (fun y => !(memS names y.1)) || !(memS names (nth l k).1)) := by
  rw [take_succE hk, List.any_append]; simp

def WalkQ (names : List ByteArray) (l : List El) (w : World) (e : Ending) (w' : World) : Prop :=
  Fr No w w' ∧ ((walkE names [] l ≠ 0 ∧ e = .returned (.tuple #[.map none, .int .i64 (walkE names [] l)])) ∨
    (walkE names [] l = 0 ∧ ∃ M, e = .returned (.tuple #[.map (some M), .int .i64 0]) ∧ MapAt w' M l.length (saidF names l)))

theorem walk_err {names : List ByteArray} {xs : List El} {k : Nat} {w w' : World} {v : Int} (hok : OkTo names xs k) (hk : k < xs.length) (h : stepE names (xs.take k) (nth xs k) = v) (hv : v ≠ 0) (hf : Fr No w w') :
    WalkQ names xs w (.returned (.tuple #[.map none, .int .i64 v])) w' := by
  have h1 := walkE_at hok hk (by rw [h]; exact hv)
  rw [h] at h1
  exact ⟨hf, .inl ⟨by rw [h1]; exact hv, by rw [h1]⟩⟩
theorem MapAt.mono {w : World} {b n m : Nat} {f : ByteArray → Option ByteArray} (h : MapAt w b n f) (hm : n ≤ m) : MapAt w b m f := by
  obtain ⟨D, h1, h2⟩ := h; exact ⟨D, h1.mono hm, h2⟩
/-- What is written is new. -/
theorem Fr.trans_new {w w1 w2 : World} {g : Nat} (h : Fr No w w1) (k : Fr (fun b => b = g) w1 w2) (hg : w.heap.size ≤ g) : Fr No w w2 :=
  h.trans k (fun b hb h => by subst h; omega)

set_option maxHeartbeats 2000000 in
theorem walk_calls (a : Option Addr) (n c : Nat) (an : Option Addr) (nn cn : Nat) (names : List ByteArray) (xs : List El) (w : World) (hx : Rd w 2 a n c (cells xs)) (hnm : Rd w 1 an nn cn (strs names)) (hsz : SzOK xs) :
    Calls Tryd.prog 35 #[.slice a n c, .slice an nn cn] w (WalkQ names xs w) := by
  have hn := rd_xlen hx
  have c1 := hx.capLe; have c2 := hx.le
  have HN := Lib.hid hn
  have HX := Lib.hid hx
  have HNS := Lib.hid hnm
  have HSZ := Lib.hid hsz
  have hmm := @run_makeMap Tryd.prog
  have hmade := MapAt.made w
  have hfm := (Fr.refl No w).alloc (.map #[] 0)
  obtain ⟨M, hM⟩ : ∃ M, w.heap.size = M := ⟨_, rfl⟩
  rw [hM] at hmade
  have HMB := Lib.hid hM
  clear hn hx hnm hsz
  go_enter Tryd.func35, Tryd.ntmps35
  go_wp2
  generalize w.alloc (.map #[] 0) = wm at *
  have HMD := Lib.hid hmade
  have HFM := Lib.hid hfm
  clear hmade hfm hM hmm
  go_loopw [7, 16] (fun pl i wr => ∃ k : Nat, k ≤ n ∧ i = .int .i64 k ∧ pl = .bool ((xs.take k).any (fun y => !(memS names y.1))) ∧ OkTo names xs k ∧ MapAt wr M k (saidF names (xs.take k)) ∧ Fr No w wr) (fun _ i _ => n - (intOf i).toNat)
  case atStart => exact ⟨0, by omega, rfl, by simp, (fun j hj => by omega), HMD.out.eq (fun x => by unfold saidF getF; simp), HFM.out⟩
  case round =>
    obtain ⟨k, hk, rfl, rfl, hok, hmap, hfr⟩ := hrel
    have HOK := Lib.hid hok
    have HMP := Lib.hid hmap
    have HFR := Lib.hid hfr
    clear hok hmap
    by_cases hlt : k < n
    · have hkl : k < xs.length := by have := HN.out; omega
      have gx := cells_get xs k hkl
      have hx := HX.out.no hfr
      obtain ⟨⟨x0, x1⟩, hxk⟩ : ∃ v, nth xs k = v := ⟨_, rfl⟩
      have hss := HSZ.out _ (show nth xs k ∈ xs by rw [nth_getE hkl]; exact List.getElem_mem _)
      rw [hxk] at gx hss
      obtain ⟨hs0, hs1⟩ := hss
      have HXK := Lib.hid hxk
      obtain ⟨g, off, rfl, hc⟩ := hx.cell gx.1
      obtain ⟨g2, off2, e2, hd⟩ := hx.cell gx.2
      injection e2 with e2; injection e2 with e2 e3; subst e2; subst e3
      rw [← Nat.add_assoc] at hd
      clear gx hx hxk hfr
      have b0 : (0 : Int) ≤ (k : Int) := by omega
      have b1 : (k : Int) < (n : Int) := by omega
      go_wp2_with fail
      have HF0 := Lib.hid (HFR.out.alloc (.cells #[.string x0, .string x1] 30))
      have HM0 := Lib.hid (HMP.out.no ((Fr.refl No wr).alloc (.cells #[.string x0, .string x1] 30)))
      have hb0 := Bk.new wr [.string x0, .string x1] 30
      obtain ⟨G, hG⟩ : ∃ G, wr.heap.size = G := ⟨_, rfl⟩
      rw [hG] at hb0 ⊢
      have HB0 := Lib.hid hb0
      clear hb0 hG hc hd
      have HM0 : Hid (MapAt (wr.alloc (.cells #[.string x0, .string x1] 30)) M k (saidF names (xs.take k))) := HM0
      have HB0 : Hid (Bk (wr.alloc (.cells #[.string x0, .string x1] 30)) G [.string x0, .string x1] 30) := HB0
      generalize wr.alloc (.cells #[.string x0, .string x1] 30) = W0 at *
      refine (contains_str_calls an nn cn names x0 W0 (HNS.out.no HF0.out)).mono ?_
      rintro e w1 ⟨rfl, rfl⟩
      have d0 : W0.cell? ⟨G, 0, none⟩ = some (.string x0) := HB0.out.cell 0
      have d1 : W0.cell? ⟨G, 1, none⟩ = some (.string x1) := HB0.out.cell 1
      have hlk := HM0.out.look_ok x0 hs0
      cases hm : memS names x0 with
      | false =>
        have HMM := Lib.hid hm
        clear hm
        go_wp2_with fail
        refine (name_ok_calls x0 W0 hs0).mono ?_
        rintro e w1 ⟨rfl, rfl⟩
        cases hnk : nameOK x0 with
        | false =>
          have HNM := Lib.hid hnk
          clear hnk
          go_wp2
          go_ret2
          exact walk_err HOK.out hkl (v := 6) (by rw [HXK.out]; unfold stepE; simp [HMM.out, HNM.out]) (by decide) HF0.out
        | true =>
          have HNM := Lib.hid hnk
          clear hnk
          go_wp2_with fail
          refine (forb_calls x0 x1 _).mono ?_
          rintro e w2 ⟨rfl, hf2⟩
          have HF2 := Lib.hid (HF0.out.then_ hf2)
          have HB2 := Lib.hid (HB0.out.no hf2)
          have HM2 := Lib.hid (HM0.out.no hf2)
          clear hf2 hlk
          have d0 : w2.cell? ⟨G, 0, none⟩ = some (.string x0) := HB2.out.cell 0
          have d1 : w2.cell? ⟨G, 1, none⟩ = some (.string x1) := HB2.out.cell 1
          cases hfb : forbB (x0, x1) with
          | true =>
            have HFB := Lib.hid hfb
            clear hfb
            go_wp2
            go_ret2
            exact walk_err HOK.out hkl (v := 6) (by rw [HXK.out]; unfold stepE; simp [HMM.out, HFB.out, HNM.out]) (by decide) HF2.out
          | false =>
            have HFB := Lib.hid hfb
            clear hfb
            go_wp2_with fail
            refine (value_ok_calls x1 _ hs1).mono ?_
            rintro e w3 ⟨rfl, hf3⟩
            have HF3 := Lib.hid (HF2.out.then_ hf3)
            have HB3 := Lib.hid (HB2.out.no hf3)
            have HM3 := Lib.hid (HM2.out.no hf3)
            clear hf3 d0 d1
            have d0 : w3.cell? ⟨G, 0, none⟩ = some (.string x0) := HB3.out.cell 0
            have d1 : w3.cell? ⟨G, 1, none⟩ = some (.string x1) := HB3.out.cell 1
            cases hvl : valueOK x1 with
            | false =>
              have HVL := Lib.hid hvl
              clear hvl
              go_wp2
              go_ret2
              exact walk_err HOK.out hkl (v := 3) (by rw [HXK.out]; unfold stepE; simp [HMM.out, HFB.out, HVL.out, HNM.out]) (by decide) HF3.out
            | true =>
              have HVL := Lib.hid hvl
              clear hvl
              go_wp2
              go_roundw
              case rel => exact ⟨k + 1, by omega, by go_num, by rw [plain_snoc hkl, HXK.out]; simp [HMM.out], HOK.out.succ (by rw [HXK.out]; unfold stepE; simp [HMM.out, HFB.out, HVL.out, HNM.out]), ((HM3.out.mono (by omega)).eq (fun x => saidF_plain hkl (by rw [HXK.out]; exact HMM.out) x)), HF3.out⟩
              case measure => simp [intOf]; omega
      | true =>
        have HMM := Lib.hid hm
        clear hm
        go_wp2_with fail
        refine (forb_calls x0 x1 _).mono ?_
        rintro e w2 ⟨rfl, hf2⟩
        have HF2 := Lib.hid (HF0.out.then_ hf2)
        have HB2 := Lib.hid (HB0.out.no hf2)
        have HM2 := Lib.hid (HM0.out.no hf2)
        clear hf2 hlk
        have d0 : w2.cell? ⟨G, 0, none⟩ = some (.string x0) := HB2.out.cell 0
        have d1 : w2.cell? ⟨G, 1, none⟩ = some (.string x1) := HB2.out.cell 1
        cases hfb : forbB (x0, x1) with
        | true =>
          have HFB := Lib.hid hfb
          clear hfb
          go_wp2
          go_ret2
          exact walk_err HOK.out hkl (v := 6) (by rw [HXK.out]; unfold stepE; simp [HMM.out, HFB.out]) (by decide) HF2.out
        | false =>
          have HFB := Lib.hid hfb
          clear hfb
          go_wp2_with fail
          refine (value_ok_calls x1 _ hs1).mono ?_
          rintro e w3 ⟨rfl, hf3⟩
          have HF3 := Lib.hid (HF2.out.then_ hf3)
          have HB3 := Lib.hid (HB2.out.no hf3)
          have HM3 := Lib.hid (HM2.out.no hf3)
          clear hf3 d0 d1
          have d0 : w3.cell? ⟨G, 0, none⟩ = some (.string x0) := HB3.out.cell 0
          have d1 : w3.cell? ⟨G, 1, none⟩ = some (.string x1) := HB3.out.cell 1
          cases hvl : valueOK x1 with
          | false =>
            have HVL := Lib.hid hvl
            clear hvl
            go_wp2
            go_ret2
            exact walk_err HOK.out hkl (v := 3) (by rw [HXK.out]; unfold stepE; simp [HMM.out, HFB.out, HVL.out]) (by decide) HF3.out
          | true =>
            have HVL := Lib.hid hvl
            clear hvl
            cases hpl : (xs.take k).any (fun y => !(memS names y.1)) with
            | true =>
              have HPL := Lib.hid hpl
              clear hpl
              go_wp2
              go_ret2
              exact walk_err HOK.out hkl (v := 7) (by rw [HXK.out]; unfold stepE; simp only [HMM.out, HFB.out, HVL.out, HPL.out]; simp) (by decide) HF3.out
            | false =>
              have HPL := Lib.hid hpl
              clear hpl
              cases htw : (saidF names (xs.take k) x0).isSome with
              | true =>
                have htw2 : (getF x0 (xs.take k)).isSome = true := by rw [← htw]; unfold saidF; rw [HMM.out]; rfl
                have HTW := Lib.hid htw2
                clear htw htw2
                go_wp2
                go_ret2
                exact walk_err HOK.out hkl (v := 7) (by rw [HXK.out]; unfold stepE; simp only [HMM.out, HFB.out, HVL.out, HPL.out, HTW.out]; simp) (by decide) HF3.out
              | false =>
                have htw2 : (getF x0 (xs.take k)).isSome = false := by rw [← htw]; unfold saidF; rw [HMM.out]; rfl
                have HTW := Lib.hid htw2
                clear htw htw2
                obtain ⟨w5, hup, hm5, hf5⟩ := HM3.out.put x0 x1 hs0 hs1 (by omega)
                have HM5 := Lib.hid hm5
                have HF5 := Lib.hid (Fr.trans_new HF3.out hf5 (by have := HMB.out; omega))
                clear hm5 hf5
                go_wp2
                go_roundw
                case rel => exact ⟨k + 1, by omega, by go_num, by rw [plain_snoc hkl, HXK.out, HPL.out]; simp [HMM.out], HOK.out.succ (by rw [HXK.out]; unfold stepE; simp only [HMM.out, HFB.out, HVL.out, HPL.out, HTW.out]; simp), (HM5.out.eq (fun x => by have := saidF_colon hkl (by rw [HXK.out]; exact HMM.out) (by rw [HXK.out]; exact HTW.out) x; rw [HXK.out] at this; exact this)), HF5.out⟩
                case measure => simp [intOf]; omega
    · have hkn : k = xs.length := by have := HN.out; omega
      have hT : xs.take k = xs := List.take_of_length_le (by omega)
      rw [hkn] at HOK
      rw [hT, hkn] at HMP
      have HT := Lib.hid hfr
      clear hfr hT
      go_wp2
      go_ret2
      exact ⟨HT.out, .inr ⟨walkE_ok HOK.out, M, rfl, HMP.out⟩⟩
end Go.Proofs.YtfejfaldjfichaaDoor
