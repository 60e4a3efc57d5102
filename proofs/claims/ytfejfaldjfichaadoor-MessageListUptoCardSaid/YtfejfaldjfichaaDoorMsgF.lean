/- Messages: trailers, responses, requests: which fields may be. -/
import Derived.Test.YtfejfaldjfichaaDoorMsgW
namespace Go.Proofs.YtfejfaldjfichaaDoor
open Go.RowKit Go.Hp
set_option maxRecDepth 100000

def trailersF (l : List El) : Int := walkE [] [] l
theorem trailers_calls (a : Option Addr) (n c : Nat) (xs : List El) (w : World) (hx : Rd w 2 a n c (cells xs)) (hsz : SzOK xs) :
    Calls Tryd.prog 24 #[.slice a n c] w fun e w' => e = .returned (.int .i64 (trailersF xs)) ∧ Fr No w w' := by
  have HX := Lib.hid hx
  have HSZ := Lib.hid hsz
  clear hx hsz
  go_enter Tryd.func24, Tryd.ntmps24
  go_wp2_with fail
  refine (walk_calls a n c none 0 0 [] xs w HX.out (Rd.nil w 1) HSZ.out).mono ?_
  rintro e w' ⟨hf, ⟨h1, rfl⟩ | ⟨h1, M, rfl, hM⟩⟩
  · have HF := Lib.hid hf
    clear h1 hf
    go_wp2
    go_ret
    exact ⟨rfl, HF.out⟩
  · have HF := Lib.hid hf
    have H1 := Lib.hid h1
    clear h1 hf hM
    go_wp2
    go_ret
    exact ⟨by unfold trailersF; rw [H1.out]; rfl, HF.out⟩

/-- A row of texts that was just made. -/
theorem Row.strs_new (w : World) (e : TypeId) (xs : List ByteArray) (n : Nat) (hn : n = xs.length) (h : xs.length ≤ 9223372036854775807) : Rd (w.alloc (.cells (strs xs).toArray e)) 1 (some ⟨w.heap.size, 0, none⟩) n n (strs xs) := by
  subst hn
  have hb := Bk.new w (strs xs) e
  refine ⟨by rw [strs_len]; omega, Nat.le_refl _, h, (fun h => by cases h), fun _ => ⟨w.heap.size, 0, rfl, hb.lt, fun j u hj => ?_⟩⟩
  rw [Nat.zero_add, hb.cell]; exact hj

/-- A status that is none. -/
def badSt (s : ByteArray) : Bool := !(decide ((s.size : Int) = 3)) || (!(dgOK s) || (Op.bytesLess s.toList [49, 48, 48] || (!(Op.bytesLess s.toList [53, 57, 57]) && !(s.toList == [53, 57, 57]))))
/-- The first value of a name; none: the empty text. -/
def fstV (name : ByteArray) (l : List El) : ByteArray := (getF name l).getD ⟨#[]⟩
def responseF (l : List El) : Int := if walkE [stN] [] l = 0 then (if badSt (fstV stN l) then 3 else 0) else walkE [stN] [] l
theorem fstV_size {name : ByteArray} {l : List El} (h : SzOK l) : (fstV name l).size ≤ 9223372036854775807 := by
  unfold fstV
  cases hg : getF name l with
  | none => decide
  | some s =>
    obtain ⟨x, hx, rfl⟩ := getF_mem hg
    exact (h x hx).2
theorem ret_int {k : IntKind} {a b : Int} (h : a = b) : Ending.returned (.int k a) = .returned (.int k b) := by rw [h]

set_option maxHeartbeats 1000000 in
theorem response_calls (a : Option Addr) (n c : Nat) (xs : List El) (w : World) (hx : Rd w 2 a n c (cells xs)) (hsz : SzOK xs) :
    Calls Tryd.prog 26 #[.slice a n c] w fun e w' => e = .returned (.int .i64 (responseF xs)) ∧ Fr No w w' := by
  have HX := Lib.hid hx
  have HSZ := Lib.hid hsz
  clear hx hsz
  have HR := Lib.hid (Row.strs_new w STR [stN] 1 rfl (by decide))
  have HF0 := Lib.hid ((Fr.refl No w).alloc (.cells (strs [stN]).toArray STR))
  obtain ⟨v, hv⟩ : ∃ v, responseF xs = v := ⟨_, rfl⟩
  rw [hv]
  have HV := Lib.hid hv
  clear hv
  go_enter Tryd.func26, Tryd.ntmps26
  go_wp2_with fail
  refine (walk_calls a n c _ 1 1 [stN] xs _ (HX.out.no HF0.out) HR.out HSZ.out).mono ?_
  rintro e w' ⟨hf, ⟨h1, rfl⟩ | ⟨h1, M, rfl, hM⟩⟩
  · have HF := Lib.hid (HF0.out.then_ hf)
    have H1 := Lib.hid h1
    clear hf
    go_wp2
    go_ret
    exact ⟨ret_int (by rw [← HV.out]; unfold responseF; rw [if_neg H1.out]), HF.out⟩
  · obtain ⟨s, hs⟩ : ∃ s, fstV stN xs = s := ⟨_, rfl⟩
    have hlk0 := hM.look stN (by decide)
    have hlk : (Instr.lookup MAPT (.map (some M)) (.string stN) false).run Tryd.prog w' = .ok (.string s) w' := by rw [hlk0, ← hs]; rfl
    clear hlk0
    have HF := Lib.hid (HF0.out.then_ hf)
    have hss : s.size ≤ 9223372036854775807 := by rw [← hs]; exact fstV_size HSZ.out
    have hv : v = if badSt s then 3 else 0 := by rw [← HV.out]; unfold responseF; rw [if_pos h1, hs]
    clear HV
    have HV := Lib.hid hv
    clear hf h1 hM hs hv
    by_cases h3 : (s.size : Int) = 3
    · have H3 := Lib.hid h3
      go_wp2_with fail
      refine (digits_calls s _ hss).mono ?_
      rintro e w2 ⟨rfl, hf2⟩
      have HF2 := Lib.hid (HF.out.then_ hf2)
      clear hf2 hlk h3
      cases hd : dgOK s with
      | false =>
        have HD := Lib.hid hd
        clear hd
        go_wp2
        go_ret
        exact ⟨ret_int (by rw [HV.out]; unfold badSt; rw [HD.out]; simp), HF2.out⟩
      | true =>
        have HD := Lib.hid hd
        clear hd
        go_wp2
        · go_ret
          have g1 : Op.bytesLess s.toList [49, 48, 48] = true := by assumption
          exact ⟨ret_int (by rw [HV.out]; unfold badSt; rw [g1]; simp), HF2.out⟩
        · go_ret
          have g1 : ¬ Op.bytesLess s.toList [49, 48, 48] = true := by assumption
          have g2 : (!Op.bytesLess s.toList [53, 57, 57]) = true ∧ (!s.toList == [53, 57, 57]) = true := by assumption
          exact ⟨ret_int (by rw [HV.out]; unfold badSt; rw [g2.1, g2.2]; simp), HF2.out⟩
        · go_ret
          have g1 : ¬ Op.bytesLess s.toList [49, 48, 48] = true := by assumption
          have g2 : (!Op.bytesLess s.toList [53, 57, 57]) = false ∨ (!s.toList == [53, 57, 57]) = false := by assumption
          exact ⟨ret_int (by rw [HV.out]; unfold badSt; rw [HD.out, (by simpa using g1 : Op.bytesLess s.toList [49, 48, 48] = false)]; rcases g2 with g2 | g2 <;> simp [g2, H3.out]), HF2.out⟩
    · go_wp2
      go_ret
      exact ⟨ret_int (by rw [HV.out]; unfold badSt; simp [h3]), HF.out⟩

abbrev reqN : List ByteArray := [⟨#[58, 109, 101, 116, 104, 111, 100]⟩, ⟨#[58, 115, 99, 104, 101, 109, 101]⟩, ⟨#[58, 97, 117, 116, 104, 111, 114, 105, 116, 121]⟩, ⟨#[58, 112, 97, 116, 104]⟩]
abbrev pathN : ByteArray := ⟨#[58, 112, 97, 116, 104]⟩
def requestF (l : List El) : Int := if walkE reqN [] l = 0 then (if reqN.any (fun nm => (fstV nm l).toList.isEmpty) || !(Lib.hasPrefix (fstV pathN l).data.toList [47]) then 3 else 0) else walkE reqN [] l
theorem has_prefix_calls (s p : ByteArray) (w : World) : Calls Tryd.prog 43 #[.string s, .string p] w fun e w' => e = .returned (.bool (Lib.hasPrefix s.data.toList p.data.toList)) ∧ w = w' :=
  (Any.strings_HasPrefix Tryd.lays99 s p w).mono fun _ _ ⟨h1, h2⟩ => ⟨h1, h2.symm⟩

set_option maxHeartbeats 1000000 in
theorem request_calls (a : Option Addr) (n c : Nat) (xs : List El) (w : World) (hx : Rd w 2 a n c (cells xs)) (hsz : SzOK xs) :
    Calls Tryd.prog 32 #[.slice a n c] w fun e w' => e = .returned (.int .i64 (requestF xs)) ∧ Fr No w w' := by
  have HX := Lib.hid hx
  have HSZ := Lib.hid hsz
  clear hx hsz
  have HR := Lib.hid (Row.strs_new w STR reqN 4 rfl (by decide))
  have HF0 := Lib.hid ((Fr.refl No w).alloc (.cells (strs reqN).toArray STR))
  obtain ⟨v, hv⟩ : ∃ v, requestF xs = v := ⟨_, rfl⟩
  rw [hv]
  have HV := Lib.hid hv
  clear hv
  go_enter Tryd.func32, Tryd.ntmps32
  go_wp2_with fail
  refine (walk_calls a n c _ 4 4 reqN xs _ (HX.out.no HF0.out) HR.out HSZ.out).mono ?_
  rintro e w' ⟨hf, ⟨h1, rfl⟩ | ⟨h1, M, rfl, hM⟩⟩
  · have HF := Lib.hid (HF0.out.then_ hf)
    have H1 := Lib.hid h1
    clear hf
    go_wp2
    go_ret
    exact ⟨ret_int (by rw [← HV.out]; unfold requestF; rw [if_neg H1.out]), HF.out⟩
  · have HF := Lib.hid (HF0.out.then_ hf)
    have HRR := Lib.hid (HR.out.no hf)
    have HM := Lib.hid hM
    have hv : v = if reqN.any (fun nm => (fstV nm xs).toList.isEmpty) || !(Lib.hasPrefix (fstV pathN xs).data.toList [47]) then 3 else 0 := by rw [← HV.out]; unfold requestF; rw [if_pos h1]
    have HV2 := Lib.hid hv
    clear hf h1 hM HV hv
    go_wp2
    go_loop [20] (fun i => ∃ k : Nat, k ≤ 4 ∧ i = .int .i64 k ∧ (reqN.take k).any (fun nm => (fstV nm xs).toList.isEmpty) = false) (fun i => 4 - (intOf i).toNat)
    case atStart => exact ⟨0, by omega, rfl, by simp⟩
    case round =>
      obtain ⟨k, hk, rfl, hpre⟩ := hrel
      have HP := Lib.hid hpre
      clear hpre
      by_cases hlt : k < 4
      · have hkl : k < reqN.length := hlt
        obtain ⟨nm, hnm⟩ : ∃ nm, nthS reqN k = nm := ⟨_, rfl⟩
        obtain ⟨g, off, e0, hc⟩ := HRR.out.cell (strs_get reqN k hkl)
        injection e0 with e0; injection e0 with e0 e1; subst e0; subst e1
        rw [hnm, Nat.zero_add] at hc
        have hnm2 : nm.size ≤ 9223372036854775807 := by
          rw [← hnm]
          have : ∀ j, j < 4 → (nthS reqN j).size ≤ 9223372036854775807 := by decide
          exact this k hlt
        obtain ⟨s, hs⟩ : ∃ s, fstV nm xs = s := ⟨_, rfl⟩
        have hlk0 := HM.out.look nm hnm2
        have hlk : (Instr.lookup MAPT (.map (some M)) (.string nm) false).run Tryd.prog w' = .ok (.string s) w' := by
          rw [hlk0, ← hs]
          unfold saidF fstV
          rw [memS_at hkl hnm.symm]; rfl
        clear hlk0
        have b0 : (0 : Int) ≤ (k : Int) := by omega
        have b1 : (k : Int) < (4 : Int) := by omega
        have HNM := Lib.hid hnm
        have HSS := Lib.hid hs
        clear hnm hs
        have htk : reqN.take (k + 1) = reqN.take k ++ [nthS reqN k] := by
          rw [List.take_succ_eq_append_getElem hkl]
          simp [nthS, List.getD, List.getElem?_eq_getElem hkl]
        have HTK := Lib.hid htk
        clear htk
        cases he : s.toList.isEmpty with
        | true =>
          have HE := Lib.hid he
          go_wp2
          go_ret
          exact ⟨ret_int (by
            have : reqN.any (fun nm => (fstV nm xs).toList.isEmpty) = true := by
              rw [List.any_eq_true]
              exact ⟨nthS reqN k, by simp [nthS, List.getD, List.getElem?_eq_getElem hkl], by rw [HNM.out, HSS.out]; exact HE.out⟩
            rw [HV2.out, this]; rfl), HF.out⟩
        | false =>
          have HE := Lib.hid he
          go_wp2
          go_round
          case rel => exact ⟨k + 1, by omega, by go_num, by rw [HTK.out, List.any_append, HP.out, HNM.out]; simp [HSS.out, HE.out]⟩
          case measure => simp [intOf]; omega
      · have hk4 : k = 4 := by omega
        have hp := HP.out
        rw [hk4] at hp
        have hp : reqN.any (fun nm => (fstV nm xs).toList.isEmpty) = false := hp
        obtain ⟨s, hs⟩ : ∃ s, fstV pathN xs = s := ⟨_, rfl⟩
        have hlk0 := HM.out.look pathN (by decide)
        have hlk : (Instr.lookup MAPT (.map (some M)) (.string pathN) false).run Tryd.prog w' = .ok (.string s) w' := by rw [hlk0, ← hs]; rfl
        clear hlk0
        have hv := HV2.out
        rw [hp, hs] at hv
        have HV3 := Lib.hid hv
        clear hv hp hs HP
        go_wp2_with fail
        refine (has_prefix_calls s _ _).mono ?_
        rintro e w2 ⟨rfl, rfl⟩
        have HV4 : Hid (v = if (false || !(Lib.hasPrefix s.data.toList [47])) = true then 3 else 0) := HV3
        cases hh : Lib.hasPrefix s.data.toList [47] with
        | true =>
          have hv := HV4.out
          rw [hh] at hv
          have hv : v = 0 := hv
          have HVV := Lib.hid hv
          clear hv hlk HV3 HV4
          go_wp2
          go_ret
          exact ⟨ret_int HVV.out.symm, HF.out⟩
        | false =>
          have hv := HV4.out
          rw [hh] at hv
          have hv : v = 3 := hv
          have HVV := Lib.hid hv
          clear hv hlk HV3 HV4
          go_wp2
          go_ret
          exact ⟨ret_int HVV.out.symm, HF.out⟩
end Go.Proofs.YtfejfaldjfichaaDoor
