/- Messages: digits, the first value of a name, a place by a function value. -/
import Derived.Test.YtfejfaldjfichaaDoorMsgB
namespace Go.Proofs.YtfejfaldjfichaaDoor
open Go.RowKit Go.Hp
set_option maxRecDepth 100000

/-! digits -/
def isDg (b : UInt8) : Bool := decide (48 ≤ b.toNat ∧ b.toNat ≤ 57)
def tenDg : List UInt8 := [48, 49, 50, 51, 52, 53, 54, 55, 56, 57]
theorem dg_contains (b : UInt8) : tenDg.contains b = isDg b := by
  have h : ∀ n : Nat, n < 256 → tenDg.contains (UInt8.ofNat n) = isDg (UInt8.ofNat n) := by decide
  have := h b.toNat b.toNat_lt
  simpa using this
theorem dropWhile_nil_iff {p : UInt8 → Bool} : ∀ {l : List UInt8}, l.dropWhile p = [] ↔ l.all p = true
  | [] => by simp
  | b :: l => by
    rw [List.dropWhile_cons]
    split
    · rename_i h
      rw [dropWhile_nil_iff, List.all_cons, h]; simp
    · rename_i h
      simp [h]
theorem dropWhile_all {p : UInt8 → Bool} {l : List UInt8} (h : l.all p = true) : l.dropWhile p = [] := dropWhile_nil_iff.2 h
theorem mem_dropWhile {p : UInt8 → Bool} {x : UInt8} : ∀ {l : List UInt8}, x ∈ l → p x = false → x ∈ l.dropWhile p
  | b :: l, hx, hp => by
    rw [List.dropWhile_cons]
    rcases List.mem_cons.1 hx with rfl | h
    · rw [hp]; simp
    · split
      · exact mem_dropWhile h hp
      · exact List.mem_cons_of_mem _ h
/-- A text that has digits alone is trimmed to none, and no other. -/
theorem trimS_nil (l : List UInt8) : Lib.trimS l tenDg = [] ↔ l.all isDg = true := by
  unfold Lib.trimS Lib.trimLeftS Lib.trimRightS
  rw [dropWhile_nil_iff]
  have e : (fun x => tenDg.contains x) = isDg := funext dg_contains
  rw [e]
  constructor
  · intro h
    rw [List.all_eq_true]
    intro x hx
    cases hp : isDg x with
    | true => rfl
    | false =>
      rw [List.all_eq_true] at h
      have := h x (List.mem_reverse.2 (mem_dropWhile (List.mem_reverse.2 hx) hp))
      rw [hp] at this; cases this
  · intro h
    rw [dropWhile_all (by simpa using h)]; rfl
def trimDg (s : ByteArray) : ByteArray := ⟨(Lib.trimS s.data.toList tenDg).toArray⟩
theorem trim_dg_calls (s : ByteArray) (w : World) (hs : s.size ≤ 9223372036854775807) : Calls Tryd.prog 49 #[.string s, .string ⟨#[48, 49, 50, 51, 52, 53, 54, 55, 56, 57]⟩] w fun e w' => e = .returned (.string (trimDg s)) ∧ Fr No w w' := by
  have h := Any.strings_Trim_laid Tryd.lays160 (by kernel_rfl) s ⟨#[48, 49, 50, 51, 52, 53, 54, 55, 56, 57]⟩ w hs (by decide) (ascii_of_all (by decide))
  exact h.mono fun e w' ⟨h1, h2⟩ => ⟨h1, Fr.of_below h2⟩
theorem ba_toList (s : ByteArray) : s.toList = s.data.toList := by
  exact Lib.toList_data s
theorem trimDg_empty (s : ByteArray) : (trimDg s).toList.isEmpty = s.data.toList.all isDg := by
  rw [ba_toList, Bool.eq_iff_iff, List.isEmpty_iff]
  exact trimS_nil _
def dgOK (s : ByteArray) : Bool := !(s.toList.isEmpty) && s.data.toList.all isDg
theorem digits_calls (s : ByteArray) (w : World) (hs : s.size ≤ 9223372036854775807) : Calls Tryd.prog 37 #[.string s] w fun e w' => e = .returned (.bool (dgOK s)) ∧ Fr No w w' := by
  cases h0 : s.toList.isEmpty with
  | true =>
    go_enter Tryd.func37, Tryd.ntmps37
    go_wp2
    go_ret
    exact ⟨ret_bool (by unfold dgOK; rw [h0]; rfl), Fr.refl _ _⟩
  | false =>
    go_enter Tryd.func37, Tryd.ntmps37
    go_wp2_with fail
    refine (trim_dg_calls s w hs).mono ?_
    rintro e w' ⟨rfl, hf⟩
    go_wp2
    go_ret
    exact ⟨ret_bool (by unfold dgOK; rw [h0, trimDg_empty]; rfl), hf⟩

/-! the number that digits spell -/
def decV (l : List UInt8) (acc : Nat) : Nat := l.foldl (fun a b => a * 10 + (b.toNat - 48)) acc
theorem decFrom_all : ∀ {l : List UInt8} {acc : Nat}, l.all isDg = true → Lib.decFrom acc l = some (decV l acc)
  | [], _, _ => rfl
  | b :: l, acc, h => by
    rw [List.all_cons, Bool.and_eq_true] at h
    have hb := h.1
    unfold isDg at hb
    have hb := of_decide_eq_true hb
    unfold Lib.decFrom Lib.digitVal
    rw [if_pos hb]
    simp only
    rw [decFrom_all h.2]; rfl
theorem atoi_dg {s : ByteArray} (h : dgOK s = true) : Lib.atoi s.data.toList = some (decV s.data.toList 0 : Nat) := by
  unfold dgOK at h
  rw [Bool.and_eq_true, ba_toList] at h
  obtain ⟨h1, h2⟩ := h
  cases hl : s.data.toList with
  | nil => rw [hl] at h1; simp at h1
  | cons b r =>
    rw [hl] at h2
    have hb : isDg b = true := by rw [List.all_cons, Bool.and_eq_true] at h2; exact h2.1
    unfold isDg at hb
    have hb := of_decide_eq_true hb
    unfold Lib.atoi
    have e1 : (b == 45) = false := by rw [beq_eq_false_iff_ne]; rintro rfl; revert hb; decide
    have e2 : (b == 43) = false := by rw [beq_eq_false_iff_ne]; rintro rfl; revert hb; decide
    simp only [e1, e2]
    unfold Lib.decNat
    rw [decFrom_all h2]; rfl
theorem bytesWorld_fr (w : World) (e : TypeId) (s : ByteArray) : Fr No w (Lib.bytesWorld w e s) := by
  exact ⟨rfl, rfl, rfl, by rw [Lib.bytesWorld_size]; omega, fun k hk _ => Lib.bytesWorld_at_old w e s k hk⟩
theorem atoi_calls (s : ByteArray) (w : World) (hd : dgOK s = true) (hs : s.size ≤ 18) : Calls Tryd.prog 28 #[.string s] w fun e w' => e = .returned (.tuple #[.int .i64 (decV s.data.toList 0 : Nat), .nilIface]) ∧ Fr No w w' := by
  have h := Any.strconv_Atoi Tryd.lays172 s (decV s.data.toList 0 : Nat) hs (atoi_dg hd) w
  exact h.mono fun e w' ⟨h1, t, h2⟩ => ⟨h1, by rw [h2]; exact bytesWorld_fr _ _ _⟩

/-! the first value of a name -/
def getF (name : ByteArray) (l : List El) : Option ByteArray := (l.find? (fun f => f.1.toList == name.toList)).map (·.2)
theorem nth_getE {l : List El} {k : Nat} (hk : k < l.length) : nth l k = l[k] := by simp [nth, List.getD, List.getElem?_eq_getElem hk]
theorem getF_at {name : ByteArray} {l : List El} {k : Nat} (hk : k < l.length) (he : ((nth l k).1.toList == name.toList) = true) (hn : getF name (l.take k) = none) : getF name l = some (nth l k).2 := by
  unfold getF at *
  rw [Option.map_eq_none_iff] at hn
  have h1 : l = l.take k ++ nth l k :: l.drop (k + 1) := by rw [nth_getE hk, List.getElem_cons_drop, List.take_append_drop]
  obtain ⟨x, hx⟩ : ∃ x, nth l k = x := ⟨_, rfl⟩
  rw [hx] at h1 he ⊢
  rw [h1, List.find?_append, hn, List.find?_cons, he]; rfl
theorem getF_step {name : ByteArray} {l : List El} {k : Nat} (hk : k < l.length) (he : ((nth l k).1.toList == name.toList) = false) (hn : getF name (l.take k) = none) : getF name (l.take (k + 1)) = none := by
  unfold getF at *
  rw [Option.map_eq_none_iff] at *
  rw [List.take_succ_eq_append_getElem hk, List.find?_append, hn, ← nth_getE hk]
  simp [he]
set_option maxHeartbeats 1000000 in
theorem get_calls (name : ByteArray) (a : Option Addr) (n c : Nat) (xs : List El) (w : World) (hx : Rd w 2 a n c (cells xs)) :
    Calls Tryd.prog 27 #[.string name, .slice a n c] w fun e w' => e = .returned (.tuple #[.string ((getF name xs).getD ⟨#[]⟩), .bool (getF name xs).isSome]) ∧ Fr No w w' := by
  have hn := rd_xlen hx
  have c1 := hx.capLe; have c2 := hx.le
  have HN := Lib.hid hn
  have HX := Lib.hid hx
  clear hn hx
  obtain ⟨v, hv⟩ : ∃ v, getF name xs = v := ⟨_, rfl⟩
  rw [hv]
  have HV := Lib.hid hv
  clear hv
  go_enter Tryd.func27, Tryd.ntmps27
  go_wp2
  go_loopw [10] (fun i wr => ∃ k : Nat, k ≤ n ∧ i = .int .i64 k ∧ getF name (xs.take k) = none ∧ Fr No w wr) (fun i _ => n - (intOf i).toNat)
  case atStart => exact ⟨0, by omega, rfl, by simp [getF], Fr.refl _ _⟩
  case round =>
    obtain ⟨k, hk, rfl, hpre, hfr⟩ := hrel
    have HP := Lib.hid hpre
    clear hpre
    by_cases hlt : k < n
    · have hkl : k < xs.length := by have := HN.out; omega
      have gx := cells_get xs k hkl
      have hx := HX.out.no hfr
      obtain ⟨g, off, rfl, hc⟩ := hx.cell gx.1
      obtain ⟨g2, off2, e2, hd⟩ := hx.cell gx.2
      injection e2 with e2; injection e2 with e2 e3; subst e2; subst e3
      rw [← Nat.add_assoc] at hd
      clear gx hx
      have b0 : (0 : Int) ≤ (k : Int) := by omega
      have b1 : (k : Int) < (n : Int) := by omega
      have HF := Lib.hid (hfr.alloc (.cells #[.string (nth xs k).1, .string (nth xs k).2] 30))
      clear hfr
      cases he : ((nth xs k).1.toList == name.toList) with
      | true =>
        have HH := Lib.hid (getF_at hkl he HP.out)
        go_wp2
        go_ret2
        exact ⟨by rw [← HV.out, HH.out]; rfl, HF.out⟩
      | false =>
        have HH := Lib.hid (getF_step hkl he HP.out)
        go_wp2
        go_roundw
        case rel => exact ⟨k + 1, by omega, by go_num, HH.out, HF.out⟩
        case measure => simp [intOf]; omega
    · have hP : v = none := by
        have h1 := HP.out; have h2 := HN.out
        rw [List.take_of_length_le (by omega)] at h1
        rw [← HV.out]; exact h1
      clear HV
      subst hP
      go_wp2
      go_ret2
      exact ⟨rfl, hfr⟩
end Go.Proofs.YtfejfaldjfichaaDoor
