/- Messages: names, values, texts in a list. -/
import Derived.Test.YtfejfaldjfichaaDoorMsgA
namespace Go.Proofs.YtfejfaldjfichaaDoor
open Go.RowKit Go.Hp
set_option maxRecDepth 100000

theorem take_snoc (s : ByteArray) (k : Nat) (h : k < s.size) : s.data.toList.take (k + 1) = s.data.toList.take k ++ [s[k]] := by
  rw [List.take_succ_eq_append_getElem (by simpa using h)]; rfl
theorem take_all (s : ByteArray) : s.data.toList.take s.size = s.data.toList := List.take_of_length_le (by simp)
theorem all_snoc {s : ByteArray} {p : UInt8 → Bool} {k : Nat} (h : k < s.size) (h0 : (s.data.toList.take k).all p = true) (h1 : p s[k] = true) : (s.data.toList.take (k + 1)).all p = true := by
  rw [take_snoc s k h, List.all_append, h0, List.all_cons, h1]; rfl
theorem all_not {s : ByteArray} {p : UInt8 → Bool} {k : Nat} (h : k < s.size) (h1 : p s[k] = false) : s.data.toList.all p = false := by
  rw [List.all_eq_false]
  exact ⟨s[k], by have : s.data.toList[k]'(by simpa using h) = s[k] := rfl; rw [← this]; exact List.getElem_mem _, by simpa using h1⟩

def letU (b : UInt8) : Bool := letterB (b.toNat : Int)
/-- May there be a name? -/
def nameOK (s : ByteArray) : Bool := s.data.toList.all letU && (!(s.toList.isEmpty) && decide ((s.size : Int) ≤ 40))

set_option maxHeartbeats 1000000 in
theorem name_ok_calls (s : ByteArray) (w : World) (hs : s.size ≤ 9223372036854775807) : Calls Tryd.prog 45 #[.string s] w fun e w' => e = .returned (.bool (nameOK s)) ∧ w = w' := by
  go_enter Tryd.func45, Tryd.ntmps45
  go_wp2
  go_loop [6] (fun i => ∃ k : Nat, k ≤ s.size ∧ i = .int .i64 k ∧ (s.data.toList.take k).all letU = true) (fun i => s.size - (intOf i).toNat)
  case atStart => exact ⟨0, by omega, rfl, by simp⟩
  case round =>
    obtain ⟨k, hk, rfl, hall⟩ := hrel
    have HALL := Lib.hid hall
    clear hall
    by_cases hlt : k < s.size
    · have b0 : (0 : Int) ≤ (k : Int) := by omega
      have b1 : (k : Int) < (s.size : Int) := by omega
      go_wp2_with fail
      refine (letter_calls _ _).mono ?_
      rintro e w' ⟨rfl, rfl⟩
      cases hl : letterB (s[k].toNat : Int) with
      | true =>
        have HL := Lib.hid hl
        clear hl
        go_wp2
        go_round
        case rel => exact ⟨k + 1, by omega, by go_num, all_snoc hlt HALL.out HL.out⟩
        case measure => simp [intOf]; omega
      | false =>
        have HL := Lib.hid hl
        clear hl
        go_wp2
        go_ret
        exact ⟨ret_bool (by unfold nameOK; rw [all_not hlt HL.out]; rfl), rfl⟩
    · have hke : k = s.size := by omega
      go_wp2
      all_goals
        go_ret
        refine ⟨ret_bool ?_, rfl⟩
        have h := HALL.out
        rw [hke, take_all] at h
        unfold nameOK
        rw [h]
        simp_all

def valU (b : UInt8) : Bool := !(decide ((b.toNat : Int) < 32) || decide ((b.toNat : Int) = 127))
/-- What is left of a text without spaces at its ends. -/
def trimSp (s : ByteArray) : ByteArray := ⟨(Lib.trimS s.data.toList [32]).toArray⟩
/-- May there be a value? -/
def valueOK (s : ByteArray) : Bool := s.data.toList.all valU && (decide ((s.size : Int) ≤ 200) && decide (trimSp s = s))

theorem trim_sp_calls (s : ByteArray) (w : World) (hs : s.size ≤ 9223372036854775807) : Calls Tryd.prog 49 #[.string s, .string ⟨#[32]⟩] w fun e w' => e = .returned (.string (trimSp s)) ∧ Fr No w w' := by
  have h := Any.strings_Trim_laid Tryd.lays160 (by kernel_rfl) s ⟨#[32]⟩ w hs (by decide) (ascii_of_all (by decide))
  exact h.mono fun e w' ⟨h1, h2⟩ => ⟨h1, Fr.of_below h2⟩

set_option maxHeartbeats 1000000 in
theorem value_ok_calls (s : ByteArray) (w : World) (hs : s.size ≤ 9223372036854775807) : Calls Tryd.prog 47 #[.string s] w fun e w' => e = .returned (.bool (valueOK s)) ∧ Fr No w w' := by
  go_enter Tryd.func47, Tryd.ntmps47
  go_wp2
  go_loop [6] (fun i => ∃ k : Nat, k ≤ s.size ∧ i = .int .i64 k ∧ (s.data.toList.take k).all valU = true) (fun i => s.size - (intOf i).toNat)
  case atStart => exact ⟨0, by omega, rfl, by simp⟩
  case round =>
    obtain ⟨k, hk, rfl, hall⟩ := hrel
    have HALL := Lib.hid hall
    clear hall
    by_cases hlt : k < s.size
    · have b0 : (0 : Int) ≤ (k : Int) := by omega
      have b1 : (k : Int) < (s.size : Int) := by omega
      have HU := Lib.hid (rfl : valU s[k] = valU s[k])
      go_wp2
      · go_ret
        have h1 : (32 : Int) ≤ (s[k].toNat : Int) := by assumption
        have h2 : (s[k].toNat : Int) < 32 ∨ ((s[k].toNat : Int) == 127) = true := by assumption
        exact ⟨ret_bool (by unfold valueOK; rw [all_not hlt (by unfold valU; simp at h2 ⊢; omega)]; rfl), Fr.refl _ _⟩
      · have h1 : (32 : Int) ≤ (s[k].toNat : Int) ∧ ((s[k].toNat : Int) == 127) = false := by assumption
        go_round
        case rel => exact ⟨k + 1, by omega, by go_num, all_snoc hlt HALL.out (by unfold valU; simp at h1 ⊢; omega)⟩
        case measure => simp [intOf]; omega
      · go_ret
        have h1 : (s[k].toNat : Int) < 32 := by assumption
        exact ⟨ret_bool (by unfold valueOK; rw [all_not hlt (by unfold valU; simp at h1 ⊢; omega)]; rfl), Fr.refl _ _⟩
    · have hke : k = s.size := by omega
      have h := HALL.out
      rw [hke, take_all] at h
      have HV := Lib.hid h
      clear h
      by_cases h2 : (s.size : Int) ≤ 200
      · go_wp2_with fail
        refine (trim_sp_calls s w hs).mono ?_
        rintro e w' ⟨rfl, hf⟩
        go_wp2
        go_ret
        refine ⟨ret_bool ?_, hf⟩
        unfold valueOK
        rw [HV.out, tl_eq]
        have h3 : decide ((s.size : Int) ≤ 200) = true := by simpa using h2
        rw [h3]
        simp
      · go_wp2
        go_ret
        refine ⟨ret_bool ?_, Fr.refl _ _⟩
        unfold valueOK
        rw [HV.out]
        simp
        intro h3
        omega

/-- A list of texts. -/
def strs (xs : List ByteArray) : List Value := xs.map .string
theorem strs_len (xs : List ByteArray) : (strs xs).length = xs.length := by simp [strs]
def nthS (xs : List ByteArray) (k : Nat) : ByteArray := xs.getD k ⟨#[]⟩
theorem strs_get (xs : List ByteArray) (j : Nat) (h : j < xs.length) : (strs xs)[j]? = some (.string (nthS xs j)) := by
  simp [strs, nthS, List.getD, List.getElem?_eq_getElem h]
/-- Is a text in a list? -/
def memS (xs : List ByteArray) (x : ByteArray) : Bool := xs.any (fun y => decide (x = y))
theorem memS_take {xs : List ByteArray} {x : ByteArray} {k : Nat} (hk : k < xs.length) (h : memS (xs.take k) x = false) (he : ¬ x = nthS xs k) : memS (xs.take (k + 1)) x = false := by
  unfold memS at *
  rw [List.take_succ_eq_append_getElem hk, List.any_append, h]
  have : nthS xs k = xs[k] := by simp [nthS, List.getD, List.getElem?_eq_getElem hk]
  rw [this] at he
  simpa using he
theorem memS_at {xs : List ByteArray} {x : ByteArray} {k : Nat} (hk : k < xs.length) (he : x = nthS xs k) : memS xs x = true := by
  have : nthS xs k = xs[k] := by simp [nthS, List.getD, List.getElem?_eq_getElem hk]
  rw [this] at he
  unfold memS
  rw [List.any_eq_true]
  exact ⟨xs[k], List.getElem_mem _, by simpa using he⟩

/-- Where a text is in a list: not less than nought just if it is there. -/
def IdxS (xs : List ByteArray) (x : ByteArray) (w : World) (e : Ending) (w' : World) : Prop := ∃ i : Int, e = .returned (.int .i64 i) ∧ decide (0 ≤ i) = memS xs x ∧ w = w'
theorem index_str_calls (a : Option Addr) (n c : Nat) (xs : List ByteArray) (x : ByteArray) (w : World) (hx : Rd w 1 a n c (strs xs)) :
    Calls Tryd.prog 44 #[.slice a n c, .string x] w (IdxS xs x w) := by
  have hn : xs.length = n := by have := hx.len; rw [strs_len] at this; omega
  have c1 := hx.capLe; have c2 := hx.le
  have HN := Lib.hid hn
  clear hn
  go_enter Tryd.func44, Tryd.ntmps44
  go_wp2
  go_loop [8] (fun i => ∃ k : Nat, k ≤ n ∧ i = .int .i64 k ∧ memS (xs.take k) x = false) (fun i => n - (intOf i).toNat)
  case atStart => exact ⟨0, by omega, rfl, by simp [memS]⟩
  case round =>
    obtain ⟨k, hk, rfl, hpre⟩ := hrel
    have HP := Lib.hid hpre
    clear hpre
    by_cases hlt : k < n
    · have hkl : k < xs.length := by have := HN.out; omega
      obtain ⟨g, off, rfl, hc⟩ := hx.cell (strs_get xs k hkl)
      have b0 : (0 : Int) ≤ (k : Int) := by omega
      have b1 : (k : Int) < (n : Int) := by omega
      by_cases he : x = nthS xs k
      · have he' : (x.toList == (nthS xs k).toList) = true := by rw [tl_eq]; simpa using he
        have HE := Lib.hid he
        clear he
        go_wp2
        go_ret
        exact ⟨k, rfl, by rw [memS_at hkl HE.out]; simp, rfl⟩
      · have he' : (x.toList == (nthS xs k).toList) = false := by rw [tl_eq]; simpa using he
        have HE := Lib.hid he
        clear he
        go_wp2
        go_round
        case rel => exact ⟨k + 1, by omega, by go_num, memS_take hkl HP.out HE.out⟩
        case measure => simp [intOf]; omega
    · go_wp2
      go_ret
      exact ⟨-1, rfl, by
        have h1 := HP.out; have h2 := HN.out
        rw [List.take_of_length_le (by omega)] at h1
        rw [h1]; rfl, rfl⟩
theorem contains_str_calls (a : Option Addr) (n c : Nat) (xs : List ByteArray) (x : ByteArray) (w : World) (hx : Rd w 1 a n c (strs xs)) :
    Calls Tryd.prog 34 #[.slice a n c, .string x] w fun e w' => e = .returned (.bool (memS xs x)) ∧ w = w' := by
  have HX := Lib.hid hx
  clear hx
  go_enter Tryd.func34, Tryd.ntmps34
  go_wp2_with fail
  refine (index_str_calls a n c xs x w HX.out).mono ?_
  rintro e w' ⟨i, rfl, hi, rfl⟩
  have HI := Lib.hid hi
  clear hi
  go_wp2
  go_ret
  exact ⟨ret_bool HI.out, rfl⟩
end Go.Proofs.YtfejfaldjfichaaDoor
