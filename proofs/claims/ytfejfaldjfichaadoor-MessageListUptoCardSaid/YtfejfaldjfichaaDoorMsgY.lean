/- Messages: what a status and a length say. -/
import Derived.Test.YtfejfaldjfichaaDoorMsgX
namespace Go.Proofs.YtfejfaldjfichaaDoor
open Go.RowKit Go.Hp
set_option maxRecDepth 100000

theorem dropWhile_id {p : UInt8 → Bool} : ∀ {l : List UInt8}, (∀ x ∈ l, p x = false) → l.dropWhile p = l
  | [], _ => rfl
  | b :: l, h => by rw [List.dropWhile_cons, h b (by simp)]; simp
theorem dg_val {b : UInt8} (h : isDg b = true) : valU b = true ∧ ([32] : List UInt8).contains b = false := by
  have hh : ∀ n : Nat, n < 256 → isDg (UInt8.ofNat n) = true → valU (UInt8.ofNat n) = true ∧ ([32] : List UInt8).contains (UInt8.ofNat n) = false := by decide
  have := hh b.toNat b.toNat_lt
  simp only [UInt8.ofNat_toNat] at this
  exact this h
theorem value_dg {s : ByteArray} (h : s.data.toList.all isDg = true) (hs : s.size ≤ 200) : valueOK s = true := by
  have hall : ∀ x ∈ s.data.toList, isDg x = true := by rwa [List.all_eq_true] at h
  have h1 : s.data.toList.all valU = true := by rw [List.all_eq_true]; exact fun x hx => (dg_val (hall x hx)).1
  have h2 : trimSp s = s := by
    apply ba_ext
    unfold trimSp Lib.trimS Lib.trimLeftS Lib.trimRightS
    simp only
    rw [dropWhile_id (l := s.data.toList.reverse) (fun x hx => (dg_val (hall x (by simpa using hx))).2), List.reverse_reverse, dropWhile_id (fun x hx => (dg_val (hall x hx)).2)]
  unfold valueOK
  rw [h1, h2]
  simp; omega
theorem value_dgB (v : Nat) : valueOK (dgB v) = true := by
  have h := dgB_ok v
  unfold dgOK at h
  rw [Bool.and_eq_true] at h
  exact value_dg h.2 (by have := dgB_size v; omega)

theorem two_walk {a b : ByteArray} (ha : valueOK a = true) (hb : valueOK b = true) : walkE [stN] [] [(stN, a), (clN, b)] = 0 := by
  have m1 : memS [stN] stN = true := by decide
  have m2 : memS [stN] clN = false := by decide
  have n2 : nameOK clN = true := by kernel_rfl
  have f1 : forbB (stN, a) = false := by kernel_rfl
  have f2 : forbB (clN, b) = false := by kernel_rfl
  have s1 : stepE [stN] [] (stN, a) = 0 := by unfold stepE; simp [m1, f1, ha, getF]
  have s2 : stepE [stN] ([] ++ [(stN, a)]) (clN, b) = 0 := by unfold stepE; simp [m2, n2, f2, hb]
  rw [walkE, if_pos s1, walkE, if_pos s2, walkE]
theorem two_fst (a b : ByteArray) : fstV stN [(stN, a), (clN, b)] = a := by kernel_rfl
theorem two_cl (a b : ByteArray) : getF clN [(stN, a), (clN, b)] = some b := by kernel_rfl
theorem two_other (a b : ByteArray) : [((stN, a) : El), (clN, b)].any (otherB b) = false := by
  have h1 : otherB b (stN, a) = false := by kernel_rfl
  have h2 : otherB b (clN, b) = false := by unfold otherB; simp
  simp [h1, h2]
theorem two_length {a : ByteArray} (v : Nat) (hv : v < 1000000) : lengthF [(stN, a), (clN, dgB v)] = ((v : Int), 0) := by
  unfold lengthF
  rw [two_cl]
  simp only
  rw [two_other, dgB_ok, dgB_val v hv]
  have := dgB_size v
  rw [if_neg (by simp; omega)]
theorem two_response {a : ByteArray} (v : Nat) (ha : valueOK a = true) (hs : badSt a = false) : responseF [(stN, a), (clN, dgB v)] = 0 := by
  unfold responseF
  rw [if_pos (two_walk ha (value_dgB v)), two_fst, hs]; rfl
theorem status_dg : ∀ k, k < 400 → badSt (dgB (200 + k)) = false := by decide +kernel
/-- A status and a length, and nothing more. -/
theorem two_headers (m : ByteArray) (st v : Nat) (h1 : 200 ≤ st) (h2 : st ≤ 599) (h3 : v < 1000000) (en : Bool) :
    headersP m st0 en [(stN, dgB st), (clN, dgB v)] =
      (toldP m ⟨st, delSt [(stN, dgB st), (clN, dgB v)], [], v, 0, false, false⟩ en 0, if toldP m ⟨st, delSt [(stN, dgB st), (clN, dgB v)], [], v, 0, false, false⟩ en 0 = 0 then ⟨st, delSt [(stN, dgB st), (clN, dgB v)], [], v, 0, en, false⟩ else st0.bad) := by
  have hb := status_dg (st - 200) (by omega)
  rw [show 200 + (st - 200) = st by omega] at hb
  have hst : stOf [(stN, dgB st), (clN, dgB v)] = (st : Int) := by unfold stOf; rw [two_fst, dgB_val st (by omega)]
  unfold headersP
  rw [if_neg (by decide), if_neg (by decide), if_pos (two_response v (value_dgB st) hb), hst, if_neg (by omega), two_length v h3]
  unfold St.first
  rw [hst, two_length v h3]
  rfl
end Go.Proofs.YtfejfaldjfichaaDoor
