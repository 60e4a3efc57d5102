/- Messages: a number's digits. -/
import Derived.Test.YtfejfaldjfichaaDoorMsgV
import Derived.Laws.BytesArg
namespace Go.Proofs.YtfejfaldjfichaaDoor
open Go.RowKit Go.Hp
set_option maxRecDepth 100000

/-- Digits are put ahead, till nothing is left. -/
def dgAcc : Nat → Nat → List UInt8 → List UInt8
  | 0, _, acc => acc
  | f + 1, v, acc => if v = 0 ∧ acc ≠ [] then acc else dgAcc f (v / 10) (UInt8.ofNat (48 + v % 10) :: acc)
def dgB (v : Nat) : ByteArray := ⟨(dgAcc 6 v []).toArray⟩
theorem isDg_mod (v : Nat) : isDg (UInt8.ofNat (48 + v % 10)) = true := by
  have h : ∀ k, k < 10 → isDg (UInt8.ofNat (48 + k)) = true := by decide
  exact h _ (Nat.mod_lt _ (by omega))
theorem toNat_mod (v : Nat) : (UInt8.ofNat (48 + v % 10)).toNat - 48 = v % 10 := by
  have h : ∀ k, k < 10 → (UInt8.ofNat (48 + k)).toNat - 48 = k := by decide
  exact h _ (Nat.mod_lt _ (by omega))
theorem dgAcc_all : ∀ (f v : Nat) (acc : List UInt8), acc.all isDg = true → (dgAcc f v acc).all isDg = true
  | 0, _, _, h => h
  | f + 1, v, acc, h => by
    rw [dgAcc]
    split
    · exact h
    · exact dgAcc_all f _ _ (by rw [List.all_cons, isDg_mod, h]; rfl)
theorem dgAcc_len : ∀ (f v : Nat) (acc : List UInt8), (dgAcc f v acc).length ≤ f + acc.length
  | 0, _, _ => by simp [dgAcc]
  | f + 1, v, acc => by
    rw [dgAcc]
    split
    · omega
    · have := dgAcc_len f (v / 10) (UInt8.ofNat (48 + v % 10) :: acc)
      rw [List.length_cons] at this; omega
theorem decV_acc : ∀ (l : List UInt8) (a : Nat), decV l a = a * 10 ^ l.length + decV l 0
  | [], a => by simp [decV]
  | b :: l, a => by
    have h1 : decV (b :: l) a = decV l (a * 10 + (b.toNat - 48)) := rfl
    have h2 : decV (b :: l) 0 = decV l (0 * 10 + (b.toNat - 48)) := rfl
    rw [h1, h2, decV_acc l (a * 10 + (b.toNat - 48)), decV_acc l (0 * 10 + (b.toNat - 48)), List.length_cons, Nat.pow_succ]
    rw [Nat.zero_mul, Nat.zero_add, Nat.add_mul, Nat.mul_assoc, Nat.mul_comm 10 (10 ^ l.length)]; omega
theorem dgAcc_val : ∀ (f v : Nat) (acc : List UInt8), v < 10 ^ f → (f = 0 → acc ≠ []) → decV (dgAcc f v acc) 0 = v * 10 ^ acc.length + decV acc 0
  | 0, v, acc, h, _ => by
    have : v = 0 := by simpa using h
    subst this
    simp [dgAcc]
  | f + 1, v, acc, h, _ => by
    rw [dgAcc]
    split
    · rename_i h0
      rw [h0.1]; simp
    · rw [dgAcc_val f (v / 10) _ (by rw [Nat.pow_succ] at h; omega) (fun _ => by simp)]
      have h2 : decV (UInt8.ofNat (48 + v % 10) :: acc) 0 = decV acc (0 * 10 + ((UInt8.ofNat (48 + v % 10)).toNat - 48)) := rfl
      rw [h2, toNat_mod, decV_acc acc, List.length_cons, Nat.pow_succ, Nat.zero_mul, Nat.zero_add, ← Nat.add_assoc]
      congr 1
      rw [← Nat.mul_assoc, Nat.mul_comm (v / 10) (10 ^ acc.length), Nat.mul_assoc, Nat.mul_comm (10 ^ acc.length) (v / 10 * 10), ← Nat.add_mul]
      congr 1; omega
theorem dgAcc_ne : ∀ (f v : Nat) (acc : List UInt8), (f = 0 → acc ≠ []) → dgAcc f v acc ≠ []
  | 0, _, _, h => h rfl
  | f + 1, v, acc, _ => by
    rw [dgAcc]
    split
    · rename_i h; exact h.2
    · exact dgAcc_ne f _ _ (fun _ => by simp)
theorem dgB_ok (v : Nat) : dgOK (dgB v) = true := by
  unfold dgOK
  rw [ba_toList]
  have h1 := dgAcc_ne 6 v [] (by omega)
  have h2 := dgAcc_all 6 v [] rfl
  unfold dgB
  simp [h1, h2]
theorem dgB_val (v : Nat) (h : v < 1000000) : decV (dgB v).data.toList 0 = v := by
  have := dgAcc_val 6 v [] (by omega) (by omega)
  unfold dgB
  simpa [decV] using this
theorem dgB_size (v : Nat) : (dgB v).size ≤ 6 := by
  have := dgAcc_len 6 v []
  unfold dgB
  simpa [ByteArray.size] using this

theorem conv1 (W : World) (x : Int) : (convert 23 9 (.slice (some ⟨W.heap.size, 0, none⟩) 1 1)).run Tryd.prog (W.alloc (.cells #[.int .u8 x] 5)) = .ok (.string (strOfNums [x])) (W.alloc (.cells #[.int .u8 x] 5)) := by
  refine run_convert_bytes_arg _ 23 5 Tryd.underlying23 Tryd.underlying5 W.heap.size 0 1 1 [x] rfl (fun i hi => ?_) 9 Tryd.underlying9
  have hb := Bk.new W [.int .u8 x] 5
  rw [Nat.zero_add]
  match i, hi with
  | 0, _ => exact hb.cell 0

theorem cat_data (v : Nat) (d : ByteArray) : (strOfNums [48 + (v : Int) % 10] ++ d).data.toList = UInt8.ofNat (48 + v % 10) :: d.data.toList := by
  have e : (48 + (v : Int) % 10).toNat = 48 + v % 10 := by omega
  rw [ByteArray.data_append, Array.toList_append, strOfNums_data]
  simp [e]
theorem cat_size (v : Nat) (d : ByteArray) (h : d.size ≤ 100) : ¬ 9223372036854775807 < (strOfNums [48 + (v : Int) % 10]).size + d.size := by
  rw [strOfNums_size]; simp; omega
/-- Between two digits. -/
def DgI (v0 gg v : Nat) (d : ByteArray) : Prop := ∃ f, gg = f + 1 ∧ v < 10 ^ f ∧ v < 1000000 ∧ d.size + f ≤ 6 ∧ (f = 0 → d.data.toList ≠ []) ∧ dgAcc f v d.data.toList = dgAcc 6 v0 []
theorem DgI.start (v0 : Nat) (h : v0 < 1000000) : DgI v0 7 v0 ⟨#[]⟩ := ⟨6, rfl, by omega, h, by decide, by omega, rfl⟩
theorem DgI.size {v0 gg v : Nat} {d : ByteArray} (h : DgI v0 gg v d) : d.size ≤ 100 := by obtain ⟨f, _, _, _, h, _⟩ := h; omega
theorem DgI.lt {v0 gg v : Nat} {d : ByteArray} (h : DgI v0 gg v d) : v < 1000000 := by obtain ⟨f, _, _, h, _⟩ := h; exact h
theorem DgI.step {v0 gg v : Nat} {d : ByteArray} (h : DgI v0 gg v d) (hc : v = 0 → d.data.toList = []) : 1 < gg ∧ DgI v0 (gg - 1) (v / 10) (strOfNums [48 + (v : Int) % 10] ++ d) := by
  obtain ⟨f, rfl, h1, h2, h3, h4, h5⟩ := h
  cases f with
  | zero =>
    have : v = 0 := by simpa using h1
    exact absurd (hc this) (h4 rfl)
  | succ f =>
    refine ⟨by omega, f, by omega, by rw [Nat.pow_succ] at h1; omega, by omega, ?_, fun _ => by rw [cat_data]; simp, ?_⟩
    · have := congrArg List.length (cat_data v d)
      simp at this
      have e : ∀ x : ByteArray, x.size = x.data.toList.length := fun x => by simp
      have e1 := e (strOfNums [48 + (v : Int) % 10] ++ d)
      rw [cat_data, List.length_cons, ← e d] at e1
      omega
    · rw [cat_data, ← h5, dgAcc, if_neg (fun h => h.2 (hc h.1))]
theorem DgI.done {v0 gg : Nat} {d : ByteArray} (h : DgI v0 gg 0 d) (hc : d.data.toList ≠ []) : d = dgB v0 := by
  obtain ⟨f, rfl, h1, h2, h3, h4, h5⟩ := h
  apply ba_ext
  unfold dgB
  simp only
  rw [← h5]
  cases f with
  | zero => rfl
  | succ f => rw [dgAcc, if_pos ⟨rfl, hc⟩]

set_option maxHeartbeats 1000000 in
theorem digits_of_calls (v0 : Nat) (w : World) (hv : v0 < 1000000) : Calls Tryd.prog 9 #[.int .i64 v0] w fun e w' => e = .returned (.string (dgB v0)) ∧ Fr No w w' := by
  have hcv := conv1
  go_enter Tryd.func9, Tryd.ntmps9
  go_wp2
  go_loopg [0, 3] 7 (fun gg iv dv wr => ∃ (g v : Nat) (d : ByteArray), g = gg ∧ iv = .int .i64 v ∧ dv = .string d ∧ DgI v0 g v d ∧ Fr No w wr)
  case atStart => exact ⟨7, v0, ⟨#[]⟩, rfl, rfl, rfl, DgI.start v0 hv, Fr.refl _ _⟩
  case round =>
    obtain ⟨g, v, d, rfl, rfl, rfl, hdg, hfr⟩ := hrel
    have HDG := Lib.hid hdg
    have HFR := Lib.hid hfr
    have hvm := hdg.lt
    have hcat := cat_size v d hdg.size
    clear hfr hdg
    have b0 : (0 : Int) ≤ (v : Int) := by omega
    by_cases hv0 : 0 < v
    · have b1 : (0 : Int) < (v : Int) := by omega
      have HST := Lib.hid (HDG.out.step (by omega))
      go_wp2
      go_roundg (g - 1)
      case rel => exact ⟨g - 1, v / 10, _, rfl, by go_num, rfl, HST.out.2, HFR.out.alloc _⟩
      case measure => have := HST.out.1; omega
    · obtain rfl : v = 0 := by omega
      cases he : d.toList.isEmpty with
      | true =>
        have HST := Lib.hid (HDG.out.step (fun _ => by rw [ba_toList] at he; simpa using he))
        go_wp2
        go_roundg (g - 1)
        case rel => exact ⟨g - 1, 0, _, rfl, by first | rfl | go_num, rfl, HST.out.2, HFR.out.alloc _⟩
        case measure => have := HST.out.1; omega
      | false =>
        have HD := Lib.hid (HDG.out.done (by rw [ba_toList] at he; simpa using he))
        go_wp2
        go_ret
        exact ⟨by rw [← HD.out]; rfl, HFR.out⟩
end Go.Proofs.YtfejfaldjfichaaDoor
