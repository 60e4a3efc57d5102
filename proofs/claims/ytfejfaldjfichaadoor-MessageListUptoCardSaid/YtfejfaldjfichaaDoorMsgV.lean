/- Messages: the first call whose answer is fixed. -/
import Derived.Test.YtfejfaldjfichaaDoorMsgU
namespace Go.Proofs.YtfejfaldjfichaaDoor
open Go.RowKit Go.Hp
set_option maxRecDepth 100000

abbrev safeN : List ByteArray := [⟨#[71, 69, 84]⟩, ⟨#[72, 69, 65, 68]⟩, ⟨#[80, 85, 84]⟩, ⟨#[68, 69, 76, 69, 84, 69]⟩, ⟨#[79, 80, 84, 73, 79, 78, 83]⟩]
theorem safe_calls (m : ByteArray) (w : World) : Calls Tryd.prog 21 #[.string m] w fun e w' => e = .returned (.bool (memS safeN m)) ∧ Fr No w w' := by
  have HR := Lib.hid (Row.strs_new w STR safeN 5 rfl (by decide))
  have HF := Lib.hid ((Fr.refl No w).alloc (.cells (strs safeN).toArray STR))
  go_enter Tryd.func21, Tryd.ntmps21
  go_wp2_with fail
  refine (contains_str_calls _ 5 5 safeN m _ HR.out).mono ?_
  rintro e w' ⟨rfl, rfl⟩
  go_wp2
  go_ret
  exact ⟨rfl, HF.out⟩

theorem done_s (q : Nat) (m : ByteArray) (S : St) (rf rt : Option Nat) (w : World) (h : RdS w q m S rf rt) : Calls Tryd.prog 12 #[.pointer (some ⟨q, 0, none⟩)] w fun e w' => e = .returned (.bool S.dn) ∧ w = w' := by
  obtain ⟨fa, fc, ta, tc, h1, _⟩ := h
  exact done_calls q m _ S.br w (RdS.rdb h1)
theorem status_s (q : Nat) (m : ByteArray) (S : St) (rf rt : Option Nat) (w : World) (h : RdS w q m S rf rt) : Calls Tryd.prog 20 #[.pointer (some ⟨q, 0, none⟩)] w fun e w' => e = .returned (.int .i64 S.st) ∧ w = w' := by
  obtain ⟨fa, fc, ta, tc, h1, _⟩ := h
  exact status_calls q m _ S.br w (RdS.rdb h1)

abbrev bGET : ByteArray := ⟨#[71, 69, 84]⟩
abbrev bHTTP : ByteArray := ⟨#[104, 116, 116, 112]⟩
abbrev bA : ByteArray := ⟨#[97]⟩
abbrev bSlash : ByteArray := ⟨#[47]⟩
abbrev b200 : ByteArray := ⟨#[50, 48, 48]⟩
theorem alive_fields : fieldsE (headL bGET bHTTP bA bSlash ++ []) [] ⟨#[]⟩ = 0 := by kernel_rfl
theorem alive_mid : Mid (headL bGET bHTTP bA bSlash ++ []) := ⟨by decide, by decide⟩
theorem alive_head : headersP bGET st0 true [(stN, b200)] = (0, ⟨200, [], [], -1, 0, true, false⟩) := by kernel_rfl
/-- A list of fields that was just made. -/
theorem Rd.fields_new (w : World) (xs : List El) (n : Nat) (hn : n = xs.length) (h : n ≤ 9223372036854775807) : Rd (w.alloc (.cells (cells xs).toArray 30)) 2 (some ⟨w.heap.size, 0, none⟩) n n (cells xs) :=
  (Row.new w 30 2 n (cells xs) (by rw [cells_len, hn]) h).rd

set_option maxHeartbeats 2000000 in
theorem alive_calls (w : World) : Calls Tryd.prog 8 #[] w fun e w' => e = .returned (.bool true) ∧ Fr No w w' := by
  have hn := rnil2
  go_enter Tryd.func8, Tryd.ntmps8
  go_wp2_with fail
  refine (new_calls bGET w).mono ?_
  rintro e w1 ⟨rfl, hr1, hf1⟩
  have hS1 : RdS w1 w.heap.size bGET st0 none none := ⟨none, 0, none, 0, hr1.1, Row.nil _ _ _, Row.nil _ _ _⟩
  have hq1 : w.heap.size < w1.heap.size := hr1.1.lt
  obtain ⟨q, hq⟩ : ∃ q, w.heap.size = q := ⟨_, rfl⟩
  rw [hq] at hS1 hq1 ⊢
  have HQ := Lib.hid hq
  have HS1 := Lib.hid hS1
  have HF1 := Lib.hid hf1
  clear hr1 hf1 hS1 hq
  have hFC := fields_calls bGET bHTTP bA bSlash ⟨#[]⟩ none 0 0 none 0 0 [] [] w1 (Rd.nil _ _) (Rd.nil _ _) alive_mid ⟨by decide, by decide⟩
  rw [alive_fields] at hFC
  have HFC := Lib.hid hFC
  clear hFC
  go_wp2_with fail
  refine HFC.out.mono ?_
  rintro e w2 ⟨hf2, ⟨_, a2, c2, r2, rfl, hrow2, _⟩ | ⟨h, _⟩⟩
  · have HF2 := Lib.hid (HF1.out.then_ hf2)
    have HS2 := Lib.hid (HS1.out.no hf2)
    clear hf2 hrow2
    have HFA := Lib.hid ((Fr.refl No w2).alloc (.cells (cells [(stN, b200)]).toArray 30))
    have hH := headers_s q bGET st0 none none true (some ⟨w2.heap.size, 0, none⟩) 1 1 [(stN, b200)] _ (HS2.out.no HFA.out) (Rd.fields_new w2 [(stN, b200)] 1 rfl (by decide)) ⟨by decide, by decide⟩
    rw [alive_head] at hH
    have HH := Lib.hid hH
    clear hH
    rw [show (headL bGET bHTTP bA bSlash ++ ([] : List El)).length = 4 from rfl]
    go_wp2_with fail
    refine HH.out.mono ?_
    rintro e w3 ⟨rfl, rf3, rt3, hS3, hst3⟩
    have HS3 := Lib.hid hS3
    have HF3 := Lib.hid (Fr.trans_new (HF2.out.then_ HFA.out) hst3.2.2 (by have := HQ.out; omega))
    clear hS3 hst3
    go_wp2_with fail
    refine (done_s q bGET _ _ _ w3 HS3.out).mono ?_
    rintro e w4 ⟨rfl, rfl⟩
    go_wp2_with fail
    refine (status_s q bGET _ _ _ w3 HS3.out).mono ?_
    rintro e w4 ⟨rfl, rfl⟩
    go_wp2_with fail
    refine (safe_calls _ w3).mono ?_
    rintro e w5 ⟨rfl, hf5⟩
    have HF5 := Lib.hid (HF3.out.then_ hf5)
    clear hf5
    rw [show memS safeN ⟨#[80, 85, 84]⟩ = true from by decide]
    go_wp2_with fail
    refine (safe_calls _ w5).mono ?_
    rintro e w6 ⟨rfl, hf6⟩
    have HF6 := Lib.hid (HF5.out.then_ hf6)
    clear hf6
    rw [show memS safeN ⟨#[80, 79, 83, 84]⟩ = false from by decide]
    go_wp2
    go_ret
    exact ⟨rfl, HF6.out⟩
  · exact absurd rfl h
end Go.Proofs.YtfejfaldjfichaaDoor
