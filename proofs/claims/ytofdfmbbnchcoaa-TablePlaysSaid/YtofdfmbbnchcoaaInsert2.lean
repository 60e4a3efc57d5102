/- slices.Insert at the head, one element: every way; slices.Delete of one element (Fields). -/
import Derived.Test.YtofdfmbbnchcoaaInsert
namespace Go.Proofs.Ytofdfmbbnchcoaa
open Go.RowKit Go.Hp
set_option maxRecDepth 100000

theorem insert_empty (a : Option Addr) (c vb : Nat) (r : Option Nat) (ks : List Value) (w : World) (hr : Row w 28 2 a 0 c r []) (hv : Bk w vb ks 28) (hkl : ks.length = 2) (h1k : ∀ u ∈ ks, u.oneCell' = true) :
    Calls Try.prog 25 #[.slice a 0 c, .int .i64 0, .slice (some ⟨vb, 0, none⟩) 1 1] w (InsQ w 1 r ks) := by
  obtain ⟨i0, hi0, hz0, hz1, hz2⟩ := info_parts infoE
  have hr1 : Rd w 2 (some ⟨vb, 0, none⟩) 1 1 ks := (show Row w 28 2 (some ⟨vb, 0, none⟩) 1 1 (some vb) ks from ⟨by omega, Nat.le_refl _, by omega, (fun h => by cases h), .inr ⟨vb, 0, ks, rfl, rfl, hv, by omega, by rw [List.drop_zero, Nat.one_mul, ← hkl]; exact List.take_length⟩⟩).rd
  have c2 := hr.capLe
  have HR := Lib.hid hr
  rcases hr.2.2.2.2 with ⟨rfl, rfl⟩ | ⟨g, off, L, rfl, rfl, _⟩
  · clear hr
    cases a with
    | none =>
      go_enter Try.func25, Try.ntmps25
      go_wp2_with (at_builtin; refine wpList_app _ rfl (.tmp 23) (.tmp 24) 33 rfl 28 i0 (.agg #[.string ⟨#[]⟩, .string ⟨#[]⟩]) 2 32 Try.underlying33 hi0 hz0 hz1 hz2 rfl none 0 0 rfl none [] HR.out (some ⟨vb, 0, none⟩) 1 1 rfl ks hr1 h1k (by omega) (by omega) ?hK1)
      intro a' c' r' w' hA
      go_wp2
      go_ret
      simpa using App.ins hA (Fr.refl No w)
    | some ad =>
      go_enter Try.func25, Try.ntmps25
      go_wp2_with (at_builtin; refine wpList_app _ rfl (.tmp 23) (.tmp 24) 33 rfl 28 i0 (.agg #[.string ⟨#[]⟩, .string ⟨#[]⟩]) 2 32 Try.underlying33 hi0 hz0 hz1 hz2 rfl (some ad) 0 0 rfl none [] HR.out (some ⟨vb, 0, none⟩) 1 1 rfl ks hr1 h1k (by omega) (by omega) ?hK2)
      intro a' c' r' w' hA
      go_wp2
      go_ret
      simpa using App.ins hA (Fr.refl No w)
  · clear hr
    go_enter Try.func25, Try.ntmps25
    go_wp2_with (at_builtin; refine wpList_app _ rfl (.tmp 23) (.tmp 24) 33 rfl 28 i0 (.agg #[.string ⟨#[]⟩, .string ⟨#[]⟩]) 2 32 Try.underlying33 hi0 hz0 hz1 hz2 rfl (some ⟨g, off, none⟩) 0 c rfl (some g) [] HR.out (some ⟨vb, 0, none⟩) 1 1 rfl ks hr1 h1k (by omega) (by omega) ?hK3)
    intro a' c' r' w' hA
    go_wp2
    go_ret
    simpa using App.ins hA (Fr.refl No w)

/-- Every way. -/
theorem insert_calls (a : Option Addr) (n c vb : Nat) (r : Option Nat) (cs ks : List Value) (w : World) (hr : Row w 28 2 a n c r cs) (hv : Bk w vb ks 28) (hkl : ks.length = 2) (hne : r ≠ some vb)
    (h1c : ∀ u ∈ cs, u.oneCell' = true) (h1k : ∀ u ∈ ks, u.oneCell' = true) (hby : (n + 1) * 32 ≤ 140737488355328) :
    Calls Try.prog 25 #[.slice a n c, .int .i64 0, .slice (some ⟨vb, 0, none⟩) 1 1] w (InsQ w (n + 1) r (ks ++ cs)) := by
  rcases Nat.eq_zero_or_pos n with h0 | h0
  · subst h0
    obtain rfl : cs = [] := List.eq_nil_of_length_eq_zero (by have := hr.len; omega)
    simpa using insert_empty a c vb r ks w hr hv hkl h1k
  · rcases hr.2.2.2.2 with ⟨_, h1⟩ | ⟨g, off, L, rfl, rfl, h1, h2, h3⟩
    · have := hr.le; omega
    · by_cases hroom : n + 1 ≤ c
      · exact insert_shift g off n c vb L cs ks w h0 hroom hr.capLe h1 h2 h3 hv hkl (fun h => hne (by rw [h])) h1c h1k
      · exact insert_grow g off n c vb cs ks w h0 (by omega) hr.rd hv hkl h1c h1k hby _
end Go.Proofs.Ytofdfmbbnchcoaa
