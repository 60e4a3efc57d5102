/- The table of headers: what its reading methods answer. -/
import Derived.Test.YtofdfmbbnchcoaaTab1
import Derived.Laws.ResultCell
namespace Go.Proofs.Ytofdfmbbnchcoaa
open Go.RowKit Go.Hp
set_option maxRecDepth 100000
attribute [local go_sem high] eqF

def sumE (l : List El) : Int := (l.map costE).sum
/-- A table at block q: its fields l, in block r. -/
def TAt (w : World) (q : Nat) (r : Option Nat) (l : List El) (size : Int) : Prop :=
  ∃ a c, Bk w q [.slice a l.length c, .int .i64 size, .int .i64 (sumE l)] 56 ∧ Row w 28 2 a l.length c r (cells l)
/-- The document's table. -/
def RAt (w : World) (q : Nat) (r : Option Nat) (l : List El) (size : Int) : Prop :=
  ∃ a c, Bk w q [.int .i64 size, .slice a l.length c] 37 ∧ Row w 28 2 a l.length c r (cells l)
/-- What may have changed. -/
def TStep (w : World) (q : Nat) (r : Option Nat) (w' : World) (r' : Option Nat) : Prop :=
  (r' = r ∨ ∃ b, r' = some b ∧ w.heap.size ≤ b) ∧ Fr (fun b => b = q ∨ some b = r) w w'
section
variable {w w' : World} {q : Nat} {r : Option Nat} {l : List El} {size : Int} {S : Nat → Prop}
theorem TAt.fr (h : TAt w q r l size) (hf : Fr S w w') (h1 : ¬ S q) (h2 : ∀ b, r = some b → ¬ S b) : TAt w' q r l size := by
  obtain ⟨a, c, hb, hr⟩ := h; exact ⟨a, c, hb.fr hf h1, hr.fr hf h2⟩
theorem TAt.no (h : TAt w q r l size) (hf : Fr No w w') : TAt w' q r l size := h.fr hf (fun h => h) (fun _ _ h => h)
theorem RAt.fr (h : RAt w q r l size) (hf : Fr S w w') (h1 : ¬ S q) (h2 : ∀ b, r = some b → ¬ S b) : RAt w' q r l size := by
  obtain ⟨a, c, hb, hr⟩ := h; exact ⟨a, c, hb.fr hf h1, hr.fr hf h2⟩
theorem RAt.no (h : RAt w q r l size) (hf : Fr No w w') : RAt w' q r l size := h.fr hf (fun h => h) (fun _ _ h => h)
end

theorem tnil : ∀ (w : World) (a : Addr), (binOp .eql 24 (.pointer (some a)) (.pointer none)).run Try.prog w = .ok (.bool false) w := fun _ _ => by kernel_rfl
theorem tnil2 : ∀ (w : World), (binOp .eql 24 (.pointer none) (.pointer none)).run Try.prog w = .ok (.bool true) w := fun _ => by kernel_rfl

theorem size_calls (q : Nat) (r : Option Nat) (l : List El) (size : Int) (w : World) (h : TAt w q r l size) :
    Calls Try.prog 9 #[.pointer (some ⟨q, 0, none⟩)] w fun e w' => e = .returned (.int .i64 size) ∧ w = w' := by
  obtain ⟨a, c, hb, hr⟩ := h
  have c0 : w.cell? ⟨q, 1, none⟩ = some (.int .i64 size) := hb.cell 1
  go_enter Try.func9, Try.ntmps9
  go_wp2
  go_ret
  exact ⟨rfl, rfl⟩
theorem used_calls (q : Nat) (r : Option Nat) (l : List El) (size : Int) (w : World) (h : TAt w q r l size) :
    Calls Try.prog 10 #[.pointer (some ⟨q, 0, none⟩)] w fun e w' => e = .returned (.int .i64 (sumE l)) ∧ w = w' := by
  obtain ⟨a, c, hb, hr⟩ := h
  have c0 : w.cell? ⟨q, 2, none⟩ = some (.int .i64 (sumE l)) := hb.cell 2
  go_enter Try.func10, Try.ntmps10
  go_wp2
  go_ret
  exact ⟨rfl, rfl⟩
theorem all_calls (q : Nat) (r : Option Nat) (l : List El) (size : Int) (w : World) (h : TAt w q r l size) (hl : l.length ≤ 1000000) :
    Calls Try.prog 11 #[.pointer (some ⟨q, 0, none⟩)] w (Fresh w l.length l) := by
  obtain ⟨a, c, hb, hr⟩ := h
  have c0 : w.cell? ⟨q, 0, none⟩ = some (.slice a l.length c) := hb.cell 0
  have HC := Lib.hid (clone_calls a l.length c l w hr.rd (by omega))
  go_enter Try.func11, Try.ntmps11
  go_wp2_with fail
  refine HC.out.mono ?_
  rintro e w' ⟨a', c', r', rfl, h1, h2, h3⟩
  go_wp2
  go_ret
  exact ⟨a', c', r', rfl, h1, h2, h3⟩
theorem all_nil (w : World) : Calls Try.prog 11 #[.pointer none] w fun e w' => e = .returned (.slice none 0 0) ∧ w = w' := by
  go_enter Try.func11, Try.ntmps11
  go_wp2
  go_ret
  exact ⟨rfl, rfl⟩
theorem size_nil (w : World) : Calls Try.prog 9 #[.pointer none] w fun e w' => e = .returned (.int .i64 0) ∧ w = w' := by
  go_enter Try.func9, Try.ntmps9
  go_wp2
  go_ret
  exact ⟨rfl, rfl⟩
theorem used_nil (w : World) : Calls Try.prog 10 #[.pointer none] w fun e w' => e = .returned (.int .i64 0) ∧ w = w' := by
  go_enter Try.func10, Try.ntmps10
  go_wp2
  go_ret
  exact ⟨rfl, rfl⟩

/-- A pointer to a table, or none; its fields. -/
def Tabs (w : World) (l : List El) (p : Value) : Prop := (p = .pointer none ∧ l = []) ∨ ∃ q r size, p = .pointer (some ⟨q, 0, none⟩) ∧ TAt w q r l size
theorem Tabs.all {w : World} {l : List El} {p : Value} (h : Tabs w l p) (hl : l.length ≤ 1000000) : Calls Try.prog 11 #[p] w (Fresh w l.length l) := by
  rcases h with ⟨rfl, rfl⟩ | ⟨q, r, size, rfl, h⟩
  · exact (all_nil w).mono fun e w' ⟨h1, h2⟩ => by subst h2; exact ⟨none, 0, none, h1, Row.nil _ _ _, (fun _ h => by cases h), Fr.refl _ _⟩
  · exact all_calls q r l size w h hl
theorem Tabs.no {w w' : World} {l : List El} {p : Value} (h : Tabs w l p) (hf : Fr No w w') : Tabs w' l p := by
  rcases h with h | ⟨q, r, size, rfl, h⟩
  · exact .inl h
  · exact .inr ⟨q, r, size, rfl, h.no hf⟩

theorem whole_calls (p : Value) (l : List El) (w : World) (h : Tabs w l p) (hl : l.length ≤ 1000000) :
    Calls Try.prog 26 #[p] w (Fresh w (16 + l.length) (fixedL ++ l)) := by
  obtain ⟨i0, hi0, hz0, hz1, hz2⟩ := info_parts infoE
  have HT := Lib.hid h
  clear h
  go_enter Try.func26, Try.ntmps26
  go_wp2_with fail
  refine (always_calls w).mono ?_
  rintro e w1 ⟨a1, c1, r1, rfl, h1, hb1, hf1⟩
  have H1 := Lib.hid h1
  clear h1
  go_wp2_with fail
  refine ((HT.out.no hf1).all hl).mono ?_
  rintro e w2 ⟨a2, c2, r2, rfl, h2, hb2, hf2⟩
  have H2 := Lib.hid h2
  clear h2
  go_wp2_with (at_builtin; refine wpList_app _ rfl (.tmp 3) (.tmp 5) 33 rfl 28 i0 (.agg #[.string ⟨#[]⟩, .string ⟨#[]⟩]) 2 32 Try.underlying33 hi0 hz0 hz1 hz2 rfl a1 16 c1 rfl r1 (cells fixedL) (H1.out.no hf2) a2 l.length c2 rfl (cells l) H2.out.rd (cells_one l) (by omega) (by omega) ?hK)
  intro a' c' r' w' hA
  go_wp2
  go_ret
  have hs1 := hf1.size; have hs2 := hf2.size
  refine ⟨a', c', r', rfl, by rw [cells_append]; exact hA.1, fun k hk => ?_, (hf1.then_ hf2).trans hA.fr (fun b hb h => absurd (hb1 b h.symm) (by omega))⟩
  rcases hA.rr with e | ⟨e, _⟩
  · exact hb1 k (e ▸ hk)
  · rw [e] at hk; injection hk with hk; omega

theorem new_res (w : World) : Bk (w.alloc (.cells #[.string ⟨#[]⟩, .string ⟨#[]⟩] 28)) w.heap.size [.string ⟨#[]⟩, .string ⟨#[]⟩] 28 := Bk.new w [.string ⟨#[]⟩, .string ⟨#[]⟩] 28

/-- At a place that is none. -/
theorem at_out (p : Value) (l : List El) (i : Int) (w : World) (h : Tabs w l p) (hl : l.length ≤ 1000000) (hi : i < 1 ∨ (16 + l.length : Nat) < i) :
    Calls Try.prog 7 #[p, .int .i64 i] w fun e w' => e = .returned (.tuple #[vE z0, .bool false]) ∧ Fr No w w' := by
  have HW := Lib.hid (fun o => whole_calls p l (w.alloc o) (h.no ((Fr.refl No w).alloc o)) hl)
  clear h
  go_enter Try.func7, Try.ntmps7
  go_wp2_with fail
  refine (HW.out _).mono ?_
  rintro e w1 ⟨a1, c1, r1, rfl, h1, hb1, hf1⟩
  obtain ⟨nl, hnl⟩ : ∃ nl, 16 + l.length = nl := ⟨_, rfl⟩
  rw [hnl] at hi h1 ⊢
  have hb : Bk w1 w.heap.size [.string ⟨#[]⟩, .string ⟨#[]⟩] 28 := (new_res w).no hf1
  have d0 := hb.cell 0; have d1 := hb.cell 1; have e0 := hb.frozen 0; have e1 := hb.frozen 1
  have hF : Fr No w w1 := ((Fr.refl No w).alloc _).then_ hf1
  clear hf1 h1 hnl
  have hz : Bk ((w1.setCell ⟨w.heap.size, 0, none⟩ (.string ⟨#[]⟩)).setCell ⟨w.heap.size, 1, none⟩ (.string ⟨#[]⟩)) w.heap.size [.string ⟨#[]⟩, .string ⟨#[]⟩] 28 := (hb.set 0 _).set 1 _
  have y0 := hz.cell 0; have y1 := hz.cell 1
  have hF2 := (hF.setCell (a := ⟨w.heap.size, 0, none⟩) (.inr (Nat.le_refl _)) (.string ⟨#[]⟩)).setCell (a := ⟨w.heap.size, 1, none⟩) (.inr (Nat.le_refl _)) (.string ⟨#[]⟩)
  have HF2 := Lib.hid hF2
  clear hF2 hF hb hz
  by_cases h0 : i < 1
  · go_wp2
    (try simp only [Exit.inBlock, Exit.then])
    exact bodyPost_ret (v := .tuple #[vE z0, .bool false]) (by rw [results_cell_tmp rfl]; go_simp; rfl) rfl ⟨rfl, HF2.out⟩
  · have h2 : (nl : Int) < i := by omega
    go_wp2
    (try simp only [Exit.inBlock, Exit.then])
    exact bodyPost_ret (v := .tuple #[vE z0, .bool false]) (by rw [results_cell_tmp rfl]; go_simp; rfl) rfl ⟨rfl, HF2.out⟩

/-- At a place. -/
theorem at_in (p : Value) (l : List El) (k : Nat) (w : World) (h : Tabs w l p) (hl : l.length ≤ 1000000) (hk : k < 16 + l.length) :
    Calls Try.prog 7 #[p, .int .i64 ((k : Int) + 1)] w fun e w' => e = .returned (.tuple #[vE (nth (fixedL ++ l) k), .bool true]) ∧ Fr No w w' := by
  have HW := Lib.hid (fun o => whole_calls p l (w.alloc o) (h.no ((Fr.refl No w).alloc o)) hl)
  clear h
  obtain ⟨x, hx⟩ : ∃ x, nth (fixedL ++ l) k = x := ⟨_, rfl⟩
  rw [hx]
  obtain ⟨x0, x1⟩ := x
  have HX := Lib.hid hx
  clear hx
  go_enter Try.func7, Try.ntmps7
  go_wp2_with fail
  refine (HW.out _).mono ?_
  rintro e w1 ⟨a1, c1, r1, rfl, h1, hb1, hf1⟩
  have hlen : (fixedL ++ l).length = 16 + l.length := by rw [List.length_append]; rfl
  have gx := cells_get (fixedL ++ l) k (by omega)
  obtain ⟨nl, hnl⟩ : ∃ nl, 16 + l.length = nl := ⟨_, rfl⟩
  rw [hnl] at hk h1 ⊢
  rw [HX.out] at gx
  have hle := h1.le; have hca := h1.capLe
  obtain ⟨g, off, rfl, hc⟩ := h1.rd.cell gx.1
  obtain ⟨g2, off2, e2, hd⟩ := h1.rd.cell gx.2
  injection e2 with e2; injection e2 with e2 e3; subst e2; subst e3
  rw [← Nat.add_assoc] at hd
  have hb : Bk w1 w.heap.size [.string ⟨#[]⟩, .string ⟨#[]⟩] 28 := (new_res w).no hf1
  have d0 := hb.cell 0; have d1 := hb.cell 1; have e0 := hb.frozen 0; have e1 := hb.frozen 1
  have hF : Fr No w w1 := ((Fr.refl No w).alloc _).then_ hf1
  have hz : Bk ((w1.setCell ⟨w.heap.size, 0, none⟩ (.string x0)).setCell ⟨w.heap.size, 1, none⟩ (.string x1)) w.heap.size [.string x0, .string x1] 28 := (hb.set 0 _).set 1 _
  have y0 := hz.cell 0; have y1 := hz.cell 1
  have hF2 := (hF.setCell (a := ⟨w.heap.size, 0, none⟩) (.inr (Nat.le_refl _)) (.string x0)).setCell (a := ⟨w.heap.size, 1, none⟩) (.inr (Nat.le_refl _)) (.string x1)
  have HF2 := Lib.hid hF2
  clear hF2 hF hb hz hf1 h1 hnl hlen gx
  have b0 : ¬ ((k : Int) + 1 < 1) := by omega
  have b1 : ¬ ((nl : Int) < (k : Int) + 1) := by omega
  have b2 : IntKind.i64.wrap ((k : Int) + 1 - 1) = (k : Int) := by rw [IntWalk.i64_in _ (by omega)]; omega
  have b3 : (0 : Int) ≤ (k : Int) := by omega
  have b4 : (k : Int) < (nl : Int) := by omega
  go_wp2
  (try simp only [Exit.inBlock, Exit.then])
  exact bodyPost_ret (v := .tuple #[vE (x0, x1), .bool true]) (by rw [results_cell_tmp rfl]; go_simp; rfl) rfl ⟨rfl, HF2.out⟩
end Go.Proofs.Ytofdfmbbnchcoaa
