/- A request, opened; what its bulk bounds. -/
import Derived.Test.YtfejfaldjfichaaDoorLOpen
import Derived.Test.YtfejfaldjfichaaDoorMsgG
import Derived.Test.YtfejfaldjfichaaDoorMsgH
import Derived.Deep.DeepHandedRow
namespace Go.Proofs.YtfejfaldjfichaaDoor
open Go.ChangeShapes Go.WideShapes Go.ChangeAt Go.RowKit Go.Hp

set_option maxRecDepth 100000
theorem bulk_one {H : Type} (d : DataW H) : 1 ≤ Rows.uptoBulk d := by
  cases d with
  | lit l => cases l <;> simp [Rows.uptoBulk]
  | nil => simp [Rows.uptoBulk]
  | ptr d => simp [Rows.uptoBulk]
  | slice elems spare => simp [Rows.uptoBulk]
  | agg parts => simp [Rows.uptoBulk]
  | iface t d => simp [Rows.uptoBulk]
  | map entries => simp [Rows.uptoBulk]
  | held h => simp [Rows.uptoBulk]
theorem bulk_part {H : Type} {d : DataW H} {l : List (DataW H)} (h : d ∈ l) : Rows.uptoBulk d ≤ Rows.uptoBulkAll l := by
  induction l with
  | nil => cases h
  | cons x r ih =>
    simp only [Rows.uptoBulkAll]
    cases List.mem_cons.1 h with
    | inl e => subst e; omega
    | inr e => have := ih e; omega
theorem bulk_length {H : Type} (l : List (DataW H)) : l.length ≤ Rows.uptoBulkAll l := by
  induction l with
  | nil => simp [Rows.uptoBulkAll]
  | cons x r ih => have := bulk_one x; simp only [Rows.uptoBulkAll, List.length_cons]; omega
theorem bulk_el {H : Type} (y : El) : Rows.uptoBulk (elD y : DataW H) = y.1.size + y.2.size + 3 := by
  simp only [elD, Rows.uptoBulk, Rows.uptoBulkAll, Array.length_toList]
  show y.1.data.size + 1 + (y.2.data.size + 1 + 0) + 1 = y.1.data.size + y.2.data.size + 3
  omega
/-- Fields of a bulk at most N. -/
def FIn (N : Nat) (xs : List El) : Prop := xs.length ≤ N ∧ ∀ y ∈ xs, y.1.size ≤ N ∧ y.2.size ≤ N
theorem fin_of_bulk {H : Type} {xs : List El} {d : DataW H} {N : Nat} (h : (xs = [] ∧ d = .nil) ∨ ∃ sp, d = .slice (xs.map elD) sp) (hb : Rows.uptoBulk d ≤ N) : FIn N xs := by
  rcases h with ⟨rfl, _⟩ | ⟨sp, rfl⟩
  · exact ⟨Nat.zero_le _, fun y hy => by cases hy⟩
  · simp only [Rows.uptoBulk] at hb
    have h1 := bulk_length (xs.map (elD (H := H)))
    rw [List.length_map] at h1
    refine ⟨by omega, fun y hy => ?_⟩
    have h2 := bulk_part (List.mem_map_of_mem (f := elD (H := H)) hy)
    rw [bulk_el] at h2
    omega
section
variable {H : Type} {enc : TypeId × Value → H}
theorem trod_struct7 {P : Program} {w : World} {base : Nat} {spare : Nat → Bool} {held : Bool} {t : TypeId} {f0 f1 f2 f3 f4 f5 f6 : Field} {fuel : Nat} {cs : List Value} {x : DataW H × List MemPlace} (ht : P.underlying t = some (.struct #[f0, f1, f2, f3, f4, f5, f6])) (h : DataW.trod enc P w base spare held fuel t cs = some x) :
    ∃ y0 y1 y2 y3 y4 y5 y6 n, x.1 = .agg [y0.1, y1.1, y2.1, y3.1, y4.1, y5.1, y6.1] ∧ DataW.trod enc P w base spare held n f0.type ((cs.drop f0.offset).take (P.cellsOf f0.type)) = some y0 ∧ DataW.trod enc P w base spare held n f1.type ((cs.drop f1.offset).take (P.cellsOf f1.type)) = some y1 ∧ DataW.trod enc P w base spare held n f2.type ((cs.drop f2.offset).take (P.cellsOf f2.type)) = some y2 ∧ DataW.trod enc P w base spare held n f3.type ((cs.drop f3.offset).take (P.cellsOf f3.type)) = some y3 ∧ DataW.trod enc P w base spare held n f4.type ((cs.drop f4.offset).take (P.cellsOf f4.type)) = some y4 ∧ DataW.trod enc P w base spare held n f5.type ((cs.drop f5.offset).take (P.cellsOf f5.type)) = some y5 ∧ DataW.trod enc P w base spare held n f6.type ((cs.drop f6.offset).take (P.cellsOf f6.type)) = some y6 := by
  obtain ⟨xs, n, _, rfl, hl, hlen, hf⟩ := DataW.trod_struct ht h
  match xs, hlen with
  | [y0, y1, y2, y3, y4, y5, y6], _ => exact ⟨y0, y1, y2, y3, y4, y5, y6, n, rfl, by simpa using hf 0 f0 rfl, by simpa using hf 1 f1 rfl, by simpa using hf 2 f2 rfl, by simpa using hf 3 f3 rfl, by simpa using hf 4 f4 rfl, by simpa using hf 5 f5 rfl, by simpa using hf 6 f6 rfl⟩
theorem req_open {W : World} {fuel : Nat} {cs : Array Value} {x : DataW H × List MemPlace} (hcs : cs.size = 7) (h : DataW.trod enc Tryd.prog W 0 (fun _ => true) true fuel 34 cs.toList = some x) :
    ∃ (m s au p b : ByteArray) (fa : Option Addr) (fn fc : Nat) (ta : Option Addr) (tn tc : Nat) (F T : List El), cs = #[.string m, .string s, .string au, .string p, .slice fa fn fc, .string b, .slice ta tn tc] ∧ Rd W 2 fa fn fc (cells F) ∧ Rd W 2 ta tn tc (cells T) ∧
      ∀ N, Rows.uptoBulk x.1 ≤ N → m.size ≤ N ∧ s.size ≤ N ∧ au.size ≤ N ∧ p.size ≤ N ∧ b.size ≤ N ∧ FIn N F ∧ FIn N T := by
  have c9 : Tryd.prog.cellsOf 9 = 1 := by kernel_rfl
  have c32 : Tryd.prog.cellsOf 32 = 1 := by kernel_rfl
  obtain ⟨y0, y1, y2, y3, y4, y5, y6, n, hx, u0, u1, u2, u3, u4, u5, u6⟩ := trod_struct7 Tryd.underlying34 h
  obtain ⟨cl⟩ := cs
  match cl, hcs with
  | [v0, v1, v2, v3, v4, v5, v6], _ =>
    simp only [c9, c32, List.drop, List.take] at u0 u1 u2 u3 u4 u5 u6
    obtain ⟨s0, e0, g0, _⟩ := DataW.trod_string Tryd.underlying9 u0
    obtain ⟨s1, e1, g1, _⟩ := DataW.trod_string Tryd.underlying9 u1
    obtain ⟨s2, e2, g2, _⟩ := DataW.trod_string Tryd.underlying9 u2
    obtain ⟨s3, e3, g3, _⟩ := DataW.trod_string Tryd.underlying9 u3
    obtain ⟨s5, e5, g5, _⟩ := DataW.trod_string Tryd.underlying9 u5
    injection e0 with e0; injection e1 with e1; injection e2 with e2; injection e3 with e3; injection e5 with e5
    have sl : ∀ {v : Value} {z : DataW H × List MemPlace}, DataW.trod enc Tryd.prog W 0 (fun _ => true) true n 32 [v] = some z → ∃ la ln lc, v = .slice la ln lc := by
      intro v z u
      rcases Go.Deep.open_slice Tryd.underlying32 u with ⟨h0, _⟩ | ⟨ad, len, cap, _, _, _, _, h0, _⟩
      · injection h0 with h0; exact ⟨_, _, _, h0⟩
      · injection h0 with h0; exact ⟨_, _, _, h0⟩
    obtain ⟨fa, fn, fc, e4⟩ := sl u4
    obtain ⟨ta, tn, tc, e6⟩ := sl u6
    rw [e4] at u4; rw [e6] at u6
    obtain ⟨F, hF, hF2⟩ := fields_open2 u4
    obtain ⟨T, hT, hT2⟩ := fields_open2 u6
    refine ⟨s0, s1, s2, s3, s5, fa, fn, fc, ta, tn, tc, F, T, by rw [e0, e1, e2, e3, e4, e5, e6], hF, hT, fun N hN => ?_⟩
    rw [hx] at hN
    simp only [g0, g1, g2, g3, g5, Rows.uptoBulk, Rows.uptoBulkAll, Array.length_toList] at hN
    have hb4 := bulk_one y4.1
    have hb6 := bulk_one y6.1
    have k0 : s0.data.size = s0.size := rfl
    have k1 : s1.data.size = s1.size := rfl
    have k2 : s2.data.size = s2.size := rfl
    have k3 : s3.data.size = s3.size := rfl
    have k5 : s5.data.size = s5.size := rfl
    exact ⟨by omega, by omega, by omega, by omega, by omega, fin_of_bulk hF2 (by omega), fin_of_bulk hT2 (by omega)⟩
theorem mid_of_fin {m s au p : ByteArray} {F : List El} (h0 : m.size ≤ 1048576) (h1 : s.size ≤ 1048576) (h2 : au.size ≤ 1048576) (h3 : p.size ≤ 1048576) (hF : FIn 1048576 F) : Mid (headL m s au p ++ F) := by
  refine ⟨by rw [List.length_append]; have := hF.1; have e : (headL m s au p).length = 4 := rfl; omega, fun x hx => ?_⟩
  rcases List.mem_append.1 hx with hx | hx
  · simp only [headL, List.mem_cons, List.not_mem_nil, or_false] at hx
    rcases hx with rfl | rfl | rfl | rfl
    · exact ⟨by show (7 : Nat) ≤ _; omega, by show m.size ≤ _; omega⟩
    · exact ⟨by show (7 : Nat) ≤ _; omega, by show s.size ≤ _; omega⟩
    · exact ⟨by show (10 : Nat) ≤ _; omega, by show au.size ≤ _; omega⟩
    · exact ⟨by show (5 : Nat) ≤ _; omega, by show p.size ≤ _; omega⟩
  · have := hF.2 x hx; omega
theorem mid_fin {T : List El} (h : FIn 1048576 T) : Mid T := ⟨by have := h.1; omega, fun x hx => by have := h.2 x hx; omega⟩
end
/-- An input that fits, of a world that is shaped. -/
theorem witness_row {H : Type} {enc : TypeId × Value → H} {C : Checked} {os : Os} {f : FuncId} {fn : Func} {s : OpenSpec} {conds : List PathCond} {apart : Bool} {laid : List (String × DataW Unit)} (modest : Bool) (w0 : World) (args : Array Value) (hos : w0.os = os)
    (hsh : (w0.forCall (fun _ _ => 0) ⟨#[], args, []⟩).Shaped C.prog)
    (hok : Input.okWideB C.prog (w0.forCall (fun _ _ => 0) ⟨#[], args, []⟩) f ⟨#[], args, []⟩ = true)
    (hrow : s.preRow enc C.prog fn conds apart laid (w0.forCall (fun _ _ => 0) ⟨#[], args, []⟩).memory args) :
    ∃ (w : World) (tape : Tape) (i : Input), w.os = os ∧ (w.forCall tape i).Shaped C.prog ∧ i.vars = [] ∧ Input.okWide C.prog (w.forCall tape i) .any w.heap.size f i ∧
      s.preRow enc C.prog fn conds apart laid (w.forCall tape i).memory i.args ∧ ({ modest := modest } : Assume).holds C.prog (lone (Frame.enter C.prog f i.args .normal) [] (w.forCall tape i)) :=
  ⟨w0, fun _ _ => 0, ⟨#[], args, []⟩, hos, hsh, (Input.okWide_of_okWideB (base := 0) hok).1, (Input.okWide_of_okWideB hok).2, hrow, by
    simp only [Assume.holds]
    exact ⟨by simp, by simp, fun _ => Modest.zero, by simp, by simp⟩⟩
end Go.Proofs.YtfejfaldjfichaaDoor
