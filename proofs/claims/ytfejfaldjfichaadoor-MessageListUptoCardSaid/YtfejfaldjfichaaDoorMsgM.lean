/- A map from texts to texts, by what it holds. -/
import Derived.Test.YtfejfaldjfichaaDoorMsgE
import Derived.Maps.StringElems
namespace Go.Proofs.YtfejfaldjfichaaDoor
open Go.RowKit Go.Hp
set_option maxRecDepth 100000

abbrev STR : TypeId := 9
abbrev MAPT : TypeId := 71
theorem str_law : Go.Maps.Keyed Tryd.prog STR := Go.Maps.string_keyed Tryd.underlying9
theorem zeroS (w : World) : (zeroValue STR).run Tryd.prog w = .ok (.string ⟨#[]⟩) w := by kernel_rfl
abbrev kOf (x : ByteArray) : Lit := .string x.data.toList

/-- Block b is a map of at most n entries that has f's texts. -/
def MapAt (w : World) (b n : Nat) (f : ByteArray → Option ByteArray) : Prop :=
  ∃ D : DataW Unit, w.ownsMap Tryd.prog STR (plainElem Tryd.prog STR) b n D ∧ ∀ x : ByteArray, Maps.has D (kOf x) = (f x).isSome ∧ D.atKey (kOf x) (.lit (.string [])) = .lit (.string (((f x).getD ⟨#[]⟩).data.toList))
theorem MapAt.lt {w : World} {b n : Nat} {f : ByteArray → Option ByteArray} (h : MapAt w b n f) : b < w.heap.size := by
  obtain ⟨D, h, _⟩ := h; exact h.lt
theorem MapAt.fr {w w' : World} {b n : Nat} {f : ByteArray → Option ByteArray} {S : Nat → Prop} (h : MapAt w b n f) (hf : Fr S w w') (hn : ¬ S b) : MapAt w' b n f := by
  have hl := h.lt
  obtain ⟨D, ⟨es, clock, hb, r⟩, h2⟩ := h
  exact ⟨D, ⟨es, clock, (hf.block b hl hn).trans hb, r⟩, h2⟩
theorem MapAt.no {w w' : World} {b n : Nat} {f : ByteArray → Option ByteArray} (h : MapAt w b n f) (hf : Fr No w w') : MapAt w' b n f := h.fr hf (fun h => h)
theorem MapAt.eq {w : World} {b n : Nat} {f g : ByteArray → Option ByteArray} (h : MapAt w b n f) (he : ∀ x, f x = g x) : MapAt w b n g := by
  obtain rfl : f = g := funext he
  exact h
theorem MapAt.made (w : World) : MapAt (w.alloc (.map #[] 0)) w.heap.size 0 (fun _ => none) :=
  ⟨.map [], World.ownsMap_made _ _ _ _, fun _ => ⟨rfl, rfl⟩⟩
theorem ba_ext {x y : ByteArray} (h : x.data.toList = y.data.toList) : x = y := by
  have h := Array.toList_inj.1 h
  cases x; cases y; simp_all
theorem MapAt.look {w : World} {b n : Nat} {f : ByteArray → Option ByteArray} (h : MapAt w b n f) (x : ByteArray) (hx : x.size ≤ 9223372036854775807) :
    (Instr.lookup MAPT (.map (some b)) (.string x) false).run Tryd.prog w = .ok (.string ((f x).getD ⟨#[]⟩)) w := by
  obtain ⟨D, h1, h2⟩ := h
  obtain ⟨v, ps, hrun, hv⟩ := h1.lookup str_law Tryd.underlying71 (zeroS w) (plainElem_string (s := ⟨#[]⟩) Tryd.underlying9 (by decide)) (WideMaps.keyOf_string_mk Tryd.underlying9 (by unfold maxLen; omega))
  obtain ⟨s, rfl, hz, _⟩ := plainElem_string_inv Tryd.underlying9 hv
  rw [hrun]
  have h3 := (h2 x).2
  have h4 : D.atKey (kOf x) (.lit (.string [])) = .lit (.string s.data.toList) := congrArg Prod.fst hz
  rw [h3] at h4
  injection h4 with h4; injection h4 with h4
  rw [ba_ext h4]
theorem MapAt.look_ok {w : World} {b n : Nat} {f : ByteArray → Option ByteArray} (h : MapAt w b n f) (x : ByteArray) (hx : x.size ≤ 9223372036854775807) :
    (Instr.lookup MAPT (.map (some b)) (.string x) true).run Tryd.prog w = .ok (.tuple #[.string ((f x).getD ⟨#[]⟩), .bool (f x).isSome]) w := by
  obtain ⟨D, h1, h2⟩ := h
  obtain ⟨v, ps, hrun, hv⟩ := h1.look_ok str_law Tryd.underlying71 (zeroS w) (plainElem_string (s := ⟨#[]⟩) Tryd.underlying9 (by decide)) (WideMaps.keyOf_string_mk Tryd.underlying9 (by unfold maxLen; omega))
  obtain ⟨s, rfl, hz, _⟩ := plainElem_string_inv Tryd.underlying9 hv
  rw [hrun]
  obtain ⟨h0, h3⟩ := h2 x
  have h4 : D.atKey (kOf x) (.lit (.string [])) = .lit (.string s.data.toList) := congrArg Prod.fst hz
  rw [h3] at h4
  injection h4 with h4; injection h4 with h4
  rw [ba_ext h4]
  have h0 : Maps.has D (Lit.string x.data.toList) = (f x).isSome := h0
  rw [h0]
theorem MapAt.put {w : World} {b n : Nat} {f : ByteArray → Option ByteArray} (h : MapAt w b n f) (x v : ByteArray) (hx : x.size ≤ 9223372036854775807) (hv : v.size ≤ 9223372036854775807) (hn : n < 9223372036854775807) :
    ∃ w', (Instr.mapUpdate MAPT (.map (some b)) (.string x) (.string v)).run Tryd.prog w = .ok () w' ∧ MapAt w' b (n + 1) (fun y => if y = x then some v else f y) ∧ Fr (fun k => k = b) w w' := by
  obtain ⟨D, h1, h2⟩ := h
  have hD := h1.isMap
  obtain ⟨w', hrun, ho, hg⟩ := h1.update str_law Tryd.underlying71 (by unfold maxLen; omega) (WideMaps.keyOf_string_mk Tryd.underlying9 (s := x) (by unfold maxLen; omega)) (plainElem_string Tryd.underlying9 (s := v) (by unfold maxLen; omega))
  refine ⟨w', hrun, ⟨_, ho, fun y => ?_⟩, (Fr.of_grownBy hg).mono (fun k _ h => by injection h)⟩
  simp only
  by_cases he : y = x
  · subst he
    rw [if_pos rfl]
    have hk : WideAt.IsKeyLit (kOf y) := trivial
    exact ⟨Maps.has_put_same hD hk _, Maps.atKey_put_same hD hk _ _⟩
  · rw [if_neg he]
    have hne : kOf y ≠ kOf x := fun h => he (ba_ext (by injection h))
    have e1 : Maps.has (D.put (kOf x) (.lit (.string v.data.toList))) (kOf y) = Maps.has D (kOf y) := Maps.has_put_other hne _
    have e2 : (D.put (kOf x) (.lit (.string v.data.toList))).atKey (kOf y) (.lit (.string [])) = D.atKey (kOf y) (.lit (.string [])) := Maps.atKey_put_other hne _ _
    rw [e1, e2]
    exact h2 y
end Go.Proofs.YtfejfaldjfichaaDoor
