/- Plain laws on memory, the second part: copy, clear, append of zeros. -/
import Derived.Test.YtfejfaldjfichaaDoorHeap
import Derived.Lib.AppendZerosOnto
import Derived.Lib.Overlaps
namespace Go.Hp
open Go Go.RowKit
variable {P : Program}

theorem size_setCells (g : Nat) : ∀ (vs : List Value) (o : Nat) (w : World), (w.setCells g o vs).heap.size = w.heap.size
  | [], _, _ => rfl
  | v :: r, o, w => by simp only [World.setCells]; rw [size_setCells g r]; simp [World.setCell]

theorem row_blk {w : World} {e z : Nat} {a : Option Addr} {n c : Nat} {r : Option Nat} {cs : List Value} (h : Row w e z a n c r cs) {b : Nat} (hb : r = some b) : ∃ L, Bk w b L e := by
  rcases h.2.2.2.2 with ⟨h1, _⟩ | ⟨g, _, L, h1, _, h2, _⟩
  · rw [h1] at hb; cases hb
  · rw [h1] at hb; injection hb with hb; subst hb; exact ⟨L, h2⟩
theorem row_ne {w : World} {e e' z z' : Nat} {a a' : Option Addr} {n c n' c' : Nat} {r r' : Option Nat} {cs cs' : List Value} (h : Row w e z a n c r cs) (h' : Row w e' z' a' n' c' r' cs') (hne : e ≠ e') {b : Nat} (hb : r = some b) : r' ≠ some b := by
  intro hb'
  obtain ⟨_, h1⟩ := row_blk h hb
  obtain ⟨_, h2⟩ := row_blk h' hb'
  exact Bk.ne h1 h2 hne rfl
theorem row_nebk {w : World} {e z g T : Nat} {a : Option Addr} {n c : Nat} {r : Option Nat} {cs L : List Value} (h : Row w e z a n c r cs) (hg : Bk w g L T) (hne : e ≠ T) : r ≠ some g := by
  intro hb
  obtain ⟨_, h1⟩ := row_blk h hb
  exact Bk.ne h1 hg hne rfl
theorem zero_one {zc : Array Value} {n : Nat} (h : ∀ u ∈ zc.toList, u.oneCell' = true) : ∀ u ∈ (Builtin.zeroCells zc n).toList, u.oneCell' = true := by
  intro u hu
  simp only [Builtin.zeroCells, Array.toList_map, List.mem_map, Array.mem_toList_iff, Array.mem_range] at hu
  obtain ⟨k, hk, rfl⟩ := hu
  have hz : 0 < zc.size := by
    rcases Nat.eq_zero_or_pos zc.size with h0 | h0
    · rw [h0] at hk; omega
    · exact h0
  have hlt : k % zc.size < zc.size := Nat.mod_lt _ hz
  rw [getElem!_pos zc (k % zc.size) hlt]
  exact h _ (by simp)

/-- A row is shifted by one element, and another one is put at its head. -/
theorem ins_list {off z n c : Nat} {L cs ks L1 L2 : List Value} (hL : off + c * z ≤ L.length) (hroom : n + 1 ≤ c) (hcs : (L.drop off).take (n * z) = cs) (hkl : ks.length = z)
    (e1 : L1 = L.take (off + z) ++ cs ++ L.drop (off + z + n * z)) (e2 : L2 = L1.take off ++ ks ++ L1.drop (off + z)) : L2.length = L.length ∧ (L2.drop off).take ((n + 1) * z) = ks ++ cs := by
  have hz : (n + 1) * z ≤ c * z := Nat.mul_le_mul_right _ hroom
  have hz2 : (n + 1) * z = z + n * z := by rw [Nat.add_mul, Nat.one_mul, Nat.add_comm]
  have hcl : cs.length = n * z := by rw [← hcs, List.length_take, List.length_drop]; omega
  have hl1 : L1.length = L.length := by
    rw [e1]; simp only [List.length_append, List.length_take, List.length_drop]; omega
  refine ⟨?_, ?_⟩
  · rw [e2]; simp only [List.length_append, List.length_take, List.length_drop]; omega
  · have d1 : L1.drop (off + z) = cs ++ L.drop (off + z + n * z) := by
      rw [e1, List.append_assoc]
      exact List.drop_left' (by rw [List.length_take]; omega)
    rw [e2, List.append_assoc, List.drop_left' (by rw [List.length_take]; omega), d1, ← List.append_assoc]
    exact List.take_left' (by rw [List.length_append]; omega)

/-- A new row is filled: one element, then the others. -/
theorem grow_list {z n c' : Nat} {Lz L1 L2 cs ks : List Value} (hLz : Lz.length = c' * z) (hn : n + 1 ≤ c') (hcl : cs.length = n * z) (hkl : ks.length = z)
    (e1 : L1 = ks ++ Lz.drop z) (e2 : L2 = L1.take z ++ cs ++ L1.drop (z + n * z)) : L2.length = c' * z ∧ L2.take ((n + 1) * z) = ks ++ cs := by
  have hz : (n + 1) * z ≤ c' * z := Nat.mul_le_mul_right _ hn
  have hz2 : (n + 1) * z = z + n * z := by rw [Nat.add_mul, Nat.one_mul, Nat.add_comm]
  have hl1 : L1.length = c' * z := by rw [e1]; simp only [List.length_append, List.length_drop]; omega
  have t1 : L1.take z = ks := by rw [e1]; exact List.take_left' hkl
  refine ⟨by rw [e2]; simp only [List.length_append, List.length_take, List.length_drop]; omega, ?_⟩
  rw [e2, t1]
  exact List.take_left' (by rw [List.length_append]; omega)

/-- copy, of any element size. -/
theorem run_cpy (w : World) (dT sT ty e : TypeId) (i : TypeInfo) (z : Nat) (h1 : P.underlying dT = some (.slice e)) (h2 : P.info? e = some i) (h4 : i.size = z)
    (g off dn dc : Nat) (L : List Value) (T : TypeId) (hL : Bk w g L T) (ax : Option Addr) (m cx : Nat) (ks : List Value) (hk : Rd w z ax m cx ks) (hone : ∀ u ∈ ks.take (min m dn * z), u.oneCell' = true)
    (hfit : off + min m dn * z ≤ L.length) :
    (Builtin.copy_ #[dT, sT] ty #[.slice (some ⟨g, off, none⟩) dn dc, .slice ax m cx]).run P w = .ok (goInt ((min m dn : Nat) : Int)) (w.setCells g off (ks.take (min m dn * z))) := by
  have hmz : min m dn * z ≤ m * z := Nat.mul_le_mul_right _ (Nat.min_le_left _ _)
  have hlt : (ks.take (min m dn * z)).length = min m dn * z := by rw [List.length_take, hk.len]; omega
  have hfc : (Builtin.firstCells z (Nat.min m dn) (.slice ax m cx)).run P w = .ok (ks.take (min m dn * z)).toArray w := by
    rcases Nat.eq_zero_or_pos m with h0 | h0
    · subst h0
      cases ax with
      | none => rw [run_firstCells_none]; simp
      | some ad => exact run_firstCells_some w z _ ad _ _ _ hlt (by simp)
    · obtain ⟨g', o', rfl, _, hc⟩ := hk.2.2.2.2 h0
      refine run_firstCells_some w z _ _ _ _ _ hlt (fun j u hu => ?_)
      rw [Addr.add_lit]
      rw [List.getElem?_take] at hu
      split at hu
      · exact hc j u hu
      · cases hu
  have hst := run_storeCells_cells (P := P) g off (ks.take (min m dn * z)) 0 w (by
      intro j hj
      rw [hlt] at hj
      rw [hL.cell, List.getElem?_eq_getElem (by omega)]; rfl) (fun j _ => hL.frozen _) hone
  simp only [Nat.add_zero] at hst
  subst h4
  simp [Builtin.copy_, run_underlying h1, Builtin.lenOf, sizeOf, typeInfo, h2, hfc, hst]

theorem wpList_cpy (w : World) {ops : Array Oper} {rest : List Oper} {o : Oper} {b : Act} {Q : Exit → Act → World → Prop}
    (hg : o.guard = none) (d x : Operand) (dT sT : TypeId) (hop : o.op = Op.call { callee := Callee.builtin Builtin.copy, args := #[d, x], argTypes := #[dT, sT] })
    (e : TypeId) (i : TypeInfo) (z : Nat) (h1 : P.underlying dT = some (.slice e)) (h2 : P.info? e = some i) (h4 : i.size = z)
    (g off dn dc : Nat) (hd : b.eval d = .slice (some ⟨g, off, none⟩) dn dc) (L : List Value) (T : TypeId) (hL : Bk w g L T)
    (ax : Option Addr) (m cx : Nat) (hx : b.eval x = .slice ax m cx) (ks : List Value) (hk : Rd w z ax m cx ks) (hone : ∀ u ∈ ks.take (min m dn * z), u.oneCell' = true)
    (hfit : off + min m dn * z ≤ L.length)
    (hK : ∀ w' L', Hid (L' = L.take off ++ ks.take (min m dn * z) ++ L.drop (off + min m dn * z)) → Bk w' g L' T → Fr (fun k => k = g) w w' → w'.heap.size = w.heap.size → wpList P ops Q rest (b.put o.dst (goInt ((min m dn : Nat) : Int))) w') :
    wpList P ops Q (o :: rest) b w := by
  refine wpList_plain hg fun K hK' => ?_
  have hrun := run_cpy (P := P) w dT sT o.type e i z h1 h2 h4 g off dn dc L T hL ax m cx ks hk hone hfit
  have hmz : min m dn * z ≤ m * z := Nat.mul_le_mul_right _ (Nat.min_le_left _ _)
  have hlt : (ks.take (min m dn * z)).length = min m dn * z := by rw [List.length_take, hk.len]; omega
  have hb := Bk.cells (ks.take (min m dn * z)) off L w hL (by rw [hlt]; exact hfit)
  rw [hlt] at hb
  unfold Oper.wp
  simp [execOp, hop, resolve, invoke, builtin, hd, hx, hrun, Result.andThen]
  exact hK' _ _ (hK _ _ rfl hb (Fr.setCells (S := fun k => k = g) (g := g) (.inl rfl) _ _ _ (Fr.refl _ w)) (size_setCells _ _ _ _))

theorem step_cpy {ops : Array Oper} {o : Oper} {b : Act} {w : World} {K : Act → World → Prop} {Q : Exit → Act → World → Prop} {E : Prop}
    (hg : o.guard = none) (d x : Operand) (dT sT : TypeId) (hop : o.op = Op.call { callee := Callee.builtin Builtin.copy, args := #[d, x], argTypes := #[dT, sT] })
    (e : TypeId) (i : TypeInfo) (z : Nat) (h1 : P.underlying dT = some (.slice e)) (h2 : P.info? e = some i) (h4 : i.size = z)
    (g off dn dc : Nat) (hd : b.eval d = .slice (some ⟨g, off, none⟩) dn dc) (L : List Value) (T : TypeId) (hL : Bk w g L T)
    (ax : Option Addr) (m cx : Nat) (hx : b.eval x = .slice ax m cx) (ks : List Value) (hk : Rd w z ax m cx ks) (hone : ∀ u ∈ ks.take (min m dn * z), u.oneCell' = true)
    (hfit : off + min m dn * z ≤ L.length)
    (hK : ∀ w' L', Hid (L' = L.take off ++ ks.take (min m dn * z) ++ L.drop (off + min m dn * z)) → Bk w' g L' T → Fr (fun k => k = g) w w' → w'.heap.size = w.heap.size → K (b.put o.dst (goInt ((min m dn : Nat) : Int))) w') :
    if Region.wanted o (yielded ops b.tmps) = true then Oper.wp P o b w K Q else E := by
  have hw : Region.wanted o (yielded ops b.tmps) = true := by simp [Region.wanted, hg]
  rw [if_pos hw]
  have hrun := run_cpy (P := P) w dT sT o.type e i z h1 h2 h4 g off dn dc L T hL ax m cx ks hk hone hfit
  have hmz : min m dn * z ≤ m * z := Nat.mul_le_mul_right _ (Nat.min_le_left _ _)
  have hlt : (ks.take (min m dn * z)).length = min m dn * z := by rw [List.length_take, hk.len]; omega
  have hb := Bk.cells (ks.take (min m dn * z)) off L w hL (by rw [hlt]; exact hfit)
  rw [hlt] at hb
  unfold Oper.wp
  simp [execOp, hop, resolve, invoke, builtin, hd, hx, hrun, Result.andThen]
  exact hK _ _ rfl hb (Fr.setCells (S := fun k => k = g) (g := g) (.inl rfl) _ _ _ (Fr.refl _ w)) (size_setCells _ _ _ _)

/-- clear(s). -/
theorem wpList_clr (w : World) {ops : Array Oper} {rest : List Oper} {o : Oper} {b : Act} {Q : Exit → Act → World → Prop}
    (hg : o.guard = none) (d : Operand) (dT : TypeId) (hop : o.op = Op.call { callee := Callee.builtin Builtin.clear, args := #[d], argTypes := #[dT] })
    (e : TypeId) (i : TypeInfo) (zv : Value) (z : Nat) (h1 : P.underlying dT = some (.slice e)) (h2 : P.info? e = some i) (h3 : i.zero = some zv) (h6 : zv.cells.size = z) (hzo : ∀ u ∈ zv.cells.toList, u.oneCell' = true)
    (g off n c : Nat) (hd : b.eval d = .slice (some ⟨g, off, none⟩) n c) (L : List Value) (T : TypeId) (hL : Bk w g L T) (hfit : off + n * z ≤ L.length)
    (hK : ∀ w' zs L', Hid (zs.length = n * z) → Hid (L' = L.take off ++ zs ++ L.drop (off + n * z)) → Bk w' g L' T → Fr (fun k => k = g) w w' → w'.heap.size = w.heap.size → wpList P ops Q rest (b.put o.dst (.tuple #[])) w') :
    wpList P ops Q (o :: rest) b w := by
  refine wpList_plain hg fun K hK' => ?_
  have hzl : ((Builtin.zeroCells zv.cells n).toList).length = n * z := by rw [Array.length_toList, size_zeroCells, h6]
  have hst := run_storeCells_cells (P := P) g off (Builtin.zeroCells zv.cells n).toList 0 w (by
      intro j hj
      rw [hzl] at hj
      rw [hL.cell, List.getElem?_eq_getElem (by omega)]; rfl) (fun j _ => hL.frozen _) (zero_one hzo)
  simp only [Nat.add_zero] at hst
  have hb := Bk.cells (Builtin.zeroCells zv.cells n).toList off L w hL (by rw [hzl]; exact hfit)
  rw [hzl] at hb
  have hrun : (Builtin.clear_ #[dT] o.type #[.slice (some ⟨g, off, none⟩) n c]).run P w = .ok (.tuple #[]) (w.setCells g off (Builtin.zeroCells zv.cells n).toList) := by
    cases n with
    | zero =>
      simp only [Builtin.clear_, Builtin.zeroCells]
      simp [run_underlying h1, World.setCells]
    | succ n =>
      simp [Builtin.clear_, run_underlying h1, zeroValue, typeInfo, h2, h3, hst]
  unfold Oper.wp
  simp [execOp, hop, resolve, invoke, builtin, hd, hrun, Result.andThen]
  exact hK' _ _ (hK _ _ _ hzl rfl hb (Fr.setCells (S := fun k => k = g) (g := g) (.inl rfl) _ _ _ (Fr.refl _ w)) (size_setCells _ _ _ _))

/-- append(s[:0], make(S, k)...) without room. -/
theorem wpList_appz (w : World) {ops : Array Oper} {rest : List Oper} {o : Oper} {b : Act} {Q : Exit → Act → World → Prop}
    (hg : o.guard = none) (s x : Operand) (t tn : TypeId) (kn kq : IntKind) (hop : o.op = Op.call { callee := Callee.builtin Builtin.append, args := #[s, x], argTypes := #[t, tn] })
    (e : TypeId) (i : TypeInfo) (zv : Value) (z bytes : Nat) (h1 : P.underlying t = some (.slice e)) (hn : P.underlying tn = some (.int kn)) (h2 : P.info? e = some i) (h3 : i.zero = some zv) (h4 : i.size = z) (h5 : i.bytes = bytes) (h6 : zv.cells.size = z) (h0 : 0 < z)
    (a : Option Addr) (c : Nat) (hs : b.eval s = .slice a 0 c) (k : Nat) (hx : b.eval x = .int kq k) (hk0 : 0 < k) (hc : c < k)
    (b1 : k ≤ 9223372036854775807) (b2 : k * bytes ≤ 140737488355328)
    (hK : ∀ w' c' L, k ≤ c' → c' ≤ 9223372036854775807 → L.length = c' * z → Bk w' w.heap.size L e → Fr No w w' → w'.heap.size = w.heap.size + 1 → wpList P ops Q rest (b.put o.dst (.slice (some ⟨w.heap.size, 0, none⟩) k c')) w') :
    wpList P ops Q (o :: rest) b w := by
  refine wpList_plain hg fun K hK' => ?_
  subst h4; subst h5
  have hold : (Builtin.firstCells i.size 0 (.slice a 0 c)).run P w.drew = .ok ([] : List Value).toArray w.drew := by
    cases a with
    | none => exact run_firstCells_none w.drew _ _ _ _
    | some ad => exact run_firstCells_some w.drew i.size 0 ad 0 c [] (by simp) (by simp)
  have hrun := Lib.run_append_grow_zeros (P := P) w t tn o.type e i zv kq kn h1 hn h2 h3 a 0 c [] hold k hk0 h0 (by omega) (by omega) (by omega) (growslice_fits (by omega) (by rw [Nat.zero_add]; exact b2))
  rw [Nat.zero_add] at hrun
  have hge := grownCap_ge w k c e
  have hcm := grownCap_le_maxLen w k c e (by simp only [maxLen]; omega)
  simp only [maxLen] at hcm
  have hl0 : (([] : List Value).toArray ++ Builtin.zeroCells zv.cells k ++ Builtin.zeroCells zv.cells (grownCap w k c e - k)) = ((Builtin.zeroCells zv.cells k).toList ++ (Builtin.zeroCells zv.cells (grownCap w k c e - k)).toList).toArray := by
    apply Array.ext'; simp
  rw [hl0] at hrun
  have hzl : ((Builtin.zeroCells zv.cells k).toList ++ (Builtin.zeroCells zv.cells (grownCap w k c e - k)).toList).length = grownCap w k c e * i.size := by
    rw [List.length_append, Array.length_toList, Array.length_toList, size_zeroCells, size_zeroCells, h6, ← Nat.add_mul]
    congr 1; omega
  unfold Oper.wp
  simp [execOp, hop, resolve, invoke, builtin, hs, hx, hrun, Result.andThen]
  exact hK' _ _ (hK _ _ _ hge (by omega) hzl (Bk.new w.drew _ e) ((Fr.refl No w).drew.alloc _) (by simp))
end Go.Hp
