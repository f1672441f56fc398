/-
  New values: slices of given elements, structs, variables.
-/
import Derived.Test.YthhpdcegkbfijaaVMem
namespace Go.Proofs.Ythhpdcegkbfijaa.V
set_option linter.all false
set_option linter.unusedVariables false
set_option linter.unusedSimpArgs false
set_option linter.unnecessarySimpa false

/-- what 'fill' does with one part, as lists -/
theorem foldl_set : ∀ (l : List Value) (k off : Nat) (cs : Array Value), off + k + l.length ≤ cs.size →
    ((l.zipIdx k).foldl (fun cs (p : Value × Nat) => cs.setIfInBounds (off + p.2) p.1) cs).toList = cs.toList.take (off + k) ++ l ++ cs.toList.drop (off + k + l.length)
  | [], k, off, cs, h => by simp
  | v :: l, k, off, cs, h => by
    simp only [List.length_cons] at h
    rw [List.zipIdx_cons, List.foldl_cons, foldl_set l (k + 1) off _ (by simp; omega)]
    have hlt : off + k < cs.toList.length := by simp; omega
    simp only [Array.toList_setIfInBounds, List.length_cons]
    have h1 : (cs.toList.set (off + k) v).take (off + (k + 1)) = cs.toList.take (off + k) ++ [v] := by
      rw [show off + (k + 1) = off + k + 1 by omega, List.take_add_one, List.take_set_of_le (Nat.le_refl _), List.getElem?_set_self hlt]
      rfl
    have h2 : (cs.toList.set (off + k) v).drop (off + (k + 1) + l.length) = cs.toList.drop (off + k + (l.length + 1)) := by
      rw [List.drop_set, if_pos (by omega)]
      congr 1; omega
    rw [h1, h2]
    simp [List.append_assoc]
theorem foldl_set_arr (a : Array Value) (off : Nat) (cs : Array Value) (h : off + a.size ≤ cs.size) :
    (a.zipIdx.foldl (fun cs (c, j) => cs.setIfInBounds (off + j) c) cs).toList = cs.toList.take off ++ a.toList ++ cs.toList.drop (off + a.size) := by
  have := foldl_set a.toList 0 off cs (by simpa using h)
  rw [← Array.foldl_toList]
  simpa using this
theorem fill_one {place : Nat → Option (Nat × Nat)} {cells : Array Value} {i off size : Nat} {v : Value} (hp : place i = some (off, size)) (hs : v.cells.size = size) (hc : off + size ≤ cells.size) (rest : List (Nat × Value)) :
    Instr.fill place cells ((i, v) :: rest) = Instr.fill place (cells.toList.take off ++ v.cells.toList ++ cells.toList.drop (off + size)).toArray rest := by
  have hn : ¬ (v.cells.size ≠ size ∨ off + v.cells.size > cells.size) := by omega
  have := foldl_set_arr v.cells off cells (by omega)
  have he : v.cells.zipIdx.foldl (fun cs (c, j) => cs.setIfInBounds (off + j) c) cells = (cells.toList.take off ++ v.cells.toList ++ cells.toList.drop (off + size)).toArray := by
    apply Array.ext'
    rw [this, hs]
  conv => lhs; unfold Instr.fill
  rw [hp]
  simp only [ne_eq, decide_not, gt_iff_lt, Bool.or_eq_true, Bool.not_eq_true', decide_eq_false_iff_not, decide_eq_true_eq]
  rw [if_neg (by omega)]
  exact congrArg (fun a => Instr.fill place a rest) he

/-- a part of one cell -/
theorem fill_cell {place : Nat → Option (Nat × Nat)} {cells : Array Value} {i off : Nat} {v : Value} (hp : place i = some (off, 1)) (hv : v.cells = #[v]) (hc : off < cells.size) (rest : List (Nat × Value)) :
    Instr.fill place cells ((i, v) :: rest) = Instr.fill place (cells.setIfInBounds off v) rest := by
  conv => lhs; unfold Instr.fill
  rw [hp, hv]
  have h1 : ¬ ((decide ((#[v] : Array Value).size ≠ 1) || decide (off + (#[v] : Array Value).size > cells.size)) = true) := by
    simp only [List.size_toArray, List.length_cons, List.length_nil, Nat.zero_add, ne_eq, not_true_eq_false, decide_false, Bool.false_or, decide_eq_true_eq]
    omega
  simp only [if_neg h1]
  rfl
theorem run_buildSlice1 {P : Program} {t e sz bytes : Nat} (hE : ElemT P t e sz bytes) (hsz : sz ≤ 16777216) {x : Value} (hx : x.cells.size = sz) (w : World) :
    (Instr.buildSlice t 1 #[(0, x)]).run P w = .ok (.slice (some ⟨w.heap.size, 0, none⟩) 1 1) (w.alloc (.cells x.cells e)) := by
  obtain ⟨i, z, hi, hz, hs, hb, hzs⟩ := hE.info
  have hpos := hE.pos
  have h1 : ¬ (1 * sz > 2 ^ 24) := by omega
  have h2 : ¬ (1 * sz = 0) := by omega
  have hf : Instr.fill (fun i => some (i * sz, sz)) ((Array.range (1 * sz)).map fun j => z.cells[j % z.cells.size]!) [(0, x)] = some x.cells := by
    rw [fill_one (off := 0) (size := sz) (by simp) hx (by simp)]
    simp only [Instr.fill, List.take_zero, List.nil_append, Nat.zero_add, Option.some.injEq]
    rw [List.drop_eq_nil_of_le (by simp)]
    simp
  unfold Instr.buildSlice
  simp only [Sem.run_bind, undl hE.under, Result.andThen_ok]
  have hsz' : (sizeOf e).run P w = .ok sz w := by simp [sizeOf, typeInfo, program, Sem.run, hi, hs]
  have hzz : (zeroValue e).run P w = .ok z w := by simp [zeroValue, typeInfo, program, Sem.run, hi, hz]
  simp only [hsz', Result.andThen_ok, Sem.run_ite, h1, if_false, Sem.run_pure, h2, Sem.run_bind, hzz]
  rw [hf]
  simp [newRow, newObj, Sem.run]
theorem run_buildSlice0 {P : Program} {t e sz bytes : Nat} (hE : ElemT P t e sz bytes) (w : World) :
    (Instr.buildSlice t 0 #[]).run P w = .ok (.slice (some ⟨w.heap.size, 0, none⟩) 0 0) (w.alloc (.cells #[] e)) := by
  obtain ⟨i, z, hi, hz, hs, hb, hzs⟩ := hE.info
  unfold Instr.buildSlice
  have hsz' : (sizeOf e).run P w = .ok sz w := by simp [sizeOf, typeInfo, program, Sem.run, hi, hs]
  simp [Sem.run_bind, undl hE.under, Result.andThen_ok, hsz', Instr.fill, newRow, newObj, Sem.run]
  have : (Array.range 0).map (fun _ : Nat => (default : Value)) = #[] := by simp [Array.range]
  rw [this]

/-- []T{x} -/
theorem bs1 {P : Program} {t e sz bytes : Nat} (hE : ElemT P t e sz bytes) (hsz : sz ≤ 16777216) {x : Value} (hx : x.cells.size = sz) {w : World} {K : Kv}
    (hK : ∀ v' w', Own w' e sz v' 1 x.cells.toList → Ext No w w' → (∀ k, inB v' k → k = w.heap.size) → w'.heap.size = w.heap.size + 1 → K v' w') : sv P (Instr.buildSlice t 1 #[(0, x)]) w K := by
  unfold sv
  rw [run_buildSlice1 hE hsz hx w]
  refine hK _ _ ⟨by simp [hx], .inr ⟨w.heap.size, 1, x.cells, rfl, Nat.zero_le _, heap_alloc_new w _, Nat.le_refl _, by simp [maxLen], by simp [hx], ?_⟩⟩ ((Ext.refl _ _).alloc _) (fun k hk => by simp only [inB, Value.ownBlock, Option.some.injEq] at hk; exact hk.symm) (by simp)
  rw [List.take_of_length_le (by simp [hx])]
/-- []T{} -/
theorem bs0 {P : Program} {t e sz bytes : Nat} (hE : ElemT P t e sz bytes) {w : World} {K : Kv}
    (hK : ∀ v' w', Own w' e sz v' 0 [] → Ext No w w' → (∀ k, inB v' k → k = w.heap.size) → v' ≠ .slice none 0 0 → w'.heap.size = w.heap.size + 1 → K v' w') : sv P (Instr.buildSlice t 0 #[]) w K := by
  unfold sv
  rw [run_buildSlice0 hE w]
  exact hK _ _ ⟨by simp, .inr ⟨w.heap.size, 0, #[], rfl, Nat.zero_le _, heap_alloc_new w _, Nat.le_refl _, by simp [maxLen], by simp, by simp⟩⟩ ((Ext.refl _ _).alloc _) (fun k hk => by simp only [inB, Value.ownBlock, Option.some.injEq] at hk; exact hk.symm) (by simp) (by simp)

/-- A new variable. -/
theorem alloc_of {P : Program} {t : Nat} {i : TypeInfo} {z : Value} (hi : P.info? t = some i) (hz : i.zero = some z) {w : World} {K : Kv} (hK : K (.pointer (some ⟨w.heap.size, 0, none⟩)) (w.alloc (.cells z.cells t))) :
    sv P (Instr.alloc t true (.tuple #[])) w K := by
  have : (Instr.alloc t true (.tuple #[])).run P w = .ok (.pointer (some ⟨w.heap.size, 0, none⟩)) (w.alloc (.cells z.cells t)) := by
    simp [Instr.alloc, zeroValue, typeInfo, program, Sem.run, hi, hz, newVar, newRow, newObj]
  unfold sv
  rw [this]
  exact hK
/-- .. the world behind a name. -/
theorem alloc_any {P : Program} {t : Nat} {z : Value} (h : (P.info? t).map (fun i => i.zero) = some (some z)) {w : World} {K : Kv}
    (hK : ∀ w', Ext No w w' → w'.heap.size = w.heap.size + 1 → w'.heap[w.heap.size]? = some (.cells z.cells t) → K (.pointer (some ⟨w.heap.size, 0, none⟩)) w') : sv P (Instr.alloc t true (.tuple #[])) w K := by
  cases hi : P.info? t with
  | none => simp [hi] at h
  | some i =>
    simp only [hi, Option.map_some, Option.some.injEq] at h
    exact alloc_of hi h (hK _ ((Ext.refl _ _).alloc _) (by simp) (heap_alloc_new w _))
theorem bx_any {t : Nat} {x : Value} {w : World} {K : Kv} (hK : ∀ w', Ext No w w' → w'.heap.size = w.heap.size + 1 → w'.heap[w.heap.size]? = some (.cells x.cells t) → K (.pointer (some ⟨w.heap.size, 0, none⟩)) w') : bx t x w K :=
  hK _ ((Ext.refl _ _).alloc _) (by simp) (heap_alloc_new w _)
theorem cell_of_heap {w : World} {b : Nat} {cs : Array Value} {T : TypeId} (h : w.heap[b]? = some (.cells cs T)) (j : Nat) : w.cell? ⟨b, j, none⟩ = cs[j]? := cell_of_row w b j cs T (0, 0) h
theorem frozen_of_heap {w : World} {b : Nat} {cs : Array Value} {T : TypeId} (h : w.heap[b]? = some (.cells cs T)) (j : Nat) : w.frozen? ⟨b, j, none⟩ = false := frozen_of_row w b j cs T h

/-- A struct of given fields: its cells by 'fill', where the fields' places are known. -/
theorem build_of {P : Program} {t : Nat} {i : TypeInfo} {z : Value} {fs : Array Field} {places : List (Nat × Nat)} {parts : Array (Nat × Value)} {cells : Array Value} (hi : P.info? t = some i) (hz : i.zero = some z) (hu : P.underlying t = some (.struct fs))
    (hp : fs.toList.map (fun f => (f.offset, szO P f.type)) = places.map (fun p => (p.1, some p.2))) (hf : Instr.fill (places.toArray[·]?) z.cells parts.toList = some cells) {w : World} {K : Kv}
    (hK : K (.agg cells) w) : sv P (Instr.build t parts) w K := by
  have hm : ∀ (l : List Field) (ps : List (Nat × Nat)), l.map (fun f => (f.offset, szO P f.type)) = ps.map (fun p => (p.1, some p.2)) → ((l.mapM fun f => do pure (f.offset, ← sizeOf f.type) : Sem (List (Nat × Nat)))).run P w = .ok ps w := by
    intro l
    induction l with
    | nil => intro ps h; cases ps with
      | nil => rfl
      | cons p ps => cases h
    | cons f l ih =>
      intro ps h
      cases ps with
      | nil => cases h
      | cons p ps =>
        simp only [List.map_cons, List.cons.injEq, Prod.mk.injEq] at h
        obtain ⟨⟨h1, h2⟩, h3⟩ := h
        obtain ⟨p1, p2⟩ := p
        simp only at h1 h2
        rw [List.mapM_cons]
        simp only [Sem.run_bind, szl h2, Result.andThen_ok, Sem.run_pure, ih ps h3, h1]
  have hr' : ((fs.mapM fun f => do pure (f.offset, ← sizeOf f.type) : Sem (Array (Nat × Nat)))).run P w = .ok places.toArray w := by
    rw [Array.mapM_eq_mapM_toList, Sem.run_map, hm fs.toList places hp]
    rfl
  have : (Instr.build t parts).run P w = .ok (.agg cells) w := by
    unfold Instr.build
    simp only [Sem.run_bind, zeroValue, typeInfo, program, Sem.run, Result.andThen_ok, hi, hz, undl hu, Sem.run_pure, hr', hf]
  unfold sv
  rw [this]
  exact hK

end Go.Proofs.Ythhpdcegkbfijaa.V
