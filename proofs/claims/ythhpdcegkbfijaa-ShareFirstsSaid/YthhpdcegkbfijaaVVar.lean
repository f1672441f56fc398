/-
  Blocks as a whole: local variables, arrays; slices of some given elements; numbers of 64 bits.
-/
import Derived.Test.YthhpdcegkbfijaaVOpen
import Derived.Test.YthhpdcegkbfijaaVRow
namespace Go.Proofs.Ythhpdcegkbfijaa.V
set_option linter.all false
set_option linter.unusedVariables false
set_option linter.unusedSimpArgs false
set_option linter.unnecessarySimpa false

theorem Ext.tr {S : Nat → Prop} {a b c : World} (h : Ext S a b) (h' : Ext S b c) : Ext S a c := h.trans h' fun _ _ h => h
theorem Ext.noTr {S : Nat → Prop} {a b c : World} (h : Ext S a b) (h' : Ext No b c) : Ext S a c := h.trans h' fun _ _ h => h.elim
/-- The block b holds the cells cs. -/
def Bk (w : World) (b : Nat) (cs : List Value) (T : TypeId) : Prop := w.heap[b]? = some (.cells cs.toArray T)
theorem Bk.of {w : World} {b : Nat} {cs : Array Value} {T : TypeId} (h : w.heap[b]? = some (.cells cs T)) : Bk w b cs.toList T := h
theorem Bk.lt {w : World} {b : Nat} {cs : List Value} {T : TypeId} (h : Bk w b cs T) : b < w.heap.size := (Array.getElem?_eq_some_iff.1 h).1
theorem Bk.cell {w : World} {b : Nat} {cs : List Value} {T : TypeId} (h : Bk w b cs T) (j : Nat) : w.cell? ⟨b, j, none⟩ = cs[j]? := by rw [cell_of_heap h]; simp
theorem Bk.fz {w : World} {b : Nat} {cs : List Value} {T : TypeId} (h : Bk w b cs T) (j : Nat) : w.frozen? ⟨b, j, none⟩ = false := frozen_of_heap h j
theorem Bk.ext {S : Nat → Prop} {w w' : World} {b : Nat} {cs : List Value} {T : TypeId} (h : Bk w b cs T) (he : Ext S w w') (hn : ¬ S b) : Bk w' b cs T := he.heap h hn
theorem Bk.no {w w' : World} {b : Nat} {cs : List Value} {T : TypeId} (h : Bk w b cs T) (he : Ext No w w') : Bk w' b cs T := h.ext he fun h => h
theorem Bk.set {w : World} {b : Nat} {cs : List Value} {T : TypeId} (h : Bk w b cs T) (j : Nat) (v : Value) : Bk (w.setCell ⟨b, j, none⟩ v) b (cs.set j v) T := by
  have := heap_setCell_same w b j cs.toArray T v h
  unfold Bk
  rw [this]; simp
theorem Bk.l1 {w : World} {b : Nat} {cs : List Value} {T : TypeId} (h : Bk w b cs T) {j : Nat} {v : Value} (hj : cs[j]? = some v) (K : Value → Prop) : l1 (.pointer (some ⟨b, j, none⟩)) w K = K v := l1_eq (by rw [h.cell j]; exact hj) K
theorem Bk.l1C {C : World → Prop} {b : Nat} {cs : List Value} {T : TypeId} (h : ∀ w, C w → Bk w b cs T) {j : Nat} {v : Value} (hj : cs[j]? = some v) {K : Value → Prop} (hk : K v) : l1C C (.pointer (some ⟨b, j, none⟩)) K :=
  l1C_of (fun w' hw' => by rw [(h w' hw').cell j]; exact hj) hk
theorem lN_eq {w : World} {b o n : Nat} {vs : List Value} (hn : vs.length = n) (h : ∀ j, j < n → w.cell? ⟨b, o + j, none⟩ = vs[j]?) (K : Value → Prop) : lN n (.pointer (some ⟨b, o, none⟩)) w K = K (.agg vs.toArray) := by
  subst hn
  have h0 : rdN w ⟨b, o, none⟩ vs.length 0 = some vs := rdN_of vs 0 fun j u hj => by
    rw [Nat.zero_add, h j (List.getElem?_eq_some_iff.1 hj).1]; exact hj
  simp only [lN, eq_iff_iff]
  exact ⟨fun ⟨a, us, h1, h2, h3⟩ => by cases h1; rw [h0] at h2; cases h2; exact h3, fun hk => ⟨_, _, rfl, h0, hk⟩⟩
theorem Bk.lN {w : World} {b : Nat} {cs : List Value} {T : TypeId} (h : Bk w b cs T) {o n : Nat} {vs : List Value} (hvs : (cs.drop o).take n = vs) (hn : vs.length = n) (K : Value → Prop) : lN n (.pointer (some ⟨b, o, none⟩)) w K = K (.agg vs.toArray) :=
  lN_eq hn (fun j hj => by rw [h.cell, ← hvs, List.getElem?_take, if_pos hj, List.getElem?_drop]) K
theorem Bk.all {w : World} {b : Nat} {cs : List Value} {T : TypeId} (h : Bk w b cs T) {n : Nat} (hn : cs.length = n) (K : Value → Prop) : V.lN n (.pointer (some ⟨b, 0, none⟩)) w K = K (.agg cs.toArray) :=
  h.lN (by rw [List.drop_zero, List.take_of_length_le (by omega)]) hn K
theorem Bk.lNC {C : World → Prop} {b : Nat} {cs : List Value} {T : TypeId} (h : ∀ w, C w → Bk w b cs T) {o n : Nat} {vs : List Value} (hvs : (cs.drop o).take n = vs) (hn : vs.length = n) {K : Value → Prop} (hk : K (.agg vs.toArray)) : lNC C n (.pointer (some ⟨b, o, none⟩)) K :=
  lNC_of hn (fun w' hw' j u hj => by
    rw [(h w' hw').cell]
    have hlt : j < n := by rw [← hn]; exact (List.getElem?_eq_some_iff.1 hj).1
    rw [← hvs, List.getElem?_take, if_pos hlt, List.getElem?_drop] at hj
    exact hj) hk

/-! ### writing -/
def ovr (cs : List Value) (k : Nat) (vs : List Value) : List Value := cs.take k ++ vs ++ cs.drop (k + vs.length)
theorem ovr_nil (cs : List Value) (k : Nat) : ovr cs k [] = cs := by simp [ovr]
theorem ovr_cons (cs : List Value) (k : Nat) (v : Value) (vs : List Value) (h : k < cs.length) : ovr (cs.set k v) (k + 1) vs = ovr cs k (v :: vs) := by
  unfold ovr
  have h1 : (cs.set k v).take (k + 1) = cs.take k ++ [v] := by
    rw [List.take_add_one, List.take_set_of_le (Nat.le_refl _), List.getElem?_set_self h]; rfl
  have h2 : (cs.set k v).drop (k + 1 + vs.length) = cs.drop (k + (v :: vs).length) := by
    rw [List.drop_set, if_pos (by omega)]
    simp only [List.length_cons]; congr 1; omega
  rw [h1, h2]; simp
theorem ovr_all (cs vs : List Value) (h : cs.length = vs.length) : ovr cs 0 vs = vs := by
  unfold ovr; rw [List.drop_eq_nil_of_le (by omega)]; simp
theorem ovr_len (cs : List Value) (k : Nat) (vs : List Value) (h : k + vs.length ≤ cs.length) : (ovr cs k vs).length = cs.length := by
  unfold ovr; simp; omega

theorem stN_bk : ∀ (vs : List Value) (i o b : Nat) (w : World) (cs : List Value) (T : TypeId), Bk w b cs T → o + i + vs.length ≤ cs.length → (∀ u, u ∈ vs → oneB u = true) →
    ∃ w', stN vs i ⟨b, o, none⟩ w = some w' ∧ Bk w' b (ovr cs (o + i) vs) T ∧ Ext (fun k => k = b) w w' ∧ w'.heap.size = w.heap.size
  | [], i, o, b, w, cs, T, h, _, _ => ⟨w, rfl, by rw [ovr_nil]; exact h, Ext.refl _ _, rfl⟩
  | v :: vs, i, o, b, w, cs, T, h, hl, h1 => by
    simp only [List.length_cons] at hl
    have hs := h.set (o + i) v
    obtain ⟨w', e1, e2, e3, e4⟩ := stN_bk vs (i + 1) o b _ _ T hs (by simp; omega) fun u hu => h1 u (List.mem_cons_of_mem _ hu)
    refine ⟨w', ?_, ?_, ?_, ?_⟩
    · have hc : (w.cell? ⟨b, o + i, none⟩).isSome = true := by rw [h.cell, List.getElem?_eq_getElem (by omega)]; rfl
      simp only [stN, add_lit, h1 v (by simp), hc, h.fz, Bool.not_false, Bool.and_true, if_true]
      exact e1
    · rw [← Nat.add_assoc, ovr_cons _ _ _ _ (by omega)] at e2; exact e2
    · exact (Ext.setCell (S := fun k => k = b) (Ext.refl _ w) (fun _ => rfl) v).trans e3 fun _ _ h => h
    · rw [e4]; simp

theorem Bk.stN {w : World} {b : Nat} {cs : List Value} {T : TypeId} (h : Bk w b cs T) {o n : Nat} {vs : Array Value} (hn : vs.size = n) (hl : o + n ≤ cs.length) (h1 : ∀ u, u ∈ vs.toList → oneB u = true) {K : World → Prop}
    (hK : ∀ w', Bk w' b (ovr cs o vs.toList) T → Ext (fun k => k = b) w w' → w'.heap.size = w.heap.size → K w') : stW n (.pointer (some ⟨b, o, none⟩)) (.agg vs) w K := by
  obtain ⟨w', e1, e2, e3, e4⟩ := stN_bk vs.toList 0 o b w cs T h (by simp [hn]; omega) h1
  exact ⟨_, w', rfl, hn, e1, hK w' e2 e3 e4⟩
theorem Bk.st1 {w : World} {b : Nat} {cs : List Value} {T : TypeId} (h : Bk w b cs T) {j : Nat} (hj : j < cs.length) {u : Value} (hu : oneB u = true) (hc : u.cells = #[u]) {K : World → Prop}
    (hK : ∀ w', Bk w' b (cs.set j u) T → Ext (fun k => k = b) w w' → w'.heap.size = w.heap.size → K w') : stW 1 (.pointer (some ⟨b, j, none⟩)) u w K := by
  refine st1_of (u := cs[j]) (by rw [h.cell]; exact List.getElem?_eq_getElem hj) (h.fz j) hu (by rw [hc]; rfl) (by rw [hc]) (hK _ (h.set j u) ?_ (by simp))
  exact Ext.setCell (S := fun k => k = b) (Ext.refl _ w) (fun _ => rfl) u

/-- A variable that is made, and at once given a value. -/
theorem var_st {P : Program} {t n : Nat} {z : Value} (h : (P.info? t).map (fun i => i.zero) = some (some z)) (hz : z.cells.size = n) {vs : Array Value} (hn : vs.size = n) (h1 : ∀ u, u ∈ vs.toList → oneB u = true) {w : World} {K : Value → World → Prop}
    (hK : ∀ w', Ext No w w' → w'.heap.size = w.heap.size + 1 → Bk w' w.heap.size vs.toList t → K (.pointer (some ⟨w.heap.size, 0, none⟩)) w') :
    sv P (Instr.alloc t true (.tuple #[])) w fun v w1 => stW n v (.agg vs) w1 fun w2 => K v w2 := by
  refine alloc_any h fun w1 he hsz hblk => ?_
  refine (Bk.of hblk).stN hn (by simp; omega) h1 fun w2 hb2 he2 hsz2 => ?_
  rw [ovr_all _ _ (by simp; omega)] at hb2
  exact hK w2 (he.trans he2 fun k hk e => by omega) (by omega) hb2
theorem var_st1 {P : Program} {t : Nat} {z : Value} (h : (P.info? t).map (fun i => i.zero) = some (some z)) (hz : z.cells.size = 1) {u : Value} (hu : oneB u = true) (hc : u.cells = #[u]) {w : World} {K : Value → World → Prop}
    (hK : ∀ w', Ext No w w' → w'.heap.size = w.heap.size + 1 → Bk w' w.heap.size [u] t → K (.pointer (some ⟨w.heap.size, 0, none⟩)) w') :
    sv P (Instr.alloc t true (.tuple #[])) w fun v w1 => stW 1 v u w1 fun w2 => K v w2 := by
  refine alloc_any h fun w1 he hsz hblk => ?_
  have hb := Bk.of hblk
  have hl : z.cells.toList.length = 1 := by simpa using hz
  refine hb.st1 (by omega) hu hc fun w2 hb2 he2 hsz2 => ?_
  match hzc : z.cells.toList, hl with
  | [x], _ =>
    rw [hzc] at hb2
    exact hK w2 (he.trans he2 fun k hk e => by omega) (by omega) hb2
theorem var_z {P : Program} {t : Nat} {z : Value} (h : (P.info? t).map (fun i => i.zero) = some (some z)) {w : World} {K : Value → World → Prop}
    (hK : ∀ w', Ext No w w' → w'.heap.size = w.heap.size + 1 → Bk w' w.heap.size z.cells.toList t → K (.pointer (some ⟨w.heap.size, 0, none⟩)) w') : sv P (Instr.alloc t true (.tuple #[])) w K :=
  alloc_any h fun w1 he hsz hblk => hK w1 he hsz (Bk.of hblk)
theorem bx_bk {t : Nat} {x : Value} {w : World} {K : Kv} (hK : ∀ w', Ext No w w' → w'.heap.size = w.heap.size + 1 → Bk w' w.heap.size x.cells.toList t → K (.pointer (some ⟨w.heap.size, 0, none⟩)) w') : bx t x w K :=
  bx_any fun w' he hsz hblk => hK w' he hsz (Bk.of hblk)

/-! ### slices of given elements of one cell -/
def prt (vs : List Value) : Array (Nat × Value) := ((vs.zipIdx 0).map fun p => (p.2, p.1)).toArray
theorem fill_ones : ∀ (vs : List Value) (k : Nat) (cells : Array Value), k + vs.length ≤ cells.size → (∀ u, u ∈ vs → u.cells = #[u]) →
    Instr.fill (fun i => some (i * 1, 1)) cells ((vs.zipIdx k).map fun p => (p.2, p.1)) = some (ovr cells.toList k vs).toArray
  | [], k, cells, _, _ => by rw [ovr_nil]; rfl
  | v :: vs, k, cells, h, h1 => by
    simp only [List.length_cons] at h
    rw [List.zipIdx_cons, List.map_cons, fill_cell (off := k) (by simp) (h1 v (by simp)) (by omega)]
    rw [fill_ones vs (k + 1) _ (by simp; omega) fun u hu => h1 u (List.mem_cons_of_mem _ hu)]
    rw [Array.toList_setIfInBounds, ovr_cons _ _ _ _ (by simp; omega)]
theorem bsL {P : Program} {t e bytes : Nat} (hE : ElemT P t e 1 bytes) {vs : List Value} (h1 : ∀ u, u ∈ vs → u.cells = #[u]) (h0 : 0 < vs.length) (hn : vs.length ≤ 1000) {w : World} {K : Kv}
    (hK : ∀ v' w', Own w' e 1 v' vs.length vs → Ext No w w' → (∀ k, inB v' k → k = w.heap.size) → w'.heap.size = w.heap.size + 1 → K v' w') : sv P (Instr.buildSlice t vs.length (prt vs)) w K := by
  obtain ⟨i, z, hi, hz, hs, hb, hzs⟩ := hE.info
  have hsz' : (sizeOf e).run P w = .ok 1 w := by simp [sizeOf, typeInfo, program, Sem.run, hi, hs]
  have hzz : (zeroValue e).run P w = .ok z w := by simp [zeroValue, typeInfo, program, Sem.run, hi, hz]
  have hf : Instr.fill (fun i => some (i * 1, 1)) ((Array.range (vs.length * 1)).map fun j => z.cells[j % z.cells.size]!) (prt vs).toList = some vs.toArray := by
    have := fill_ones vs 0 ((Array.range (vs.length * 1)).map fun j => z.cells[j % z.cells.size]!) (by simp) h1
    rw [show (prt vs).toList = (vs.zipIdx 0).map fun p => (p.2, p.1) from rfl, this, ovr_all _ _ (by simp)]
  have hrun : (Instr.buildSlice t vs.length (prt vs)).run P w = .ok (.slice (some ⟨w.heap.size, 0, none⟩) vs.length vs.length) (w.alloc (.cells vs.toArray e)) := by
    unfold Instr.buildSlice
    simp only [Sem.run_bind, undl hE.under, Result.andThen_ok, hsz', Sem.run_ite, show ¬ (vs.length * 1 > 2 ^ 24) by omega, if_false, Sem.run_pure, show ¬ (vs.length * 1 = 0) by omega, hzz]
    rw [hf]
    simp [newRow, newObj, Sem.run]
  unfold sv
  rw [hrun]
  refine hK _ _ ⟨by simp, .inr ⟨w.heap.size, vs.length, vs.toArray, rfl, Nat.zero_le _, heap_alloc_new w _, Nat.le_refl _, by simp [maxLen]; omega, by simp, ?_⟩⟩ ((Ext.refl _ _).alloc _) (fun k hk => by simp only [inB, Value.ownBlock, Option.some.injEq] at hk; exact hk.symm) (by simp)
  simp

/-- an element of an array that is a value -/
theorem idx_arr {P : Program} {t e n : Nat} (hu : P.underlying t = some (.array n e)) (hs : szO P e = some 1) (ha : aggO P e = some false) {cs : Array Value} {k : IntKind} {i : Int} (h0 : 0 ≤ i) (hi : i < n) {v : Value} (hv : cs[i.toNat]? = some v) {w : World} {K : Kv} (hK : K v w) :
    sv P (Instr.index t (.agg cs) (.int k i)) w K := by
  have hagg : (isAgg e).run P w = .ok false w := by
    unfold aggO at ha
    cases hd : P.underlying e with
    | none => simp [hd] at ha
    | some d =>
      unfold isAgg
      simp only [Sem.run_bind, undl hd, Result.andThen_ok]
      cases d <;> simp [hd] at ha <;> rfl
  have : (Instr.index t (.agg cs) (.int k i)).run P w = .ok v w := by
    unfold Instr.index
    simp only [asIntOf, Sem.run_bind, Sem.run_pure, Result.andThen_ok, undl hu, Sem.run_ite, h0, hi, and_self, if_true, szl hs, part, hagg, Bool.false_eq_true, if_false, Nat.mul_one, hv]
  unfold sv
  rw [this]
  exact hK

/-- A struct of given fields. -/
def placesO (P : Program) (t : TypeId) : Option (List (Nat × Option Nat)) := match P.underlying t with | some (.struct fs) => some (fs.toList.map fun f => (f.offset, szO P f.type)) | _ => none
theorem build_st {P : Program} {t : Nat} {z : Value} {pl : List (Nat × Nat)} {parts : Array (Nat × Value)} {cells : Array Value} (hz : (P.info? t).map (fun i => i.zero) = some (some z)) (hu : placesO P t = some (pl.map fun p => (p.1, some p.2)))
    (hf : Instr.fill (pl.toArray[·]?) z.cells parts.toList = some cells) {w : World} {K : Kv} (hK : K (.agg cells) w) : sv P (Instr.build t parts) w K := by
  cases hi : P.info? t with
  | none => simp [hi] at hz
  | some i =>
    simp only [hi, Option.map_some, Option.some.injEq] at hz
    unfold placesO at hu
    split at hu
    · rename_i fs hfs
      exact build_of (places := pl) hi hz hfs (Option.some.inj hu) hf hK
    · cases hu

/-- An array of given elements. -/
theorem build_arr {P : Program} {t e n sz : Nat} {z : Value} {parts : Array (Nat × Value)} {cells : Array Value} (hz : (P.info? t).map (fun i => i.zero) = some (some z)) (hu : P.underlying t = some (.array n e)) (hs : szO P e = some sz)
    (hf : Instr.fill (fun i => some (i * sz, sz)) z.cells parts.toList = some cells) {w : World} {K : Kv} (hK : K (.agg cells) w) : sv P (Instr.build t parts) w K := by
  cases hi : P.info? t with
  | none => simp [hi] at hz
  | some i =>
    simp only [hi, Option.map_some, Option.some.injEq] at hz
    have : (Instr.build t parts).run P w = .ok (.agg cells) w := by
      unfold Instr.build
      simp only [Sem.run_bind, zeroValue, typeInfo, program, Sem.run, Result.andThen_ok, hi, hz, undl hu, Sem.run_pure, szl hs, hf]
    unfold sv
    rw [this]
    exact hK
/-- A slice of given elements, whatever they are. -/
theorem bsF {P : Program} {t e n sz : Nat} {z : Value} {parts : Array (Nat × Value)} {cells : Array Value} (hz : (P.info? e).map (fun i => i.zero) = some (some z)) (hu : P.underlying t = some (.slice e)) (hs : szO P e = some sz) (h0 : n * sz ≠ 0) (hn : n * sz ≤ 1000)
    (hf : Instr.fill (fun i => some (i * sz, sz)) ((Array.range (n * sz)).map fun j => z.cells[j % z.cells.size]!) parts.toList = some cells) (hc : cells.size = n * sz) {w : World} {K : Kv}
    (hK : ∀ v' w', Own w' e sz v' n cells.toList → Ext No w w' → (∀ k, inB v' k → k = w.heap.size) → w'.heap.size = w.heap.size + 1 → K v' w') : sv P (Instr.buildSlice t n parts) w K := by
  cases hi : P.info? e with
  | none => simp [hi] at hz
  | some i =>
    simp only [hi, Option.map_some, Option.some.injEq] at hz
    have hzz : (zeroValue e).run P w = .ok z w := by simp [zeroValue, typeInfo, program, Sem.run, hi, hz]
    have hrun : (Instr.buildSlice t n parts).run P w = .ok (.slice (some ⟨w.heap.size, 0, none⟩) n n) (w.alloc (.cells cells e)) := by
      unfold Instr.buildSlice
      simp only [Sem.run_bind, undl hu, Result.andThen_ok, szl hs, Sem.run_ite, show ¬ (n * sz > 2 ^ 24) by omega, if_false, Sem.run_pure, h0, hzz]
      rw [hf]
      simp [newRow, newObj, Sem.run]
    have hnn : n ≤ maxLen := by
      have : n ≤ n * sz := Nat.le_mul_of_pos_right n (Nat.pos_of_ne_zero fun h => h0 (by rw [h, Nat.mul_zero]))
      simp only [maxLen]; omega
    unfold sv
    rw [hrun]
    refine hK _ _ ⟨by simp [hc], .inr ⟨w.heap.size, n, cells, rfl, Nat.zero_le _, heap_alloc_new w _, Nat.le_refl _, hnn, by simp [hc], ?_⟩⟩ ((Ext.refl _ _).alloc _) (fun k hk => by simp only [inB, Value.ownBlock, Option.some.injEq] at hk; exact hk.symm) (by simp)
    rw [List.take_of_length_le (by simp [hc])]

/-! ### numbers of 64 bits without sign -/
theorem wrapu {n : Int} : IntKind.u64.wrap n = n % 18446744073709551616 := by
  simp only [IntKind.wrap, IntKind.bits, IntKind.signed, Bool.false_and]
  simp
theorem u64_mul (a b : Int) : arithO .mul (.int .u64 a) (.int .u64 b) = some (.int .u64 (a * b % 18446744073709551616)) := by simp [arithO, wrapu]
theorem u64_add (a b : Int) : arithO .add (.int .u64 a) (.int .u64 b) = some (.int .u64 ((a + b) % 18446744073709551616)) := by simp [arithO, wrapu]
theorem u64_sub (a b : Int) : arithO .sub (.int .u64 a) (.int .u64 b) = some (.int .u64 ((a - b) % 18446744073709551616)) := by simp [arithO, wrapu]
theorem u64_quo {a b : Int} (h0 : 0 ≤ a) (ha : a ≤ 18446744073709551615) (hb : 0 < b) : arithO .quo (.int .u64 a) (.int .u64 b) = some (.int .u64 (a / b)) := by
  have h1 : a.tdiv b = a / b := Int.tdiv_eq_ediv_of_nonneg h0
  have h2 : a / b ≤ a := Int.ediv_le_self _ h0
  have h3 : 0 ≤ a / b := Int.ediv_nonneg h0 (by omega)
  simp only [arithO]
  rw [if_pos ⟨by trivial, by omega⟩, h1, wrapu, Int.emod_eq_of_lt h3 (by omega)]
theorem u64_rem {a b : Int} (h0 : 0 ≤ a) (hb : 0 < b) : arithO .rem (.int .u64 a) (.int .u64 b) = some (.int .u64 (a % b)) := by
  have h1 : a.tmod b = a % b := Int.tmod_eq_emod_of_nonneg h0
  simp only [arithO]
  rw [if_pos ⟨by trivial, by omega⟩, h1]
theorem u64_low (a : Nat) (ha : a < 18446744073709551616) : arithO .and (.int .u64 (a : Int)) (.int .u64 4294967295) = some (.int .u64 ((a % 4294967296 : Nat) : Int)) := by
  have h1 : (BitVec.ofInt 64 (a : Int) &&& BitVec.ofInt 64 4294967295).toNat = a % 4294967296 := by
    rw [BitVec.toNat_and, BitVec.toNat_ofInt, BitVec.toNat_ofInt]
    have e1 : ((a : Int) % ((2 ^ 64 : Nat) : Int)).toNat = a := by
      rw [show (((2 ^ 64 : Nat)) : Int) = 18446744073709551616 by decide, Int.emod_eq_of_lt (by omega) (by omega)]; rfl
    have e2 : ((4294967295 : Int) % ((2 ^ 64 : Nat) : Int)).toNat = 2 ^ 32 - 1 := by decide
    rw [e1, e2, Nat.and_two_pow_sub_one_eq_mod]
  show (if IntKind.u64 = IntKind.u64 then some (Value.int .u64 (IntKind.u64.wrap ((BitVec.ofInt 64 (a : Int) &&& BitVec.ofInt 64 4294967295).toNat : Int))) else none) = _
  rw [if_pos rfl, h1, wrapu, Int.emod_eq_of_lt (by omega) (by omega)]
theorem u64_high (a : Nat) : arithO .shr (.int .u64 (a : Int)) (.int .u64 32) = some (.int .u64 ((a / 4294967296 : Nat) : Int)) := by
  simp only [arithO]
  rw [if_pos (by omega)]
  congr 2
  show (a : Int).fdiv 4294967296 = _
  rw [Int.fdiv_eq_ediv_of_nonneg _ (by omega)]
  rfl

end Go.Proofs.Ythhpdcegkbfijaa.V
