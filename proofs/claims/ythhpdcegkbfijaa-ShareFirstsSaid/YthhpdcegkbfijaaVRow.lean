/-
  Writing into a row that is owned.
-/
import Derived.Test.YthhpdcegkbfijaaVLoop
import Derived.Laws.OwnMore
namespace Go.Proofs.Ythhpdcegkbfijaa.V
set_option linter.all false
set_option linter.unusedVariables false
set_option linter.unusedSimpArgs false
set_option linter.unnecessarySimpa false

/-- '&&' and '||' as the code has them -/
theorem and2 (a b : Bool) (w : World) (G : Value → World → Prop) : gB (X := Value) (.bool a) true undef (fun K => K (.bool b) w) w (fun x w' => pO (pkO (.bool a) x (.bool false)) fun v => G v w') = G (.bool (a && b)) w := by
  cases a <;> simp only [vs, Bool.true_and, Bool.false_and]
theorem or2 (a b : Bool) (w : World) (G : Value → World → Prop) : gB (X := Value) (.bool a) false undef (fun K => K (.bool b) w) w (fun x w' => pO (pkO (.bool a) (.bool true) x) fun v => G v w') = G (.bool (a || b)) w := by
  cases a <;> simp only [vs, Bool.true_or, Bool.false_or]

theorem Own.le {w : World} {T sz : Nat} {v : Value} {n : Nat} {xs : List Value} (h : Own w T sz v n xs) : n ≤ 9223372036854775807 := by
  rcases h.2 with ⟨_, rfl⟩ | ⟨g, cap, cur, _, _, _, hc, hcm, _⟩
  · omega
  · simp only [maxLen] at hcm; omega

/-- An element of an owned row: its address; what lies there; it may be written. -/
theorem Own.spot {w : World} {T sz : Nat} {v : Value} {n : Nat} {xs : List Value} (h : Own w T sz v n xs) {k : IntKind} {i : Nat} (hi : i < n) :
    ∃ g, inB v g ∧ g < w.heap.size ∧ ixsO sz v (.int k (i : Int)) = some (.pointer (some ⟨g, i * sz, none⟩)) ∧ (∀ j, j < n * sz → w.cell? ⟨g, j, none⟩ = xs[j]?) ∧ (∀ j, w.frozen? ⟨g, j, none⟩ = false) ∧
      ∀ j u, j < n * sz → Own (w.setCell ⟨g, j, none⟩ u) T sz v n (xs.set j u) := by
  rcases h.2 with ⟨rfl, rfl⟩ | ⟨g, cap, cur, rfl, h0, hg, hc, hcm, hcs, ht⟩
  · omega
  · have h' : w.ownsRow 0 T sz (.slice (some ⟨g, 0, none⟩) n cap) n xs := h
    refine ⟨g, rfl, (Array.getElem?_eq_some_iff.1 hg).1, ?_, fun j hj => h'.cellAt j hj, fun j => h'.frozenAt j, fun j u hj => (h'.stored j u).1⟩
    simp only [ixsO]
    rw [if_pos ⟨by omega, by omega⟩, add_lit]
    congr 4; simp

/-- a one-cell element is written -/
theorem Own.put1 {w : World} {T : Nat} {v : Value} {n : Nat} {xs : List Value} (h : Own w T 1 v n xs) {k : IntKind} {i : Nat} (hi : i < n) {u : Value} (hu : oneB u = true) (hc : u.cells.size = 1) (hcs : u.cells.toList = [u]) {K : World → Prop}
    (hK : ∀ w', Own w' T 1 v n (xs.set i u) → Ext (inB v) w w' → w'.heap.size = w.heap.size → K w') : pO (ixsO 1 v (.int k (i : Int))) (fun p => stW 1 p u w K) := by
  obtain ⟨g, h1, h2, h3, h4, h5, h6⟩ := h.spot (k := k) hi
  rw [h3]
  have hx : xs.length = n := by have := h.1; omega
  show stW 1 (.pointer (some ⟨g, i * 1, none⟩)) u w K
  rw [Nat.mul_one]
  refine st1_of (u := xs[i]'(by omega)) (by rw [h4 i (by omega)]; exact List.getElem?_eq_getElem _) (h5 i) hu hc hcs (hK _ (h6 i u (by omega)) ?_ (by simp))
  exact (Ext.setCell (S := fun k => k = g) (Ext.refl _ w) (fun _ => rfl) u).mono fun m _ e => e ▸ h1
theorem Own.putInt {w : World} {T : Nat} {v : Value} {n : Nat} {xs : List Value} (h : Own w T 1 v n xs) {k q : IntKind} {i : Nat} (hi : i < n) {m : Int} {K : World → Prop}
    (hK : ∀ w', Own w' T 1 v n (xs.set i (.int q m)) → Ext (inB v) w w' → w'.heap.size = w.heap.size → K w') : pO (ixsO 1 v (.int k (i : Int))) (fun p => stW 1 p (.int q m) w K) := h.put1 hi rfl rfl rfl hK

/-- a struct of three one-cell fields is written over an element -/
theorem Own.put3 {w : World} {T : Nat} {v : Value} {n : Nat} {xs : List Value} (h : Own w T 3 v n xs) {k : IntKind} {i : Nat} (hi : i < n) {a0 a1 a2 : Value} (h0 : oneB a0 = true) (h1 : oneB a1 = true) (h2 : oneB a2 = true) {K : World → Prop}
    (hK : ∀ w', Own w' T 3 v n (((xs.set (i * 3) a0).set (i * 3 + 1) a1).set (i * 3 + 2) a2) → Ext (inB v) w w' → w'.heap.size = w.heap.size → K w') :
    pO (ixsO 3 v (.int k (i : Int))) (fun p => stW 3 p (.agg #[a0, a1, a2]) w K) := by
  obtain ⟨g, g1, g2, g3, g4, g5, g6⟩ := h.spot (k := k) hi
  rw [g3]
  have hx := h.1
  have o0 := g6 (i * 3) a0 (by omega)
  obtain ⟨g', e1, _, _, q4, q5, q6⟩ := o0.spot (k := k) hi
  obtain rfl : g = g' := by simpa [inB, g1] using (g1.symm.trans e1)
  have o1 := q6 (i * 3 + 1) a1 (by omega)
  obtain ⟨g', e1, _, _, r4, r5, r6⟩ := o1.spot (k := k) hi
  obtain rfl : g = g' := by simpa [inB, g1] using (g1.symm.trans e1)
  have o2 := r6 (i * 3 + 2) a2 (by omega)
  have hc : ∀ (ys : List Value) (j : Nat), ys.length = n * 3 → j < n * 3 → (ys[j]?).isSome = true := fun ys j hy hj => by
    rw [List.getElem?_eq_getElem (by omega)]; rfl
  refine ⟨⟨g, i * 3, none⟩, _, rfl, rfl, ?_, hK _ o2 ?_ (by simp)⟩
  · simp only [Value.cells, stN, add_lit, Nat.add_zero, Nat.zero_add, h0, h1, h2, g5, q5, r5, g4 (i * 3) (by omega), q4 (i * 3 + 1) (by omega), r4 (i * 3 + 2) (by omega),
      hc xs (i * 3) hx (by omega), hc (xs.set (i * 3) a0) (i * 3 + 1) (by simpa using hx) (by omega), hc ((xs.set (i * 3) a0).set (i * 3 + 1) a1) (i * 3 + 2) (by simpa using hx) (by omega), Bool.not_false, Bool.and_true, if_true]
  · refine Ext.mono (S := fun k => k = g) ?_ fun m _ e => e ▸ g1
    exact Ext.setCell (S := fun k => k = g) (Ext.setCell (S := fun k => k = g) (Ext.setCell (S := fun k => k = g) (Ext.refl _ w) (fun _ => rfl) a0) (fun _ => rfl) a1) (fun _ => rfl) a2

/-- .. and what the row holds then -/
theorem flat3_set {α : Type} (f : α → List Value) (y : α) {a0 a1 a2 : Value} (hy : f y = [a0, a1, a2]) : ∀ (L : List α), (∀ a, a ∈ L → (f a).length = 3) → ∀ k, k < L.length →
    ((((L.flatMap f).set (k * 3) a0).set (k * 3 + 1) a1).set (k * 3 + 2) a2) = (L.set k y).flatMap f
  | [], _, k, hk => by simp at hk
  | a :: L, hf, k, hk => by
    have ha := hf a (by simp)
    match hfa : f a, ha with
    | [b0, b1, b2], _ =>
      cases k with
      | zero => simp [List.flatMap_cons, hfa, hy]
      | succ k =>
        have ih := flat3_set f y hy L (fun a ha => hf a (by simp [ha])) k (by simpa using hk)
        simp only [List.flatMap_cons, hfa, List.set_cons_succ, show (k + 1) * 3 = k * 3 + 1 + 1 + 1 by omega, List.cons_append, List.nil_append, show k * 3 + 1 + 1 + 1 + 1 = (k * 3 + 1) + 1 + 1 + 1 by omega, show k * 3 + 1 + 1 + 1 + 2 = (k * 3 + 2) + 1 + 1 + 1 by omega]
        rw [ih]

theorem lNC_of {C : World → Prop} {b o : Nat} {vs : List Value} {n : Nat} (hn : vs.length = n) (h : ∀ w', C w' → ∀ j u, vs[j]? = some u → w'.cell? ⟨b, o + j, none⟩ = some u) {K : Value → Prop} (hk : K (.agg vs.toArray)) : lNC C n (.pointer (some ⟨b, o, none⟩)) K := by
  subst hn
  exact ⟨_, _, rfl, fun w' hw => rdN_of vs 0 (fun j u hj => by rw [Nat.zero_add]; exact h w' hw j u hj), hk⟩

end Go.Proofs.Ythhpdcegkbfijaa.V
