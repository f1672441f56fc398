/-
  The Fibonacci heap in memory: entries, what is read and written; contracts: less, join, root.
-/
import Derived.Test.YthhpdcegkbfijaaShC
import Derived.Test.YthhpdcegkbfijaaFibP
namespace Go.Proofs.Ythhpdcegkbfijaa.Sh
open Go.Proofs.Ythhpdcegkbfijaa.V Go.Proofs.Ythhpdcegkbfijaa.T Go.Proofs.Ythhpdcegkbfijaa.Fib
set_option linter.all false
set_option maxRecDepth 100000
set_option linter.unusedVariables false
set_option linter.unusedSimpArgs false
set_option linter.unnecessarySimpa false

/-! ### rows of structs -/
theorem flat_set {α : Type} (f : α → List Value) {sz : Nat} (hf : ∀ a, (f a).length = sz) (g : α → α) {k : Nat} {u : Value} (hk : k < sz) : ∀ (L : List α) (i : Nat) (hi : i < L.length), f (g L[i]) = (f L[i]).set k u → (L.flatMap f).set (i * sz + k) u = (L.modify i g).flatMap f
  | [], i, hi, _ => absurd hi (by simp)
  | a :: L, 0, _, h => by
    simp only [List.getElem_cons_zero] at h
    simp only [List.flatMap_cons, List.modify_zero_cons, Nat.zero_mul, Nat.zero_add]
    rw [List.set_append_left _ _ (by rw [hf]; exact hk), h]
  | a :: L, i + 1, hi, h => by
    simp only [List.getElem_cons_succ] at h
    have ih := flat_set f hf g hk L i (by simpa using hi) h
    simp only [List.flatMap_cons, List.modify_succ_cons]
    rw [List.set_append_right _ _ (by rw [hf, Nat.add_mul]; omega), hf]
    rw [show (i + 1) * sz + k - sz = i * sz + k by rw [Nat.add_mul]; omega, ih]
theorem flat_at {α : Type} (f : α → List Value) {sz : Nat} (hf : ∀ a, (f a).length = sz) {k : Nat} (hk : k < sz) : ∀ (L : List α) (i : Nat) (hi : i < L.length), (L.flatMap f)[i * sz + k]? = (f L[i])[k]?
  | [], i, hi => absurd hi (by simp)
  | a :: L, 0, _ => by
    simp only [List.flatMap_cons, List.getElem_cons_zero, Nat.zero_mul, Nat.zero_add]
    rw [List.getElem?_append_left (by rw [hf]; exact hk)]
  | a :: L, i + 1, hi => by
    simp only [List.flatMap_cons, List.getElem_cons_succ]
    rw [List.getElem?_append_right (by rw [hf, Nat.add_mul]; omega), hf, show (i + 1) * sz + k - sz = i * sz + k by rw [Nat.add_mul]; omega]
    exact flat_at f hf hk L i (by simpa using hi)
theorem flat_ovr {α : Type} (f : α → List Value) {sz : Nat} (hf : ∀ a, (f a).length = sz) (e : α) : ∀ (L : List α) (i : Nat) (hi : i < L.length), ovr (L.flatMap f) (i * sz) (f e) = (L.set i e).flatMap f
  | [], i, hi => absurd hi (by simp)
  | a :: L, 0, _ => by
    unfold ovr
    simp only [List.flatMap_cons, List.set_cons_zero, Nat.zero_mul, Nat.zero_add, List.take_zero, List.nil_append]
    rw [List.drop_append, hf, ← hf a, List.drop_length]; simp
  | a :: L, i + 1, hi => by
    have ih := flat_ovr f hf e L i (by simpa using hi)
    unfold ovr at *
    simp only [List.flatMap_cons, List.set_cons_succ]
    have h1 : (i + 1) * sz = (f a).length + i * sz := by rw [hf, Nat.add_mul]; omega
    rw [h1, List.take_length_add_append, Nat.add_assoc, List.drop_length_add_append, ← ih]
    simp [List.append_assoc]

theorem own_stN {T sz : Nat} {v : Value} {n g : Nat} (hg : inB v g) : ∀ (vs : List Value) (i o : Nat) (w : World) (xs : List Value), Own w T sz v n xs → 0 < n → o + i + vs.length ≤ n * sz → (∀ u, u ∈ vs → oneB u = true) →
    ∃ w', stN vs i ⟨g, o, none⟩ w = some w' ∧ Own w' T sz v n (ovr xs (o + i) vs) ∧ Ext (inB v) w w' ∧ w'.heap.size = w.heap.size
  | [], i, o, w, xs, h, _, _, _ => ⟨w, rfl, by rw [ovr_nil]; exact h, Ext.refl _ _, rfl⟩
  | u :: vs, i, o, w, xs, h, h0, hl, h1 => by
    simp only [List.length_cons] at hl
    obtain ⟨g', e1, e2, e3, e4, e5, e6⟩ := h.spot (k := .i64) (i := 0) h0
    obtain rfl : g' = g := by unfold inB at e1 hg; rw [hg] at e1; exact (Option.some.inj e1).symm
    have hx : xs.length = n * sz := h.1
    obtain ⟨w', q1, q2, q3, q4⟩ := own_stN hg vs (i + 1) o _ _ (e6 (o + i) u (by omega)) h0 (by omega) fun u hu => h1 u (List.mem_cons_of_mem _ hu)
    refine ⟨w', ?_, ?_, ?_, ?_⟩
    · have hc : (w.cell? ⟨g', o + i, none⟩).isSome = true := by rw [e4 _ (by omega), List.getElem?_eq_getElem (by omega)]; rfl
      simp only [stN, add_lit, h1 u (by simp), hc, e5, Bool.not_false, Bool.and_true, if_true]
      exact q1
    · rw [← Nat.add_assoc, ovr_cons _ _ _ _ (by omega)] at q2; exact q2
    · exact (Ext.setCell (S := inB v) (Ext.refl _ w) (fun _ => hg) u).trans q3 fun _ _ h => h
    · rw [q4]; simp

/-! ### entries -/
structure Ent where
  n : Nat
  d : Nat
  tie : Int
  par : Int
  ch : Int
  lf : Int
  rt : Nat
  deg : Nat
  mkd : Bool
  th : Bool
def eC (e : Ent) : List Value := [u64 e.n, u64 e.d, .int .i64 e.tie, .int .i64 e.par, .int .i64 e.ch, .int .i64 e.lf, .int .i64 (e.rt : Int), .int .i64 (e.deg : Int), .bool e.mkd, .bool e.th]
theorem eC_len (e : Ent) : (eC e).length = 10 := rfl
structure Core where
  n : Nat
  d : Nat
  tie : Int
  ch : Int
  rt : Nat
  deg : Nat
def core (e : Ent) : Core := ⟨e.n, e.d, e.tie, e.ch, e.rt, e.deg⟩
def upN {α : Type} (f : Nat → α) (i : Nat) (x : α) : Nat → α := fun j => if j = i then x else f j
theorem upN_same {α : Type} (f : Nat → α) (i : Nat) (x : α) : upN f i x i = x := by simp [upN]
theorem upN_other {α : Type} (f : Nat → α) {i j : Nat} (x : α) (h : j ≠ i) : upN f i x j = f j := by simp [upN, h]
theorem upN_id {α : Type} (f : Nat → α) (i : Nat) : upN f i (f i) = f := by
  funext j; by_cases h : j = i
  · subst h; exact upN_same _ _ _
  · exact upN_other _ _ h

def ptr (b : Nat) : Value := .pointer (some ⟨b, 0, none⟩)
/-- The heap's struct at block b, its entries in the row sv. -/
structure HM (w : World) (b : Nat) (sv : Value) (least nn : Int) (len : Nat) (C : Nat → Core) : Prop where
  bk : ∃ T, Bk w b [sv, .int .i64 least, .int .i64 nn] T
  nb : ¬ inB sv b
  few : len ≤ 1048576
  own : ∃ es : List Ent, Own w 82 10 sv len (es.flatMap eC) ∧ es.length = len ∧ ∀ i (hi : i < es.length), core es[i] = C i

theorem HM.ext {S : Nat → Prop} {w w' : World} {b : Nat} {sv : Value} {least nn : Int} {len : Nat} {C : Nat → Core} (h : HM w b sv least nn len C) (he : Ext S w w') (hb : ¬ S b) (hn : ∀ k, inB sv k → ¬ S k) : HM w' b sv least nn len C := by
  obtain ⟨⟨T, h1⟩, h2, h3, es, h4, h5⟩ := h
  exact ⟨⟨T, h1.ext he hb⟩, h2, h3, es, h4.ext he hn, h5⟩
theorem HM.no {w w' : World} {b : Nat} {sv : Value} {least nn : Int} {len : Nat} {C : Nat → Core} (h : HM w b sv least nn len C) (he : Ext No w w') : HM w' b sv least nn len C := h.ext he (fun h => h) fun _ _ h => h
theorem HM.lt {w : World} {b : Nat} {sv : Value} {least nn : Int} {len : Nat} {C : Nat → Core} (h : HM w b sv least nn len C) : b < w.heap.size := by obtain ⟨⟨T, h1⟩, _⟩ := h; exact h1.lt
theorem HM.lt' {w : World} {b : Nat} {sv : Value} {least nn : Int} {len : Nat} {C : Nat → Core} (h : HM w b sv least nn len C) {k : Nat} (hk : inB sv k) : k < w.heap.size := by obtain ⟨_, _, _, es, h4, _⟩ := h; exact h4.lt hk
theorem HM.ent {w : World} {b : Nat} {sv : Value} {least nn : Int} {len : Nat} {C : Nat → Core} (h : HM w b sv least nn len C) (K : Value → Prop) : l1 (.pointer (some ⟨b, 0, none⟩)) w K = K sv := by obtain ⟨⟨T, h1⟩, _⟩ := h; exact h1.l1 rfl K
theorem HM.lst {w : World} {b : Nat} {sv : Value} {least nn : Int} {len : Nat} {C : Nat → Core} (h : HM w b sv least nn len C) (K : Value → Prop) : l1 (.pointer (some ⟨b, 1, none⟩)) w K = K (.int .i64 least) := by obtain ⟨⟨T, h1⟩, _⟩ := h; exact h1.l1 rfl K
theorem HM.cnt {w : World} {b : Nat} {sv : Value} {least nn : Int} {len : Nat} {C : Nat → Core} (h : HM w b sv least nn len C) (K : Value → Prop) : l1 (.pointer (some ⟨b, 2, none⟩)) w K = K (.int .i64 nn) := by obtain ⟨⟨T, h1⟩, _⟩ := h; exact h1.l1 rfl K
theorem HM.slen {w : World} {b : Nat} {sv : Value} {least nn : Int} {len : Nat} {C : Nat → Core} (h : HM w b sv least nn len C) : lenO sv = some (.int .i64 len) := by
  obtain ⟨_, _, h3, es, h4, _⟩ := h; exact (h4.sl h4.le).len
theorem HM.setLst {w : World} {b : Nat} {sv : Value} {least nn : Int} {len : Nat} {C : Nat → Core} (h : HM w b sv least nn len C) (x : Int) {K : World → Prop} (hK : ∀ w', HM w' b sv x nn len C → Ext (fun k => k = b) w w' → w'.heap.size = w.heap.size → K w') :
    stW 1 (.pointer (some ⟨b, 1, none⟩)) (.int .i64 x) w K := by
  obtain ⟨⟨T, h1⟩, h2, h3, es, h4, h5⟩ := h
  exact h1.st1 (by simp) rfl rfl fun w' hb he hsz => hK w' ⟨⟨T, hb⟩, h2, h3, es, h4.ext he fun k hk e => h2 (e ▸ hk), h5⟩ he hsz
theorem HM.setCnt {w : World} {b : Nat} {sv : Value} {least nn : Int} {len : Nat} {C : Nat → Core} (h : HM w b sv least nn len C) (x : Int) {K : World → Prop} (hK : ∀ w', HM w' b sv least x len C → Ext (fun k => k = b) w w' → w'.heap.size = w.heap.size → K w') :
    stW 1 (.pointer (some ⟨b, 2, none⟩)) (.int .i64 x) w K := by
  obtain ⟨⟨T, h1⟩, h2, h3, es, h4, h5⟩ := h
  exact h1.st1 (by simp) rfl rfl fun w' hb he hsz => hK w' ⟨⟨T, hb⟩, h2, h3, es, h4.ext he fun k hk e => h2 (e ▸ hk), h5⟩ he hsz

/-- An entry's place, and what lies there. -/
structure At (w : World) (sv : Value) (g i : Nat) (c : Core) : Prop where
  ix : ixsO 10 sv (.int .i64 (i : Int)) = some (.pointer (some ⟨g, i * 10, none⟩))
  own : inB sv g
  n : w.cell? ⟨g, i * 10, none⟩ = some (u64 c.n)
  d : w.cell? ⟨g, i * 10 + 1, none⟩ = some (u64 c.d)
  tie : w.cell? ⟨g, i * 10 + 2, none⟩ = some (.int .i64 c.tie)
  ch : w.cell? ⟨g, i * 10 + 4, none⟩ = some (.int .i64 c.ch)
  rt : w.cell? ⟨g, i * 10 + 6, none⟩ = some (.int .i64 (c.rt : Int))
  deg : w.cell? ⟨g, i * 10 + 7, none⟩ = some (.int .i64 (c.deg : Int))
theorem HM.at {w : World} {b : Nat} {sv : Value} {least nn : Int} {len : Nat} {C : Nat → Core} (h : HM w b sv least nn len C) {i : Nat} (hi : i < len) : ∃ g, At w sv g i (C i) := by
  obtain ⟨_, h2, h3, es, h4, h5, h6⟩ := h
  obtain ⟨g, e1, e2, e3, e4, e5, e6⟩ := h4.spot (k := .i64) hi
  have hc := h6 i (by omega)
  have key : ∀ k, k < 10 → w.cell? ⟨g, i * 10 + k, none⟩ = (eC (es[i]'(by omega)))[k]? := fun k hk => by
    rw [e4 _ (by omega), flat_at eC eC_len hk es i (by omega)]
  rw [← hc]
  exact ⟨g, e3, e1, key 0 (by omega), key 1 (by omega), key 2 (by omega), key 4 (by omega), key 6 (by omega), key 7 (by omega)⟩
theorem HM.wr {w : World} {b : Nat} {sv : Value} {least nn : Int} {len : Nat} {C : Nat → Core} (h : HM w b sv least nn len C) {i g : Nat} (hi : i < len) (hg : inB sv g) {k : Nat} (hk : k < 10) {u : Value} (hu : oneB u = true) (hc : u.cells = #[u])
    (f : Ent → Ent) (hf : ∀ e, eC (f e) = (eC e).set k u) (c : Core → Core) (hcc : ∀ e, core (f e) = c (core e)) {K : World → Prop}
    (hK : ∀ w', HM w' b sv least nn len (upN C i (c (C i))) → Ext (inB sv) w w' → w'.heap.size = w.heap.size → K w') : stW 1 (.pointer (some ⟨g, i * 10 + k, none⟩)) u w K := by
  obtain ⟨⟨T, h1⟩, h2, h3, es, h4, h5, h6⟩ := h
  obtain ⟨g', e1, e2, e3, e4, e5, e6⟩ := h4.spot (k := .i64) hi
  obtain rfl : g' = g := by unfold inB at e1 hg; rw [hg] at e1; exact (Option.some.inj e1).symm
  have hx : (es.flatMap eC).length = len * 10 := h4.1
  have hlt : i * 10 + k < len * 10 := by omega
  refine st1_of (u := (es.flatMap eC)[i * 10 + k]'(by omega)) (by rw [e4 _ hlt]; exact List.getElem?_eq_getElem _) (e5 _) hu (by rw [hc]; rfl) (by rw [hc]) (hK _ ⟨⟨T, ?_⟩, h2, h3, es.modify i f, ?_, by simp [h5], fun j hj => ?_⟩ ?_ (by simp))
  · exact h1.ext (Ext.setCell (S := inB sv) (Ext.refl _ w) (fun _ => hg) u) h2
  · have := e6 (i * 10 + k) u hlt
    rw [flat_set eC eC_len f hk es i (by omega) (hf _)] at this
    exact this
  · simp only [List.length_modify] at hj
    rw [List.getElem_modify]
    by_cases e : i = j
    · subst e; rw [if_pos rfl, upN_same, hcc, h6 i hj]
    · rw [if_neg e, upN_other _ _ fun e2 => e e2.symm, h6 j hj]
  · exact Ext.setCell (S := inB sv) (Ext.refl _ w) (fun _ => hg) u
/-- fields that are never read -/
theorem HM.wr0 {w : World} {b : Nat} {sv : Value} {least nn : Int} {len : Nat} {C : Nat → Core} (h : HM w b sv least nn len C) {i g : Nat} (hi : i < len) (hg : inB sv g) {k : Nat} (hk : k < 10) {u : Value} (hu : oneB u = true) (hc : u.cells = #[u])
    (f : Ent → Ent) (hf : ∀ e, eC (f e) = (eC e).set k u) (hcc : ∀ e, core (f e) = core e) {K : World → Prop}
    (hK : ∀ w', HM w' b sv least nn len C → Ext (inB sv) w w' → w'.heap.size = w.heap.size → K w') : stW 1 (.pointer (some ⟨g, i * 10 + k, none⟩)) u w K :=
  h.wr hi hg hk hu hc f hf (fun c => c) hcc fun w' h1 h2 h3 => hK w' (by rw [upN_id] at h1; exact h1) h2 h3
theorem HM.wPar {w : World} {b : Nat} {sv : Value} {least nn : Int} {len : Nat} {C : Nat → Core} (h : HM w b sv least nn len C) {i g : Nat} (hi : i < len) (hg : inB sv g) (x : Int) {K : World → Prop}
    (hK : ∀ w', HM w' b sv least nn len C → Ext (inB sv) w w' → w'.heap.size = w.heap.size → K w') : stW 1 (.pointer (some ⟨g, i * 10 + 3, none⟩)) (.int .i64 x) w K :=
  h.wr0 hi hg (by omega) rfl rfl (fun e => { e with par := x }) (fun _ => rfl) (fun _ => rfl) hK
theorem HM.wLf {w : World} {b : Nat} {sv : Value} {least nn : Int} {len : Nat} {C : Nat → Core} (h : HM w b sv least nn len C) {i g : Nat} (hi : i < len) (hg : inB sv g) (x : Int) {K : World → Prop}
    (hK : ∀ w', HM w' b sv least nn len C → Ext (inB sv) w w' → w'.heap.size = w.heap.size → K w') : stW 1 (.pointer (some ⟨g, i * 10 + 5, none⟩)) (.int .i64 x) w K :=
  h.wr0 hi hg (by omega) rfl rfl (fun e => { e with lf := x }) (fun _ => rfl) (fun _ => rfl) hK
theorem HM.wMk {w : World} {b : Nat} {sv : Value} {least nn : Int} {len : Nat} {C : Nat → Core} (h : HM w b sv least nn len C) {i g : Nat} (hi : i < len) (hg : inB sv g) (x : Bool) {K : World → Prop}
    (hK : ∀ w', HM w' b sv least nn len C → Ext (inB sv) w w' → w'.heap.size = w.heap.size → K w') : stW 1 (.pointer (some ⟨g, i * 10 + 8, none⟩)) (.bool x) w K :=
  h.wr0 hi hg (by omega) rfl rfl (fun e => { e with mkd := x }) (fun _ => rfl) (fun _ => rfl) hK
theorem HM.wRt {w : World} {b : Nat} {sv : Value} {least nn : Int} {len : Nat} {C : Nat → Core} (h : HM w b sv least nn len C) {i g : Nat} (hi : i < len) (hg : inB sv g) (x : Nat) {K : World → Prop}
    (hK : ∀ w', HM w' b sv least nn len (upN C i { C i with rt := x }) → Ext (inB sv) w w' → w'.heap.size = w.heap.size → K w') : stW 1 (.pointer (some ⟨g, i * 10 + 6, none⟩)) (.int .i64 (x : Int)) w K :=
  h.wr hi hg (by omega) rfl rfl (fun e => { e with rt := x }) (fun _ => rfl) (fun c => { c with rt := x }) (fun _ => rfl) hK
theorem HM.wCh {w : World} {b : Nat} {sv : Value} {least nn : Int} {len : Nat} {C : Nat → Core} (h : HM w b sv least nn len C) {i g : Nat} (hi : i < len) (hg : inB sv g) (x : Int) {K : World → Prop}
    (hK : ∀ w', HM w' b sv least nn len (upN C i { C i with ch := x }) → Ext (inB sv) w w' → w'.heap.size = w.heap.size → K w') : stW 1 (.pointer (some ⟨g, i * 10 + 4, none⟩)) (.int .i64 x) w K :=
  h.wr hi hg (by omega) rfl rfl (fun e => { e with ch := x }) (fun _ => rfl) (fun c => { c with ch := x }) (fun _ => rfl) hK
theorem HM.wDeg {w : World} {b : Nat} {sv : Value} {least nn : Int} {len : Nat} {C : Nat → Core} (h : HM w b sv least nn len C) {i g : Nat} (hi : i < len) (hg : inB sv g) (x : Nat) {K : World → Prop}
    (hK : ∀ w', HM w' b sv least nn len (upN C i { C i with deg := x }) → Ext (inB sv) w w' → w'.heap.size = w.heap.size → K w') : stW 1 (.pointer (some ⟨g, i * 10 + 7, none⟩)) (.int .i64 (x : Int)) w K :=
  h.wr hi hg (by omega) rfl rfl (fun e => { e with deg := x }) (fun _ => rfl) (fun c => { c with deg := x }) (fun _ => rfl) hK
/-- a whole entry is written -/
theorem HM.wAll {w : World} {b : Nat} {sv : Value} {least nn : Int} {len : Nat} {C : Nat → Core} (h : HM w b sv least nn len C) {i g : Nat} (hi : i < len) (hg : inB sv g) (e : Ent) {K : World → Prop}
    (hK : ∀ w', HM w' b sv least nn len (upN C i (core e)) → Ext (inB sv) w w' → w'.heap.size = w.heap.size → K w') : stW 10 (.pointer (some ⟨g, i * 10, none⟩)) (.agg (eC e).toArray) w K := by
  obtain ⟨⟨T, h1⟩, h2, h3, es, h4, h5, h6⟩ := h
  obtain ⟨w', q1, q2, q3, q4⟩ := own_stN hg (eC e) 0 (i * 10) w _ h4 (by omega) (by simp [eC]; omega) (by simp [eC, oneB])
  refine ⟨_, w', rfl, rfl, q1, hK w' ⟨⟨T, h1.ext q3 h2⟩, h2, h3, es.set i e, ?_, by simp [h5], fun j hj => ?_⟩ q3 q4⟩
  · rw [Nat.add_zero, flat_ovr eC eC_len e es i (by omega)] at q2; exact q2
  · simp only [List.length_set] at hj
    rw [List.getElem_set]
    by_cases e2 : i = j
    · subst e2; rw [if_pos rfl, upN_same]
    · rw [if_neg e2, upN_other _ _ fun e3 => e2 e3.symm, h6 j hj]

/-! ### the order -/
def ltH (k : Nat → Core) (x y : Nat) : Prop := orL [cmpI (((k x).n * (k y).d : Nat) : Int) (((k y).n * (k x).d : Nat) : Int), cmpI (k x).tie (k y).tie, cmpI (x : Int) (y : Int)] < 0
instance ltH_dec (k : Nat → Core) (x y : Nat) : Decidable (ltH k x y) := Int.decLt _ _
theorem ltH_iff (k : Nat → Core) (x y : Nat) : ltH k x y ↔ (k x).n * (k y).d < (k y).n * (k x).d ∨ ((k x).n * (k y).d = (k y).n * (k x).d ∧ ((k x).tie < (k y).tie ∨ ((k x).tie = (k y).tie ∧ x < y))) := by
  unfold ltH
  generalize (k x).n * (k y).d = a
  generalize (k y).n * (k x).d = b
  generalize (k x).tie = s
  generalize (k y).tie = t
  unfold orL orL orL orL cmpI
  split <;> (try split) <;> (try split) <;> (try split) <;> (try split) <;> (try split) <;> (try split) <;> omega
theorem ltH_irrefl (k : Nat → Core) (x : Nat) : ¬ ltH k x x := by rw [ltH_iff]; omega
theorem ltH_tot (k : Nat → Core) {x y : Nat} (h : x ≠ y) : ltH k x y ∨ ltH k y x := by rw [ltH_iff, ltH_iff]; omega
theorem frac_lt {a b c d e f : Nat} (hd : 0 < d) (hb : 0 < b) (hf : 0 < f) (h1 : a * d < c * b) (h2 : c * f ≤ e * d) : a * f < e * b := by
  refine Nat.lt_of_mul_lt_mul_right (a := d) ?_
  calc a * f * d = a * d * f := by rw [Nat.mul_right_comm]
    _ < c * b * f := Nat.mul_lt_mul_of_pos_right h1 hf
    _ = c * f * b := by rw [Nat.mul_right_comm]
    _ ≤ e * d * b := Nat.mul_le_mul_right _ h2
    _ = e * b * d := by rw [Nat.mul_right_comm]
theorem frac_lt' {a b c d e f : Nat} (hd : 0 < d) (hb : 0 < b) (h1 : a * d ≤ c * b) (h2 : c * f < e * d) : a * f < e * b := by
  refine Nat.lt_of_mul_lt_mul_right (a := d) ?_
  calc a * f * d = a * d * f := by rw [Nat.mul_right_comm]
    _ ≤ c * b * f := Nat.mul_le_mul_right _ h1
    _ = c * f * b := by rw [Nat.mul_right_comm]
    _ < e * d * b := Nat.mul_lt_mul_of_pos_right h2 hb
    _ = e * b * d := by rw [Nat.mul_right_comm]
theorem ltH_trans {k : Nat → Core} (hp : ∀ x, 0 < (k x).d) (x y z : Nat) (h1 : ltH k x y) (h2 : ltH k y z) : ltH k x z := by
  rw [ltH_iff] at *
  have px := hp x
  have py := hp y
  have pz := hp z
  rcases h1 with h1 | ⟨h1, h3⟩
  · refine .inl ?_
    rcases h2 with h2 | ⟨h2, _⟩
    · exact frac_lt py px pz h1 (Nat.le_of_lt h2)
    · exact frac_lt py px pz h1 (Nat.le_of_eq h2)
  · rcases h2 with h2 | ⟨h2, h4⟩
    · exact .inl (frac_lt' py px (Nat.le_of_eq h1) h2)
    · refine .inr ⟨frac_eq py h1 h2, ?_⟩
      omega

end Go.Proofs.Ythhpdcegkbfijaa.Sh
