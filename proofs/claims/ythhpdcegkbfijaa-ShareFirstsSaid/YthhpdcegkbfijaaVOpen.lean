/-
  What an argument that came in reads as: slices, whatever they are of.
-/
import Derived.Test.YthhpdcegkbfijaaVLoop
import Derived.ChangeArms
import Derived.DataReads
namespace Go.Proofs.Ythhpdcegkbfijaa.V
set_option linter.all false
set_option linter.unusedVariables false
set_option linter.unusedSimpArgs false
set_option linter.unnecessarySimpa false

section
variable {H : Type} {en : TypeId × Value → H} {P : Program} {w : World} {base : Nat} {spare : Nat → Bool} {held : Bool}

/-- 'the cells cs read as a value of type t' -/
def Reads (en : TypeId × Value → H) (P : Program) (w : World) (base : Nat) (spare : Nat → Bool) (held : Bool) (t : TypeId) (cs : List Value) : Prop :=
  ∃ fuel y, DataW.trod en P w base spare held fuel t cs = some y

theorem reads_of {t : TypeId} {v : Value} {d : DataW H} {ps : List MemPlace} (h : DataW.Trod en P w base spare held t v d ps) : Reads en P w base spare held t v.cells.toList := by
  obtain ⟨fuel, h⟩ := h
  exact ⟨fuel, _, h⟩
theorem reads_int {t : TypeId} {k : IntKind} {cs : List Value} (ht : P.underlying t = some (.int k)) (h : Reads en P w base spare held t cs) : ∃ n, cs = [.int k n] ∧ (Lit.int k n).wf = true := by
  obtain ⟨fuel, y, h⟩ := h
  obtain ⟨n, h1, _, h2⟩ := DataW.trod_int ht h
  exact ⟨n, h1, h2⟩
theorem reads_string {t : TypeId} {cs : List Value} (ht : P.underlying t = some .string) (h : Reads en P w base spare held t cs) : ∃ s : ByteArray, cs = [.string s] ∧ s.size ≤ maxLen := by
  obtain ⟨fuel, y, h⟩ := h
  obtain ⟨n, h1, _, h2⟩ := DataW.trod_string ht h
  exact ⟨n, h1, h2⟩
theorem reads_bool {t : TypeId} {cs : List Value} (ht : P.underlying t = some .bool) (h : Reads en P w base spare held t cs) : ∃ b, cs = [.bool b] := by
  obtain ⟨fuel, y, h⟩ := h
  obtain ⟨n, h1, _⟩ := DataW.trod_bool ht h
  exact ⟨n, h1⟩
theorem reads_struct {t : TypeId} {fs : Array Field} {cs : List Value} (ht : P.underlying t = some (.struct fs)) (h : Reads en P w base spare held t cs) :
    cs.length = P.cellsOf t ∧ ∀ (i : Nat) (f : Field), fs[i]? = some f → Reads en P w base spare held f.type ((cs.drop f.offset).take (P.cellsOf f.type)) := by
  obtain ⟨fuel, y, h⟩ := h
  obtain ⟨xs, n, _, _, h1, h2, h3⟩ := DataW.trod_struct ht h
  refine ⟨h1, fun i f hf => ?_⟩
  have hi : i < xs.length := by rw [h2]; exact (Array.getElem?_eq_some_iff.1 hf).1
  exact ⟨n, xs[i], (h3 i f hf).trans (List.getElem?_eq_getElem hi)⟩
theorem reads_array {t e : TypeId} {n : Nat} {cs : List Value} (ht : P.underlying t = some (.array n e)) (h : Reads en P w base spare held t cs) :
    cs.length = P.cellsOf t ∧ ∀ i, i < n → Reads en P w base spare held e ((cs.drop (i * P.cellsOf e)).take (P.cellsOf e)) := by
  obtain ⟨fuel, y, h⟩ := h
  cases fuel with
  | zero => simp [DataW.trod] at h
  | succ m =>
    unfold DataW.trod at h
    rw [ht] at h
    split at h <;> simp_all
    obtain ⟨hl, xs, hp, hd⟩ := h
    intro i hi
    have hg := mapM_some_get hp i i (by simp [hi])
    have hlen := mapM_some_length hp
    exact ⟨m, xs[i]'(by simp at hlen; omega), hg.trans (List.getElem?_eq_getElem _)⟩

theorem list_of {α β : Type} (f : β → α) (Q : β → Prop) : ∀ (rows : List α), (∀ r, r ∈ rows → ∃ o, r = f o ∧ Q o) → ∃ os : List β, rows = os.map f ∧ ∀ o, o ∈ os → Q o
  | [], _ => ⟨[], rfl, fun o h => (by cases h)⟩
  | r :: rows, h => by
    obtain ⟨o, rfl, ho⟩ := h r (by simp)
    obtain ⟨os, rfl, hos⟩ := list_of f Q rows fun r hr => h r (by simp [hr])
    exact ⟨o :: os, rfl, fun x hx => by
      rcases List.mem_cons.1 hx with rfl | hx
      · exact ho
      · exact hos x hx⟩

theorem flat_get {sz : Nat} : ∀ (rows : List (List Value)), (∀ r, r ∈ rows → r.length = sz) → ∀ (j : Nat) (u : Value), rows.flatten[j]? = some u → ∃ i k, k < sz ∧ j = i * sz + k ∧ ∃ r, rows[i]? = some r ∧ r[k]? = some u
  | [], _, j, u, h => by simp at h
  | r :: rows, hr, j, u, h => by
    have h0 := hr r (by simp)
    rw [List.flatten_cons] at h
    by_cases hj : j < r.length
    · rw [List.getElem?_append_left hj] at h
      exact ⟨0, j, by omega, by omega, r, rfl, h⟩
    · rw [List.getElem?_append_right (by omega)] at h
      obtain ⟨i, k, h1, h2, r', h3, h4⟩ := flat_get rows (fun r hr' => hr r (by simp [hr'])) _ _ h
      exact ⟨i + 1, k, h1, by rw [Nat.add_mul]; omega, r', by simpa using h3, h4⟩

/-- A slice that came in: its rows. -/
theorem reads_slice {t e : TypeId} {sz : Nat} {cs : List Value} (ht : P.underlying t = some (.slice e)) (hsz : P.cellsOf e = sz) (hp : 0 < sz) (h : Reads en P w base spare held t cs) :
    ∃ (v : Value) (rows : List (List Value)), cs = [v] ∧ (∀ r, r ∈ rows → r.length = sz ∧ Reads en P w base spare held e r) ∧ Sl w sz v rows.length rows.flatten ∧ rows.length ≤ maxLen := by
  obtain ⟨fuel, y, h⟩ := h
  rcases DataW.trod_slice ht h with ⟨rfl, _⟩ | ⟨a, len, cap, elems, rest, n, _, rfl, _, hb, hl, hm, hlen, hel, _⟩
  · exact ⟨_, [], rfl, fun r h => (by cases h), Sl.nil _ _, Nat.zero_le _⟩
  rw [hsz] at hel
  have each : ∀ i, i < len → ∃ cs', w.cells? base (a.add (i * sz)) sz = some cs' ∧ (∃ y, DataW.trod en P w base spare held n e cs' = some y) := fun i hi => by
    have h1 := hel i hi
    rw [List.getElem?_eq_getElem (by omega), Option.bind_eq_some_iff] at h1
    obtain ⟨cs', h2, h3⟩ := h1
    exact ⟨cs', h2, _, h3⟩
  by_cases h0 : len = 0
  · subst h0
    exact ⟨_, [], rfl, fun r h => (by cases h), ⟨by simp, by simp, .inr (.inr ⟨a, cap, rfl, rfl⟩)⟩, Nat.zero_le _⟩
  -- the rows, by their index
  have hrows : ∀ m, m ≤ len → ∃ rows : List (List Value), rows.length = m ∧ ∀ i r, rows[i]? = some r → r.length = sz ∧ Reads en P w base spare held e r ∧ ∀ k, k < sz → w.cell? ((a.add (i * sz)).add k) = r[k]? := by
    intro m
    induction m with
    | zero => exact fun _ => ⟨[], rfl, fun i r h => (by simp at h)⟩
    | succ m ih =>
      intro hm
      obtain ⟨rows, hr1, hr2⟩ := ih (by omega)
      obtain ⟨cs', h1, y, h2⟩ := each m (by omega)
      obtain ⟨_, h3, h4⟩ := World.cells?_some h1
      refine ⟨rows ++ [cs'], by simp [hr1], fun i r hi => ?_⟩
      by_cases hlt : i < rows.length
      · rw [List.getElem?_append_left hlt] at hi; exact hr2 i r hi
      · rw [List.getElem?_append_right (by omega)] at hi
        have : i = rows.length := by
          have := (List.getElem?_eq_some_iff.1 hi).1
          simp at this; omega
        subst this
        rw [Nat.sub_self] at hi
        simp at hi
        subst hi
        rw [hr1]
        exact ⟨h3, ⟨n, _, h2⟩, h4⟩
  obtain ⟨rows, hr1, hr2⟩ := hrows len (Nat.le_refl _)
  obtain ⟨b, o, spot⟩ := a
  have hspot : spot = none := by
    have hr := hr2 0 rows[0] (List.getElem?_eq_getElem (by omega))
    have hc := hr.2.2 0 hp
    rw [List.getElem?_eq_getElem (by omega)] at hc
    have := World.cell?_spot hc
    simp only [Addr.add] at this
    split at this <;> simp_all
  subst hspot
  have hlt : b < w.heap.size := by
    have hr := hr2 0 rows[0] (List.getElem?_eq_getElem (by omega))
    have hc := hr.2.2 0 hp
    rw [List.getElem?_eq_getElem (by omega)] at hc
    have := World.block_lt_of_cell? w _ hc
    simpa [add_lit] using this
  have hall : ∀ r, r ∈ rows → r.length = sz := fun r hr => by
    obtain ⟨i, hi, rfl⟩ := List.mem_iff_getElem.1 hr
    exact (hr2 i _ (List.getElem?_eq_getElem hi)).1
  refine ⟨_, rows, rfl, fun r hr => ?_, ⟨?_, by rw [hr1]; simp [maxLen] at hm; omega, .inr (.inl ⟨b, o, cap, by rw [hr1], by omega, hlt, fun j u hj => ?_⟩)⟩, by omega⟩
  · obtain ⟨i, hi, rfl⟩ := List.mem_iff_getElem.1 hr
    obtain ⟨h1, h2, _⟩ := hr2 i _ (List.getElem?_eq_getElem hi)
    exact ⟨h1, h2⟩
  · have : ∀ l : List (List Value), (∀ r, r ∈ l → r.length = sz) → l.flatten.length = l.length * sz := by
      intro l
      induction l with
      | nil => intro _; simp
      | cons r l ih =>
        intro h
        rw [List.flatten_cons, List.length_append, h r (by simp), ih fun r hr => h r (by simp [hr]), List.length_cons, Nat.add_mul]; omega
    exact this rows hall
  · obtain ⟨i, k, hk, rfl, r, hi, hu⟩ := flat_get rows hall j u hj
    have := (hr2 i r hi).2.2 k hk
    rw [add_lit, add_lit, hu] at this
    rw [← Nat.add_assoc]; exact this

/-- A slice of integers that came in. -/
theorem reads_ints {t e : TypeId} {k : IntKind} {cs : List Value} (ht : P.underlying t = some (.slice e)) (he : P.underlying e = some (.int k)) (hsz : P.cellsOf e = 1) (h : Reads en P w base spare held t cs) :
    ∃ (v : Value) (l : List Int), cs = [v] ∧ Sl w 1 v l.length (l.map (Value.int k)) ∧ (∀ n, n ∈ l → (Lit.int k n).wf = true) ∧ l.length ≤ maxLen := by
  obtain ⟨v, rows, rfl, hr, hs, hm⟩ := reads_slice ht hsz (by omega) h
  obtain ⟨l, rfl, hl⟩ := list_of (fun n : Int => [Value.int k n]) (fun n => (Lit.int k n).wf = true) rows fun r hmem => by
    obtain ⟨n, h1, h2⟩ := reads_int he (hr r hmem).2
    exact ⟨n, h1, h2⟩
  have hflat : (l.map fun n : Int => [Value.int k n]).flatten = l.map (Value.int k) := by
    clear hl hr hs hm h
    induction l with
    | nil => rfl
    | cons a l ih => simp only [List.map_cons, List.flatten_cons, ih]; rfl
  rw [hflat] at hs
  simp only [List.length_map] at hs hm
  exact ⟨v, l, rfl, hs, hl, hm⟩
end

end Go.Proofs.Ythhpdcegkbfijaa.V
