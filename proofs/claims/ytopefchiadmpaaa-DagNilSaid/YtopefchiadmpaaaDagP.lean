/-
  The graph as plain data; what descends; how it is kept well formed. No Go in sight.
-/
namespace Go.Proofs.Ytopefchiadmpaaa.Dag
set_option linter.all false
set_option linter.unusedVariables false
set_option linter.unusedSimpArgs false
set_option linter.unnecessarySimpa false

def upI {α : Type} (f : Int → α) (i : Int) (x : α) : Int → α := fun j => if j = i then x else f j
theorem upI_same {α : Type} (f : Int → α) (i : Int) (x : α) : upI f i x i = x := by simp [upI]
theorem upI_other {α : Type} (f : Int → α) {i j : Int} (x : α) (h : j ≠ i) : upI f i x j = f j := by simp [upI, h]

/-- state (0: absent, 1 open, 2 done, 3 failed), parents, children, how many parents aren't done. -/
structure G where
  st : Int → Nat
  par : Int → List Int
  ch : Int → List Int
  pd : Int → Int

def InA (i : Int) : Prop := 0 ≤ i ∧ i ≤ 100

/-- x descends from a. -/
inductive Desc (ch : Int → List Int) (a : Int) : Int → Prop
  | base {x : Int} (h : x ∈ ch a) : Desc ch a x
  | step {y x : Int} (h : Desc ch a y) (hx : x ∈ ch y) : Desc ch a x

def IsBelow (ch : Int → List Int) (a : Int) (L : List Int) : Prop := L.Pairwise (· < ·) ∧ ∀ x, x ∈ L ↔ Desc ch a x

structure WF (g : G) : Prop where
  st0 : g.st 0 = 0
  st3 : ∀ i, g.st i ≤ 3
  chR : ∀ i c, InA i → c ∈ g.ch i → 1 ≤ c ∧ c ≤ 100
  chN : ∀ i, InA i → (g.ch i).Nodup
  link : ∀ p c, InA p → InA c → (c ∈ g.ch p ↔ g.st c ≠ 0 ∧ p ∈ g.par c)
  parR : ∀ c, InA c → g.st c ≠ 0 → ∀ p, p ∈ g.par c → 1 ≤ p ∧ p ≤ 100
  parS : ∀ c, InA c → g.st c ≠ 0 → (g.par c).Pairwise (· < ·)
  pd : ∀ c, InA c → g.st c ≠ 0 → g.pd c = ((g.par c).filter fun p => decide (g.st p ≠ 2)).length
  acyc : ∀ i, ¬ Desc g.ch i i
  fail : ∀ p c, InA p → g.st p = 3 → c ∈ g.ch p → g.st c = 3
  done : ∀ p c, InA c → g.st c = 2 → p ∈ g.par c → g.st p = 2

theorem Desc.inR {g : G} (h : WF g) {a x : Int} (ha : InA a) (hd : Desc g.ch a x) : 1 ≤ x ∧ x ≤ 100 := by
  induction hd with
  | base hx => exact h.chR _ _ ha hx
  | step hy hx ih => exact h.chR _ _ ⟨by omega, by omega⟩ hx

/-- what the walk over the children still has to do -/
def Mu (ch : Int → List Int) (out : List Int) : List Nat → Nat
  | [] => 0
  | i :: r => (if (i : Int) ∈ out then 0 else (ch i).length + 1) + Mu ch out r
theorem Mu_le (ch : Int → List Int) (out : List Int) (x : Int) : ∀ (l : List Nat), Mu ch (out ++ [x]) l ≤ Mu ch out l
  | [] => Nat.le_refl _
  | i :: r => by
    unfold Mu
    have := Mu_le ch out x r
    by_cases h : (i : Int) ∈ out
    · simp only [h, List.mem_append, true_or, if_true]; omega
    · simp only [h, List.mem_append, List.mem_singleton, false_or, if_false]
      split <;> omega
theorem Mu_step (ch : Int → List Int) (out : List Int) (x : Nat) (hx : (x : Int) ∉ out) : ∀ (l : List Nat), x ∈ l → Mu ch (out ++ [(x : Int)]) l + ((ch x).length + 1) ≤ Mu ch out l
  | [], h => by cases h
  | i :: r, h => by
    unfold Mu
    by_cases e : i = x
    · subst e
      have := Mu_le ch out (i : Int) r
      simp only [hx, List.mem_append, List.mem_singleton, or_true, if_true, if_false]
      omega
    · have hm : x ∈ r := by cases h with
        | head => exact (e rfl).elim
        | tail _ h => exact h
      have := Mu_step ch out x hx r hm
      have he : ((i : Int) ∈ out ++ [(x : Int)]) ↔ (i : Int) ∈ out := by
        simp only [List.mem_append, List.mem_singleton]
        exact ⟨fun h => h.resolve_right (by omega), .inl⟩
      simp only [he]
      omega
theorem Mu_bound (ch : Int → List Int) (out : List Int) (B : Nat) : ∀ (l : List Nat), (∀ i ∈ l, (ch (i : Int)).length ≤ B) → Mu ch out l ≤ l.length * (B + 1)
  | [], _ => by simp [Mu]
  | i :: r, h => by
    unfold Mu
    have h1 := Mu_bound ch out B r (fun j hj => h j (by simp [hj]))
    have h2 := h i (by simp)
    simp only [List.length_cons]
    rw [Nat.add_mul, Nat.one_mul]
    split <;> omega

/-- the walk's state -/
structure Wk (ch : Int → List Int) (a : Int) (todo out : List Int) : Prop where
  td : ∀ x, x ∈ todo → Desc ch a x
  od : ∀ x, x ∈ out → Desc ch a x
  nd : out.Nodup
  c0 : ∀ x, x ∈ ch a → x ∈ out ∨ x ∈ todo
  c1 : ∀ y x, y ∈ out → x ∈ ch y → x ∈ out ∨ x ∈ todo

theorem Wk.start (ch : Int → List Int) (a : Int) : Wk ch a (ch a) [] := ⟨fun x h => .base h, fun x h => (by cases h), List.nodup_nil, fun x h => .inr h, fun y x h => (by cases h)⟩
theorem Wk.skip {ch : Int → List Int} {a x : Int} {todo out : List Int} (h : Wk ch a (todo ++ [x]) out) (hx : x ∈ out) : Wk ch a todo out := by
  have go : ∀ y, y ∈ out ∨ y ∈ todo ++ [x] → y ∈ out ∨ y ∈ todo := fun y hy => by
    rcases hy with hy | hy
    · exact .inl hy
    · rcases List.mem_append.1 hy with hy | hy
      · exact .inr hy
      · rw [List.mem_singleton] at hy; subst hy; exact .inl hx
  exact ⟨fun y hy => h.td y (List.mem_append_left _ hy), h.od, h.nd, fun y hy => go y (h.c0 y hy), fun z y hz hy => go y (h.c1 z y hz hy)⟩
theorem Wk.take {ch : Int → List Int} {a x : Int} {todo out : List Int} (h : Wk ch a (todo ++ [x]) out) (hx : x ∉ out) : Wk ch a (todo ++ ch x) (out ++ [x]) := by
  have hdx := h.td x (by simp)
  have go : ∀ y, y ∈ out ∨ y ∈ todo ++ [x] → y ∈ out ++ [x] ∨ y ∈ todo ++ ch x := fun y hy => by
    simp only [List.mem_append, List.mem_singleton] at *
    rcases hy with hy | hy | hy
    · exact .inl (.inl hy)
    · exact .inr (.inl hy)
    · exact .inl (.inr hy)
  refine ⟨fun y hy => ?_, fun y hy => ?_, ?_, fun y hy => go y (h.c0 y hy), fun z y hz hy => ?_⟩
  · rcases List.mem_append.1 hy with hy | hy
    · exact h.td y (List.mem_append_left _ hy)
    · exact .step hdx hy
  · rcases List.mem_append.1 hy with hy | hy
    · exact h.od y hy
    · rw [List.mem_singleton] at hy; subst hy; exact hdx
  · rw [List.nodup_append]
    exact ⟨h.nd, by simp, fun y hy z hz e => by rw [List.mem_singleton] at hz; subst hz; subst e; exact hx hy⟩
  · rcases List.mem_append.1 hz with hz | hz
    · exact go y (h.c1 z y hz hy)
    · rw [List.mem_singleton] at hz; subst hz; exact .inr (List.mem_append_right _ hy)
theorem Wk.fin {ch : Int → List Int} {a : Int} {out : List Int} (h : Wk ch a [] out) (x : Int) : x ∈ out ↔ Desc ch a x := by
  refine ⟨h.od x, fun hd => ?_⟩
  induction hd with
  | base hx => exact (h.c0 _ hx).resolve_right (by simp)
  | step hy hx ih => exact (h.c1 _ _ ih hx).resolve_right (by simp)

/-- sorted, each once -/
theorem isBelow_of {ch : Int → List Int} {a : Int} {out : List Int} (h : Wk ch a [] out) : IsBelow ch a (out.mergeSort fun x y => decide (x ≤ y)) := by
  refine ⟨?_, fun x => by rw [List.mem_mergeSort]; exact h.fin x⟩
  have h1 : (out.mergeSort fun x y => decide (x ≤ y)).Pairwise (· ≤ ·) := by
    have := List.pairwise_mergeSort (le := fun x y : Int => decide (x ≤ y)) (fun a b c h1 h2 => by simp at *; omega) (fun a b => by simp; omega) out
    exact this.imp fun h => by simpa using h
  have h2 : (out.mergeSort fun x y => decide (x ≤ y)).Nodup := (List.mergeSort_perm out _).symm.nodup h.nd
  exact (h1.and h2).imp fun ⟨a, b⟩ => by omega

end Go.Proofs.Ytopefchiadmpaaa.Dag
