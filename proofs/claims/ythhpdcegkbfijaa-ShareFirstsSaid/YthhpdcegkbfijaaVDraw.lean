/-
  Regions that draw their order: one road along a plan serves every order.
-/
import Derived.Test.YthhpdcegkbfijaaVOps
namespace Go.Proofs.Ythhpdcegkbfijaa.V
set_option linter.all false
set_option linter.unusedVariables false
set_option linter.unusedSimpArgs false
set_option linter.unnecessarySimpa false

/-- Only the normal end. -/
def QN (K : Act → World → Prop) : Exit → Act → World → Prop := fun e a w => match e with | .normal => K a w | _ => False

section
variable {P : Program} {ops : Array Oper} {K : Act → World → Prop} {md : Region.Mode}

/-- Whatever order is picked; behind an operation that is flagged the world is of class C. -/
def anyC (P : Program) (md : Region.Mode) (ops : Array Oper) (flag : Nat → Bool) (C : World → Prop) (K : Act → World → Prop) : Nat → Array Bool → Act → World → Prop
  | 0, listed, a, w => Region.ready md ops listed = [] ∧ K a w
  | fuel + 1, listed, a, w =>
    (Region.ready md ops listed = [] → K a w) ∧
    ∀ i ∈ Region.ready md ops listed, wpOp P ops (QN K) i (fun a' w' => (flag i = true → C w') ∧ anyC P md ops flag C K fuel (listed.setIfInBounds i true) a' w') a w

theorem any_of_anyC {flag : Nat → Bool} {C : World → Prop} : ∀ (fuel : Nat) (listed : Array Bool) (a : Act) (w : World), anyC P md ops flag C K fuel listed a w → wpAny P md ops (QN K) fuel listed a w
  | 0, listed, a, w, h => h
  | fuel + 1, listed, a, w, h => ⟨h.1, fun i hi => wpOp_mono (fun a' w' h' => any_of_anyC fuel _ a' w' h'.2) (h.2 i hi)⟩

/-- In state 'a', in every world of class D, operation 'o' leaves 'v'. -/
def YieldsC (P : Program) (ops : Array Oper) (D : World → Prop) (o : Oper) (v : Value) (a : Act) : Prop :=
  (Region.wanted o (yielded ops a.tmps) = true ∧ ∀ w, D w → (execOp a.eval o).run P w = .ok (.value v) w) ∨
  (Region.wanted o (yielded ops a.tmps) = false ∧ v = undef)

theorem YieldsC.wpOp {D : World → Prop} {i : Nat} {o : Oper} {v : Value} {a : Act} {Q : Exit → Act → World → Prop} (hi : ops[i]? = some o) (hy : YieldsC P ops D o v a)
    {K : Act → World → Prop} {w : World} (hw : D w) (h : K (a.put o.dst v) w) : wpOp P ops Q i K a w := by
  unfold Go.wpOp
  simp only [hi]
  rcases hy with ⟨hw', hv⟩ | ⟨hw', rfl⟩
  · simp only [hw', if_true, Oper.wp, hv w hw, Oper.upon]; exact .inl h
  · simp only [hw', Bool.false_eq_true, if_false]; exact h

theorem YieldsC.of_same {D : World → Prop} {o : Oper} {v : Value} {a a' : Act} (hy : YieldsC P ops D o v a) (he : execOp a'.eval o = execOp a.eval o)
    (hw : Region.wanted o (yielded ops a'.tmps) = Region.wanted o (yielded ops a.tmps)) : YieldsC P ops D o v a' := by
  unfold YieldsC at *
  rw [he, hw]
  exact hy

/-- Whether 'oi' has come up already makes no difference to 'oj', which is apart from it. -/
theorem op_apart {j : Nat} {oi oj : Oper} {v : Value} {D : World → Prop} (hj : ops[j]? = some oj) (hap : oi.apart ops oj = true)
    (hsi : ∀ cs b, oi.op ≠ .select cs b) (hsj : ∀ cs b, oj.op ≠ .select cs b) {F G : Act → World → Prop} {a : Act} {w : World}
    (hy : YieldsC P ops D oi v a) (h : wpOp P ops (QN G) j F (a.put oi.dst v) w) :
    wpOp P ops (QN G) j (fun a' w' => YieldsC P ops D oi v a' ∧ F (a'.put oi.dst v) w') a w := by
  obtain ⟨h1, h2, h3⟩ := Oper.apart_spec hap
  have stays : ∀ (a : Act), YieldsC P ops D oi v a → ∀ u, YieldsC P ops D oi v (a.put oj.dst u) := fun a hy u =>
    hy.of_same (execOp_put oi hsi a oj.dst u h3) (wanted_put oi a oj.dst u h3)
  have staysD : ∀ d, YieldsC P ops D oi v { a with defers := d :: a.defers } := fun d => hy.of_same rfl rfl
  unfold wpOp at *
  simp only [hj] at *
  rw [wanted_put oj a oi.dst v h1] at h
  split
  · rename_i hw
    simp only [hw, if_true] at h
    rcases h with h | ⟨_, _, _, hl⟩
    case inr => exact hl.elim
    refine .inl ?_
    unfold Oper.wp at *
    rw [execOp_put oj hsj a oi.dst v h1] at h
    generalize (execOp a.eval oj).run P w = r at *
    cases r with
    | ok n w' =>
      cases n <;> simp only [Oper.upon] at h ⊢
      case value u => exact ⟨stays a hy u, by rw [← Act.put_comm a v u h2]; exact h⟩
      case skip => exact ⟨stays a hy _, by rw [← Act.put_comm a v undef h2]; exact h⟩
      case defer d =>
        refine ⟨stays _ (staysD d) _, ?_⟩
        rw [← Act.put_comm _ v undef h2, ← Act.put_defers]
        exact h
      case enter f args =>
        refine Calls.mono h fun e w'' he => ?_
        cases e with
        | returned u => exact ⟨stays a hy u, by rw [← Act.put_comm a v u h2]; exact he⟩
        | panicked c => exact he.elim
        | outgrown => obtain ⟨_, _, hl⟩ := he; exact hl.elim
      case row row args => exact Rows.mono h fun u w'' he => ⟨stays a hy u, by rw [← Act.put_comm a v u h2]; exact he⟩
    | halt x w' =>
      cases x <;> simp only [Oper.upon] at h ⊢
      case panic u => exact h.elim
  · rename_i hw
    simp only [hw] at h
    exact ⟨stays a hy _, by rw [← Act.put_comm a v undef h2]; exact h⟩

/-- 'j' waits for 'k', through operations that have not come up. -/
inductive Waits (md : Region.Mode) (ops : Array Oper) (listed : Array Bool) (k : Nat) : Nat → Prop
  | here {j : Nat} {o : Oper} {e : Edge} (ho : ops[j]? = some o) (he : e ∈ o.after) (hb : Region.binds md e = true) (hk : e.on = k) : Waits md ops listed k j
  | more {j : Nat} {o : Oper} {e : Edge} (ho : ops[j]? = some o) (he : e ∈ o.after) (hb : Region.binds md e = true) (hm : listed.getD e.on false = false) (hw : Waits md ops listed k e.on) : Waits md ops listed k j

theorem Waits.not_ready {listed : Array Bool} {k j : Nat} (h : Waits md ops listed k j) (hk : listed.getD k false = false) : j ∉ Region.ready md ops listed := by
  intro hr
  obtain ⟨_, o', ho', hall⟩ := mem_ready.1 hr
  cases h with
  | here ho he hb hk' =>
    rw [ho] at ho'; cases ho'
    have := hall _ he hb
    rw [hk', hk] at this; cases this
  | more ho he hb hm hw =>
    rw [ho] at ho'; cases ho'
    have := hall _ he hb
    rw [hm] at this; cases this

theorem Waits.keep {listed : Array Bool} {k j i : Nat} (h : Waits md ops listed k j) (hk : listed.getD k false = false) (hi : i ∈ Region.ready md ops listed) : Waits md ops (listed.setIfInBounds i true) k j := by
  induction h with
  | here ho he hb hk' => exact .here ho he hb hk'
  | @more j o e ho he hb hm hw ih =>
    refine .more ho he hb ?_ ih
    by_cases hie : i = e.on
    · subst hie; exact (hw.not_ready hk hi).elim
    · rw [getD_set_ne false hie]; exact hm

/-- An operation that may come up now may be taken first. -/
theorem anyC_first {flag : Nat → Bool} {C : World → Prop} {i : Nat} {oi : Oper} {v : Value} {need : Bool} (hi : ops[i]? = some oi) (hsel : ∀ (j : Nat) (o : Oper) cs b, ops[j]? = some o → o.op ≠ .select cs b)
    (hflag : flag i = true → need = true) :
    ∀ (fuel : Nat) (listed : Array Bool) (a : Act) (w : World),
      (∀ j oj, ops[j]? = some oj → j ≠ i → listed.getD j true = false → (∀ e ∈ oj.after, Region.binds md e = true → e.on ≠ i) → oi.apart ops oj = true) →
      (∀ j, j < ops.size → j ≠ i → listed.getD j true = false → need = true → flag j = true ∨ Waits md ops listed i j) →
      i ∈ Region.ready md ops listed → YieldsC P ops (fun w => need = true → C w) oi v a → (need = true → C w) →
      anyC P md ops flag C K fuel (listed.setIfInBounds i true) (a.put oi.dst v) w → anyC P md ops flag C K (fuel + 1) listed a w := by
  intro fuel
  induction fuel with
  | zero =>
    intro listed a w _ _ hr hy hw H
    refine ⟨fun h => (by rw [h] at hr; cases hr), fun j hj => ?_⟩
    by_cases hji : j = i
    · subst hji; exact hy.wpOp hi hw ⟨fun h => hw (hflag h), H⟩
    · have := ready_mono hj hji
      rw [H.1] at this
      cases this
  | succ fuel ih =>
    intro listed a w hfree hkeep hr hy hw H
    refine ⟨fun h => (by rw [h] at hr; cases hr), fun j hj => ?_⟩
    by_cases hji : j = i
    · subst hji; exact hy.wpOp hi hw ⟨fun h => hw (hflag h), H⟩
    · have h1 := H.2 j (ready_mono hj hji)
      obtain ⟨hjun, oj, hoj, hall⟩ := mem_ready.1 hj
      have hiun : listed.getD i false = false := by
        have h0 := (mem_ready.1 hr).1
        rcases Nat.lt_or_ge i listed.size with h' | h'
        · simp [h'] at h0 ⊢; exact h0
        · simp [Array.getElem?_eq_none h'] at h0
      have hnot : ∀ e ∈ oj.after, Region.binds md e = true → e.on ≠ i := fun e he hb heq => by
        have h1 := hall e he hb
        rw [heq, hiun] at h1; cases h1
      have h2 := op_apart hoj (hfree j oj hoj hji hjun hnot) (fun cs b => hsel i oi cs b hi) (fun cs b => hsel j oj cs b hoj) hy h1
      have hfree' : ∀ k ok, ops[k]? = some ok → k ≠ i → (listed.setIfInBounds j true).getD k true = false →
          (∀ e ∈ ok.after, Region.binds md e = true → e.on ≠ i) → oi.apart ops ok = true := fun k ok hk hki hun hno => by
        refine hfree k ok hk hki ?_ hno
        by_cases hjk : j = k
        · subst hjk; exact hjun
        · rw [getD_set_ne true hjk] at hun; exact hun
      have hkeep' : ∀ k, k < ops.size → k ≠ i → (listed.setIfInBounds j true).getD k true = false → need = true → flag k = true ∨ Waits md ops (listed.setIfInBounds j true) i k := fun k hk hki hun hne => by
        have hun' : listed.getD k true = false := by
          by_cases hjk : j = k
          · subst hjk; exact hjun
          · rw [getD_set_ne true hjk] at hun; exact hun
        exact (hkeep k hk hki hun' hne).imp id (fun hw => hw.keep hiun hj)
      refine wpOp_mono (fun a' w' ⟨hy', hC, h3⟩ => ⟨hC, ih (listed.setIfInBounds j true) a' w' hfree' hkeep' (ready_mono hr (Ne.symm hji)) hy' ?_ ?_⟩) h2
      · intro hne
        rcases hkeep j (Array.getElem?_eq_some_iff.1 hoj).1 hji hjun hne with hf | hwt
        · exact hC hf
        · exact (hwt.not_ready hiun hj).elim
      · rw [Array.setIfInBounds_comm _ _ hji]
        exact h3

theorem anyC_only {flag : Nat → Bool} {C : World → Prop} {i fuel : Nat} {listed : Array Bool} {a : Act} {w : World} (hr : Region.ready md ops listed = [i])
    (h : wpOp P ops (QN K) i (fun a' w' => (flag i = true → C w') ∧ anyC P md ops flag C K fuel (listed.setIfInBounds i true) a' w') a w) : anyC P md ops flag C K (fuel + 1) listed a w :=
  by
  refine ⟨fun h0 => ?_, fun j hj => ?_⟩
  · rw [hr] at h0; cases h0
  · rw [hr] at hj; obtain rfl := List.mem_singleton.1 hj; exact h

/-- Another class, where nothing that is flagged by this one is left. -/
theorem anyC_switch {flag flag' : Nat → Bool} {C C' : World → Prop} : ∀ (fuel : Nat) (listed : Array Bool) (a : Act) (w : World), (∀ i, i < listed.size → listed.getD i true = false → flag i = false) →
    anyC P md ops flag' C' K fuel listed a w → anyC P md ops flag C K fuel listed a w
  | 0, _, _, _, _, h => h
  | fuel + 1, listed, a, w, hf, h => ⟨h.1, fun i hi => wpOp_mono (fun a' w' h' => ⟨fun hfl => by
      obtain ⟨hun, _⟩ := mem_ready.1 hi
      rcases Nat.lt_or_ge i listed.size with hlt | hge
      · have hun' : listed.getD i true = false := hun
        rw [hf i hlt hun'] at hfl; cases hfl
      · simp [Array.getElem?_eq_none hge] at hun,
    anyC_switch fuel _ a' w' (fun j hj hun => by
      rw [Array.size_setIfInBounds] at hj
      by_cases e : i = j
      · subst e; simp [hj] at hun
      · rw [getD_set_ne true e] at hun; exact hf j hj hun) h'.2⟩) (h.2 i hi)⟩

theorem anyC_done {flag : Nat → Bool} {C : World → Prop} {listed : Array Bool} {a : Act} {w : World} (hr : Region.ready md ops listed = []) (h : K a w) : ∀ fuel, anyC P md ops flag C K fuel listed a w
  | 0 => ⟨hr, h⟩
  | _ + 1 => ⟨fun _ => h, by rw [hr]; simp⟩
end
end Go.Proofs.Ythhpdcegkbfijaa.V
