/-
  An operation's condition serves the operation; a list of operations; then the code.
-/
import Derived.Test.YthhpdcegkbfijaaVSound
namespace Go.Proofs.Ythhpdcegkbfijaa.V
set_option linter.all false
set_option linter.unusedVariables false
set_option linter.unusedSimpArgs false
set_option linter.unnecessarySimpa false

theorem serves_pure {P : Program} {o : Oper} {e : Operand → Value} {w : World} {K : Kv} {r : Option Value} (hp : pureO P o.op e = some r) (h : pv r w K) : Serves P o e w K := by
  unfold pv at h
  cases r with
  | none => exact h.elim
  | some v => exact serves_of_run (pure_run hp w) h

theorem serves_call {P : Program} {o : Oper} {e : Operand → Value} {w : World} {K : Kv} {f : FuncId} {args : Array Value} (he : (execOp e o).run P w = .ok (.enter f args) w) (h : Ret P f args w K) : Serves P o e w K := by
  unfold Serves; rw [he]; exact h

theorem run_callFunc {P : Program} {f : FuncId} {args : Array Value} (h : bodyB P f = true) (w : World) : (callFunc f args).run P w = .ok (.enter f args) w := by
  unfold bodyB at h
  split at h
  · rename_i fn hf
    simp only [Bool.and_eq_true, Bool.not_eq_true'] at h
    obtain ⟨h1, h2⟩ := h
    have hb : fn.body.isNone = false := by cases hb : fn.body <;> simp [hb] at h1 ⊢
    unfold callFunc
    simp only [program, Sem.run_bind, Sem.run, Result.andThen_ok, hf, h2, hb, Bool.false_eq_true, if_false]
    rfl
  · cases h

theorem opV_serves {P : Program} {o : Oper} {e : Operand → Value} {w : World} {K : Kv} (hef : ∀ f, e (.func f) = .func (.func f) #[] #[]) (h : opV P o e w K) : Serves P o e w K := by
  obtain ⟨dst, op, type, pos, after, guard⟩ := o
  cases op
  case move x => exact serves_of_run rfl h
  case assign x => exact serves_of_run rfl h
  case alloc t => exact serves_v rfl h
  case box t x =>
    refine serves_v (s := Instr.box t (e x)) rfl ?_
    unfold sv
    have : (Instr.box t (e x)).run P w = .ok (.pointer (some ⟨w.heap.size, 0, none⟩)) (w.alloc (.cells (e x).cells t)) := by
      simp [Instr.box, newVar, newRow, newObj, Sem.run]
    rw [this]
    exact h
  case build t ps => simp only [opV, mpP_eq] at h; exact serves_v rfl h
  case buildSlice t n ps => simp only [opV, mpP_eq] at h; exact serves_v rfl h
  case insert t m k v => exact serves_u rfl h
  case load t x =>
    simp only [opV] at h
    refine serves_v (s := Instr.loadAt t (e x)) rfl ?_
    split at h
    · rename_i hg
      split at h
      · rename_i n hn
        obtain ⟨a, vs, hx, hr, hk⟩ := h
        unfold sv
        simp only [Instr.loadAt, hx, Instr.sureAddr, Sem.run_bind, Sem.run_pure, Result.andThen_ok, run_loadN hg hn hr]
        exact hk
      · exact h.elim
    · rename_i hg
      obtain ⟨a, v, hx, hr, hk⟩ := h
      unfold sv
      simp only [Instr.loadAt, hx, Instr.sureAddr, Sem.run_bind, Sem.run_pure, Result.andThen_ok, run_load1 hg hr]
      exact hk
    · exact h.elim
  case store t x v =>
    simp only [opV] at h
    refine serves_u (s := Instr.storeAt t (e x) (e v)) rfl ?_
    split at h
    · rename_i n hn
      obtain ⟨a, w', hx, hs, hst, hk⟩ := h
      unfold su
      simp only [Instr.storeAt, hx, Instr.sureAddr, Sem.run_bind, Sem.run_pure, Result.andThen_ok, storeVar, szl hn, hs, ne_eq, not_true_eq_false, if_false, run_storeCells _ _ _ _ _ hst]
      exact hk
    · exact h.elim
  case mapUpdate t m k v => exact serves_u rfl h
  case mapEntry t m k => exact serves_v rfl h
  case entryStore t m s v => exact serves_u rfl h
  case range t x => exact serves_v rfl h
  case next it s => exact serves_v rfl h
  case entry it => exact serves_v rfl h
  case typeAssert x t u ok => exact serves_v rfl h
  case field t x f => exact serves_v rfl h
  case makeMap t r => exact serves_v rfl h
  case makeSlice t l c => exact serves_v rfl h
  case lookup t x i ok => exact serves_v rfl h
  case binOp op t x y yt =>
    simp only [opV] at h
    split at h
    · rename_i r hr; exact serves_pure hr h
    · exact serves_v rfl h
  case unOp op t x =>
    simp only [opV] at h
    split at h
    · rename_i r hr; exact serves_pure hr h
    · exact serves_v rfl h
  case convert s d x =>
    simp only [opV] at h
    split at h
    · rename_i r hr; exact serves_pure hr h
    · exact serves_v rfl h
  case slice t x lo hi mx =>
    simp only [opV] at h
    split at h
    · rename_i r hr; exact serves_pure hr h
    · exact serves_v rfl h
  case index t x i =>
    simp only [opV] at h
    split at h
    · rename_i r hr; exact serves_pure hr h
    · exact serves_v rfl h
  case makeInterface t x =>
    simp only [opV] at h
    split at h
    · rename_i r hr; exact serves_pure hr h
    · exact serves_v rfl h
  case fieldAddr t x f =>
    simp only [opV] at h
    split at h
    · rename_i r hr; exact serves_pure hr h
    · exact serves_v rfl h
  case sliceToArrayPointer t x =>
    simp only [opV] at h
    split at h
    · rename_i r hr; exact serves_pure hr h
    · exact serves_v rfl h
  case call c =>
    simp only [opV] at h
    split at h
    · rename_i r hr; exact serves_pure hr h
    · obtain ⟨callee, args, tys⟩ := c
      simp only [mpA_eq] at h
      split at h
      · rename_i f _
        have he : execOp e ⟨dst, .call ⟨.value (.func f), args, tys⟩, type, pos, after, guard⟩ = callFunc f (args.map e) := by
          simp [execOp, resolve, hef, Deferred.ofValue, invoke]
        cases hb : bodyB P f with
        | true =>
          simp only [hb, cond_true] at h
          exact serves_call (by rw [he]; exact run_callFunc hb w) h
        | false =>
          simp only [hb, cond_false] at h
          obtain ⟨s, h1, h2⟩ := h
          unfold Serves
          rw [he, h1, run_v]
          unfold sv at h2
          cases hr : s.run P w with
          | ok v w' => rw [hr] at h2; exact h2
          | halt x w' => rw [hr] at h2; exact h2.elim
      · rename_i g _ _
        obtain ⟨f, first, cap, h1, h2, h3⟩ := h
        refine serves_call (f := f) ?_ h3
        have he : execOp e ⟨dst, .call ⟨.value g, args, tys⟩, type, pos, after, guard⟩ = callFunc f (first ++ args.map e ++ cap) := by
          simp [execOp, resolve, h1, Deferred.ofValue, invoke]
        rw [he]
        exact h2 w
      · exact serves_v (s := Builtin.append_ tys type (args.map e)) (by simp [execOp, resolve, invoke, builtin]) h
      · exact serves_v (s := Builtin.copy_ tys type (args.map e)) (by simp [execOp, resolve, invoke, builtin]) h
      · exact serves_v (s := Builtin.delete_ tys type (args.map e)) (by simp [execOp, resolve, invoke, builtin]) h
      · exact serves_v (s := Builtin.len_ tys type (args.map e)) (by simp [execOp, resolve, invoke, builtin]) h
      · exact serves_v (s := Builtin.cap_ tys type (args.map e)) (by simp [execOp, resolve, invoke, builtin]) h
      · exact serves_v (s := Builtin.min_ tys type (args.map e)) (by simp [execOp, resolve, invoke, builtin]) h
      · exact serves_v (s := Builtin.max_ tys type (args.map e)) (by simp [execOp, resolve, invoke, builtin]) h
      · exact serves_v (s := Builtin.clear_ tys type (args.map e)) (by simp [execOp, resolve, invoke, builtin]) h
      · exact h.elim
  all_goals first
    | exact h.elim
    | (simp only [opV] at h
       split at h
       · rename_i r hr; exact serves_pure hr h
       · exact h.elim)

end Go.Proofs.Ythhpdcegkbfijaa.V
