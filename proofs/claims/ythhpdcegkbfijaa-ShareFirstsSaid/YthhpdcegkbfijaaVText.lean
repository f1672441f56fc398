/-
  The words in which the conditions of the functions are written out.
-/
import Derived.Test.YthhpdcegkbfijaaVWp
namespace Go.Proofs.Ythhpdcegkbfijaa.V
set_option linter.all false
set_option linter.unusedVariables false
set_option linter.unusedSimpArgs false
set_option linter.unnecessarySimpa false

def pO (o : Option Value) (K : Value → Prop) : Prop := match o with | some v => K v | none => False
def l1 (x : Value) (w : World) (K : Value → Prop) : Prop := ∃ a v, x = .pointer (some a) ∧ w.cell? a = some v ∧ K v
def lN (n : Nat) (x : Value) (w : World) (K : Value → Prop) : Prop := ∃ a vs, x = .pointer (some a) ∧ rdN w a n 0 = some vs ∧ K (.agg vs.toArray)
def l1C (C : World → Prop) (x : Value) (K : Value → Prop) : Prop := ∃ a v, x = .pointer (some a) ∧ (∀ w', C w' → w'.cell? a = some v) ∧ K v
def lNC (C : World → Prop) (n : Nat) (x : Value) (K : Value → Prop) : Prop := ∃ a vs, x = .pointer (some a) ∧ (∀ w', C w' → rdN w' a n 0 = some vs) ∧ K (.agg vs.toArray)
def stW (n : Nat) (x v : Value) (w : World) (K : World → Prop) : Prop := ∃ a w', x = .pointer (some a) ∧ v.cells.size = n ∧ stN v.cells.toList 0 a w = some w' ∧ K w'
def suW (P : Program) (s : Sem Unit) (w : World) (K : World → Prop) : Prop := match s.run P w with | .ok _ w' => K w' | .halt _ _ => False
def ext (P : Program) (f : FuncId) (args : Array Value) (w : World) (K : Kv) : Prop :=
  ∃ s : Sem Value, (∀ w, (callFunc f args).run P w = (do pure (Next.value (← s)) : Sem Next).run P w) ∧ sv P s w K
def body (fn : Func) : Code := fn.body.getD .skip
theorem body_eq {fn : Func} (h : fn.body.isSome = true) : fn.body = some (body fn) := by
  unfold body; cases hb : fn.body with
  | none => simp [hb] at h
  | some c => rfl

end Go.Proofs.Ythhpdcegkbfijaa.V
