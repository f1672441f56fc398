/-
  The reference: a state is written; Done.
-/
import Derived.Test.YtopefchiadmpaaaDagY
namespace Go.Proofs.Ytopefchiadmpaaa.Dag
open Go.Proofs.Ytopefchiadmpaaa.V Go.Proofs.Ytopefchiadmpaaa.T
set_option linter.all false
set_option linter.unusedVariables false
set_option linter.unusedSimpArgs false
set_option linter.unnecessarySimpa false

def setS (js : List JobD) (k : Nat) (n : Nat) : List JobD := js.modify k fun j => { j with st := n }
theorem setS_len (js : List JobD) (k n : Nat) : (setS js k n).length = js.length := by simp [setS]
theorem setS_get (js : List JobD) (k n : Nat) {i : Nat} (hi : i < js.length) : (setS js k n)[i]'(by rw [setS_len]; exact hi) = if k = i then { js[i] with st := n } else js[i] := by
  unfold setS; rw [List.getElem_modify]
theorem flatS : ∀ (js : List JobD) (k n : Nat), k < js.length → (js.flatMap jC).set (k * 3 + 2) (.int .i64 (n : Int)) = (setS js k n).flatMap jC
  | j :: js, 0, n, _ => rfl
  | j :: js, k + 1, n, h => by
    have := flatS js k n (by simpa using h)
    rw [show (k + 1) * 3 + 2 = (k * 3 + 2) + 1 + 1 + 1 by omega]
    simp only [List.flatMap_cons, jC, List.cons_append, List.nil_append, List.set_cons_succ, setS, List.modify_succ_cons]
    simp only [setS, jC] at this
    rw [this]

theorem setS_pv {js : List JobD} {k n : Nat} {j : JobD} (h : j ∈ setS js k n) : ∃ j0, j0 ∈ js ∧ j.pv = j0.pv ∧ j.par = j0.par ∧ j.id = j0.id := by
  obtain ⟨i, hi, rfl⟩ := List.mem_iff_getElem.1 h
  rw [setS_len] at hi
  refine ⟨js[i], List.getElem_mem hi, ?_⟩
  rw [setS_get js k n hi]
  split <;> exact ⟨rfl, rfl, rfl⟩

theorem RefV.setS {w : World} {c : Nat} {js : List JobD} {lv : Value} (h : RefV w c js lv) {k : Nat} (hk : k < js.length) (n : Nat) :
    ∃ b o, inB lv b ∧ ixsO 3 lv (.int .i64 k) = some (.pointer (some ⟨b, o, none⟩)) ∧ w.cell? ⟨b, o + 2, none⟩ = some (.int .i64 js[k].st) ∧ w.frozen? ⟨b, o + 2, none⟩ = false ∧ RefV (w.setCell ⟨b, o + 2, none⟩ (.int .i64 (n : Int))) c (setS js k n) lv := by
  obtain ⟨g, h1, h2, h3, h4, h5, h6⟩ := h.own.spot (k := .i64) hk
  have hc := (jC_get js k hk).2.2
  have hx : Ext (fun m => m = g) w (w.setCell ⟨g, k * 3 + 2, none⟩ (.int .i64 (n : Int))) := set_ext _ _ _ _
  refine ⟨g, k * 3, h1, h3, by rw [h4 _ (by omega)]; exact hc, h5 _, ⟨?_, ?_, ?_, ?_, ?_, h.lvc, ?_, ?_, by rw [setS_len]; exact h.few⟩⟩
  · have := h.lt; simpa using this
  · exact hx.cell h.cell fun e => h.lvc (by simp only at e; rw [e]; exact h1)
  · intro j; rw [World.frozen?_setCell]; exact h.fz j
  · have := h6 (k * 3 + 2) (.int .i64 (n : Int)) (by omega)
    rw [flatS js k n hk] at this
    rw [setS_len]; exact this
  · intro j hj
    obtain ⟨j0, hj0, e1, e2, _⟩ := setS_pv hj
    rw [e1, e2]
    exact (h.par j0 hj0).ext hx fun m hm e => h.dis j0 hj0 m hm (e ▸ h1)
  · intro j hj
    obtain ⟨j0, hj0, e1, e2, _⟩ := setS_pv hj
    rw [e1]; exact h.pvc j0 hj0
  · intro j hj
    obtain ⟨j0, hj0, e1, e2, _⟩ := setS_pv hj
    rw [e1]; exact h.dis j0 hj0

/-- who is free behind it, and was not -/
def newly (js js2 : List JobD) : List Int := (js.filter fun j => !freeR js j.id && freeR js2 j.id).map (·.id)
inductive DoneRR (js : List JobD) (id : Int) : List JobD → List Int → Int → Prop
  | none (h : jobR js id = none) : DoneRR js id js [] 3
  | state (h : jobR js id ≠ none) (h1 : freeR js id = false) : DoneRR js id js [] 10
  | ok (h1 : freeR js id = true) (k : Nat) (hk : k < js.length) (hid : js[k].id = id) : DoneRR js id (setS js k 2) (newly js (setS js k 2)) 0
theorem setS_back {js : List JobD} {k : Nat} (hk : k < js.length) (n m : Nat) (h : js[k].st = m) : setS (setS js k n) k m = js := by
  refine List.ext_getElem (by simp [setS_len]) fun i h1 h2 => ?_
  rw [setS_get _ k m (by rw [setS_len]; exact h2), setS_get js k n h2]
  by_cases e : k = i
  · subst e; simp only [if_true]; rw [← h]
  · simp only [e, if_false]

end Go.Proofs.Ytopefchiadmpaaa.Dag
