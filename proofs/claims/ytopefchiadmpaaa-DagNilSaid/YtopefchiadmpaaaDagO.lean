/-
  DagOrder, for whatever argument came in.
-/
import Derived.Test.YtopefchiadmpaaaDagL
import Derived.Test.YtopefchiadmpaaaVOpen
namespace Go.Proofs.Ytopefchiadmpaaa.Dag
open Go.Proofs.Ytopefchiadmpaaa.V Go.Proofs.Ytopefchiadmpaaa.T
set_option linter.all false
set_option linter.unusedVariables false
set_option linter.unusedSimpArgs false
set_option linter.unnecessarySimpa false

section
variable {H : Type} {en : TypeId × Value → H} {w : World} {base : Nat} {spare : Nat → Bool} {held : Bool}
theorem cells2 : Try.prog.cellsOf 2 = 1 := by kernel_rfl
theorem cells3 : Try.prog.cellsOf 3 = 1 := by kernel_rfl
theorem cells31 : Try.prog.cellsOf 31 = 1 := by kernel_rfl
theorem cells33 : Try.prog.cellsOf 33 = 3 := by kernel_rfl

/-- A script that came in. -/
theorem script_of {v : Value} (h : Reads en Try.prog w base spare held 29 [v]) : ∃ ops, Script w v ops := by
  obtain ⟨v', rows, hv, hr, hs, hm⟩ := reads_slice Try.underlying29 cells33 (by omega) h
  obtain rfl : v = v' := by simpa using hv
  obtain ⟨ops, rfl, ho⟩ := list_of opC (fun o => Sl w 1 o.pv o.par.length (enc o.par)) rows fun r hmem => by
    obtain ⟨hl, hread⟩ := hr r hmem
    obtain ⟨_, hf⟩ := reads_struct Try.underlying33 hread
    match r, hl with
    | [c0, c1, c2], _ =>
      obtain ⟨k, h0, _⟩ := reads_int Try.underlying3 (cs := [c0]) (hf 0 _ rfl)
      obtain ⟨id, h1, _⟩ := reads_int Try.underlying2 (cs := [c1]) (hf 1 _ rfl)
      obtain ⟨pv, par, h2, h3, _⟩ := reads_ints Try.underlying31 Try.underlying2 cells2 (cs := [c2]) (hf 2 _ rfl)
      exact ⟨⟨k, id, par, pv⟩, by simp at h0 h1 h2; rw [h0, h1, h2]; rfl, h3⟩
  refine ⟨ops, ?_, ho⟩
  rw [List.flatMap_def]
  simpa using hs

theorem dagOrder_said {v : Value} (h : Reads en Try.prog w base spare held 29 [v]) : Ret PR 4 #[v] w (fun r w' => r = .bool true ∧ Ext No w w') := by
  obtain ⟨ops, hS⟩ := script_of h
  exact order_walk hS
end

end Go.Proofs.Ytopefchiadmpaaa.Dag
