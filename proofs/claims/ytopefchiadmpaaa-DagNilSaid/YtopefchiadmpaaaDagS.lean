/-
  slices.Sort at []int64, by the shelf's contract, in the words used here.
-/
import Derived.Test.YtopefchiadmpaaaDagA
import Derived.Test.YtopefchiadmpaaaShelf
import Derived.Sort.OwnSortedInts
namespace Go.Proofs.Ytopefchiadmpaaa.Dag
open Go.Proofs.Ytopefchiadmpaaa.V Go.Proofs.Ytopefchiadmpaaa.T
set_option linter.all false
set_option linter.unusedVariables false
set_option linter.unusedSimpArgs false
set_option linter.unnecessarySimpa false

def sortI (l : List Int) : List Int := l.mergeSort fun x y => decide (x ≤ y)
theorem sortI_len (l : List Int) : (sortI l).length = l.length := List.length_mergeSort l

theorem Ret.of_calls {P : Program} {f : FuncId} {args : Array Value} {w : World} {v : Value} {Q : World → Prop} (h : Calls P f args w fun e w' => e = .returned v ∧ Q w') : Ret P f args w (fun r w' => r = v ∧ Q w') :=
  Calls.mono h fun e w' ⟨h1, h2⟩ => ⟨v, h1, rfl, h2⟩

theorem Ext.of_grown {w w' : World} {g : Nat} (h : w.grownBy w' (some g)) : Ext (fun k => k = g) w w' :=
  ⟨h.os, h.tape, h.output, h.size, fun k hk hn => h.block k hk fun e => hn (by cases e; rfl)⟩

theorem Sort_ok {w : World} {v : Value} {l : List Int} (h : Own w 2 1 v l.length (enc l)) (hn : l.length < 4611686018427387904) :
    Ret PR 25 #[v] w (fun r w' => r = .tuple #[] ∧ Own w' 2 1 v l.length (enc (sortI l)) ∧ Ext (inB v) w w') := by
  by_cases h0 : l.length = 0
  · have hl : l = [] := List.eq_nil_of_length_eq_zero h0
    subst hl
    obtain ⟨p, cap, hv⟩ : ∃ p cap, v = .slice p 0 cap := by
      rcases h.2 with ⟨hv, _⟩ | ⟨g, cap, cur, hv, _⟩
      · exact ⟨_, _, hv⟩
      · exact ⟨_, _, hv⟩
    subst hv
    refine (Ret.of_calls (Try.slices_Sort_int_none p cap w)).mono ?_
    rintro r w' ⟨rfl, rfl⟩
    exact ⟨rfl, by simpa [sortI] using h, Ext.refl _ _⟩
  · rcases h.2 with ⟨hv, hn0⟩ | ⟨g, cap, cur, hv, _, hg, hc, hm, hcs, ht⟩
    · exact (h0 hn0).elim
    · subst hv
      have hH : Go.Sort.Holds (Value.int .i64) w g 0 l.toArray := holds_of_blockI hg (by rw [Nat.mul_one] at ht; exact ht)
      refine (Ret.of_calls (Try.slices_Sort_int g 0 cap l w hH (Array.getElem?_eq_some_iff.1 hg).1 hn)).mono ?_
      rintro r w' ⟨rfl, n, os, rfl⟩
      refine ⟨rfl, ownsRow_sortedI (ss := l) (ts := sortI l) (sortI_len l) (Nat.zero_le _) hg hc hm hcs, ?_⟩
      refine (Ext.of_grown (grownBy_sortedI (sortI l).toArray)).mono fun k _ hk => ?_
      subst hk; rfl

end Go.Proofs.Ytopefchiadmpaaa.Dag
