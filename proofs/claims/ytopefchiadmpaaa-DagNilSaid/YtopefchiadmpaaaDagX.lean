/-
  DagCycles: the walk.
-/
import Derived.Test.YtopefchiadmpaaaDagG
namespace Go.Proofs.Ytopefchiadmpaaa.Dag
open Go.Proofs.Ytopefchiadmpaaa.V Go.Proofs.Ytopefchiadmpaaa.T
set_option linter.all false
set_option linter.unusedVariables false
set_option linter.unusedSimpArgs false
set_option linter.unnecessarySimpa false

theorem rem_pos {k : IntKind} {a b : Int} (ha : 0 ≤ a) (hb : 0 < b) : arithO .rem (.int k a) (.int k b) = some (.int k (a % b)) := by
  simp only [arithO]
  rw [if_pos ⟨trivial, by omega⟩, Int.tmod_eq_emod_of_nonneg ha]
theorem mul_fit {a b : Int} (h1 : -9223372036854775808 ≤ a * b) (h2 : a * b ≤ 9223372036854775807) : arithO .mul (.int .i64 a) (.int .i64 b) = some (.int .i64 (a * b)) := by
  simp [arithO, wrap64' h1 h2]
theorem cvi_fit {k : IntKind} {a : Int} (h1 : -9223372036854775808 ≤ a) (h2 : a ≤ 9223372036854775807) : cviO .i64 (.int k a) = some (.int .i64 a) := by
  simp [cviO, wrap64' h1 h2]

theorem cycles_walk (n t : Int) (hn0 : 0 ≤ n) (hn : n ≤ 255) (ht0 : 0 ≤ t) (ht : t ≤ 255) (w : World) :
    Ret PR 3 #[.int .u8 n, .int .u8 t] w (fun r w' => r = .bool true ∧ Ext No w w') := by
  refine f3_ret ?_
  unfold f3
  refine (awake_ok w).mono ?_
  rintro _ w1 ⟨rfl, he1⟩
  simp only [vs, rem_pos hn0 (show (0 : Int) < 60 by omega)]
  have hm0 : 0 ≤ n % 60 := by omega
  have hm1 : n % 60 < 60 := by omega
  generalize n % 60 = m at *
  simp (disch := omega) only [vs, cvi_fit, ar]
  obtain ⟨k, hk⟩ : ∃ k : Nat, (k : Int) = 1 + m := ⟨(1 + m).toNat, by omega⟩
  rw [← hk]
  have hk1 : (1 : Int) ≤ k := by omega
  have hk2 : (k : Int) ≤ 60 := by omega
  refine (new_ok w1).mono ?_
  rintro _ w2 ⟨b, rfl, hr2, he2, hb2⟩
  have hE2 := he1.noTrans he2
  have hs2 : w.heap.size ≤ b := Nat.le_trans he1.size hb2
  refine for1 (by omega) (fun i w' => Ext No w w' ∧ (i < k → ∃ g F, Rep w' b g F ∧ Ring k t i g ∧ ∀ m, F m → w.heap.size ≤ m)) ⟨hE2, fun _ => ⟨_, _, hr2, Ring.zero _ _, fun m hm => hm ▸ hs2⟩⟩ ?_ ?_
  · rintro i wa hi ⟨hEa, hJ⟩ K hK
    obtain ⟨g, F, hr, hring, hF⟩ := hJ hi
    have hx0 : 0 ≤ at7 k t i := at7_lo hk1
    have hxk : at7 k t i < k := at7_hi hk1
    simp (disch := omega) only [vs, mul_fit, cvi_fit, ar, rem_pos]
    intro K2 hK2
    have fin : K2 (.int .i64 (at7 k t i)) wa := by
      refine hK2 _ _ fun _ => ?_
      generalize hX : at7 k t i = x at *
      have hn0 : 0 ≤ nx k x := by unfold nx; split <;> omega
      have hnk : nx k x < k := by unfold nx; split <;> omega
      simp (disch := omega) only [vs, ar, rem_pos, nx_mod hx0 hxk]
      refine bs1 E31 (by omega) rfl fun v1 wb hv1 heb hvk1 hszb => ?_
      have hsl : Sl wb 1 v1 [1 + nx k x].length (enc [1 + nx k x]) := hv1.sl (by omega)
      refine (add_ok (hr.kept heb) (fun j c hj hc => ?_) (fun j hj => ?_) (1 + x) hsl (by simp)).mono ?_
      · obtain ⟨a, ha, rfl, _⟩ := (hring.ch j c).1 hc
        have := ha.range hk1
        omega
      · have := hring.len j; omega
      rintro _ wc ⟨g', ok, e, F', ha, rfl, hr', hec, hgr⟩
      have hEb := hEa.noTrans heb
      have hEc : Ext No w wc := hEb.trans hec fun m hm hFm => by have := hF m hFm; omega
      rw [← hX] at ha
      have hres := hring.add hk1 hk2 (by omega) ha
      simp only [vs]
      rcases hres with ⟨rfl, hik⟩ | ⟨rfl, hik, hring'⟩
      · rw [show ((8 : Int) == 8) = true from rfl, show (((i : Int) == (k : Int) - 1)) = true by simp [hik]]
        simp only [vs]
        simp only [show (!((true : Bool) == true)) = false from rfl, show (!((false : Bool) == false)) = false from rfl, show (!((8 : Int) == 0)) = true from rfl, show (!((0 : Int) == 0)) = false from rfl, vs]
        exact hK _ ⟨hEc, fun hlt => by omega⟩
      · rw [show ((0 : Int) == 8) = false from rfl, show (((i : Int) == (k : Int) - 1)) = false by simp [hik]]
        simp only [vs]
        simp only [show (!((true : Bool) == true)) = false from rfl, show (!((false : Bool) == false)) = false from rfl, show (!((8 : Int) == 0)) = true from rfl, show (!((0 : Int) == 0)) = false from rfl, vs]
        exact hK _ ⟨hEc, fun _ => ⟨g', F', hr', hring', fun m hm => (hgr m hm).elim (hF m) fun h => by have := hEb.size; omega⟩⟩
    unfold at7 cc at fin
    by_cases h7 : (k : Int) % 7 = 0
    · rw [show ((k : Int) % 7 == 0) = true by simp [h7]]
      simp only [vs]
      rw [if_pos h7, Int.one_mul] at fin
      exact fin
    · rw [show ((k : Int) % 7 == 0) = false by simp [h7]]
      simp only [vs]
      rw [if_neg h7, Int.mul_comm] at fin
      exact fin
  · rintro wa ⟨hEa, _⟩
    exact ⟨by trivial, hEa⟩

end Go.Proofs.Ytopefchiadmpaaa.Dag
