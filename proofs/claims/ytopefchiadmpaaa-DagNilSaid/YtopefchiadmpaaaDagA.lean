/-
  Contracts of the small functions of dag: right, In, Clone, SameInts.
-/
import Derived.Test.YtopefchiadmpaaaVLoop
import Derived.Test.YtopefchiadmpaaaT
namespace Go.Proofs.Ytopefchiadmpaaa.Dag
open Go.Proofs.Ytopefchiadmpaaa.V Go.Proofs.Ytopefchiadmpaaa.T
set_option linter.all false
set_option linter.unusedVariables false
set_option linter.unusedSimpArgs false
set_option linter.unnecessarySimpa false

theorem E31 : ElemT PR 31 2 1 8 := .of (z := .int .i64 0) (by kernel_rfl) (by kernel_rfl) rfl (by omega)

def inR (x : Int) : Bool := decide (1 ≤ x) && decide (x ≤ 100)
theorem inR_iff {x : Int} : inR x = true ↔ 1 ≤ x ∧ x ≤ 100 := by simp [inR]

theorem all_take_succ {l : List Int} {k : Nat} (hk : k < l.length) (p : Int → Bool) : (l.take (k + 1)).all p = ((l.take k).all p && p l[k]) := by
  rw [List.take_succ_eq_append_getElem hk, List.all_append]; simp

theorem right_ok {w : World} {v : Value} {l : List Int} (h : Sl w 1 v l.length (enc l)) : Ret PR 23 #[v] w (fun r w' => r = .bool (l.all inR) ∧ w' = w) := by
  suffices hs : ∀ R : Kv, R (.bool (l.all inR)) w → f23 v w R from f23_ret (hs _ ⟨rfl, rfl⟩)
  intro R hR
  have hlen := h.2.1
  unfold f23
  simp only [h.len, vs]
  refine for1 h.2.1 (fun k w' => w' = w ∧ (l.take k).all inR = true) ⟨rfl, by simp⟩ ?_ ?_
  · rintro k _ hk ⟨rfl, ha⟩ K hK
    have hg : (enc l)[((k : Int)).toNat]? = some (.int .i64 l[k]) := by simp [enc_get, hk]
    rw [h.get (by omega) (by omega) hg]
    simp only [ar, vs]
    have hall : inR l[k] = false → l.all inR = false := fun hf => by
      rw [List.all_eq_false]; exact ⟨l[k], List.getElem_mem _, by simp [hf]⟩
    by_cases h1 : l[k] < 1
    · simp only [h1, decide_true, vs]
      rw [hall (by simp [inR]; omega)] at hR; exact hR
    · simp only [h1, decide_false, vs]
      by_cases h2 : l[k] > 100
      · simp only [h2, decide_true, vs]
        rw [hall (by simp [inR]; omega)] at hR; exact hR
      · simp (disch := omega) only [h2, decide_false, vs, ar]
        exact hK _ ⟨rfl, by rw [all_take_succ hk, ha]; simp [inR]; omega⟩
  · rintro _ ⟨rfl, ha⟩
    rw [List.take_length] at ha
    rw [ha] at hR; exact hR

theorem In_ok {w : World} {v : Value} {l : List Int} {x : Int} (h : Sl w 1 v l.length (enc l)) : Ret PR 14 #[v, .int .i64 x] w (fun r w' => r = .bool (decide (x ∈ l)) ∧ w' = w) := by
  suffices hs : ∀ R : Kv, R (.bool (decide (x ∈ l))) w → f14 v (.int .i64 x) w R from f14_ret (hs _ ⟨rfl, rfl⟩)
  intro R hR
  have hlen := h.2.1
  unfold f14
  simp only [h.len, vs]
  refine for1 h.2.1 (fun k w' => w' = w ∧ x ∉ l.take k) ⟨rfl, by simp⟩ ?_ ?_
  · rintro k _ hk ⟨rfl, ha⟩ K hK
    have hg : (enc l)[((k : Int)).toNat]? = some (.int .i64 l[k]) := by simp [enc_get, hk]
    rw [h.get (by omega) (by omega) hg]
    simp only [vs]
    by_cases h1 : l[k] = x
    · have : x ∈ l := h1 ▸ List.getElem_mem _
      simp only [h1, beq_self_eq_true, vs]
      simpa [this] using hR
    · simp (disch := omega) only [show (l[k] == x) = false by simpa using h1, vs, ar]
      refine hK _ ⟨rfl, ?_⟩
      rw [List.take_succ_eq_append_getElem hk]
      simp only [List.mem_append, List.mem_singleton, not_or]
      exact ⟨ha, fun e => h1 e.symm⟩
  · rintro _ ⟨rfl, ha⟩
    rw [List.take_length] at ha
    simpa [ha] using hR

/-- slices.Clone: nil for nil; else a row of its own. -/
theorem Clone_ok {w : World} {v : Value} {l : List Int} (h : Sl w 1 v l.length (enc l)) (hb : l.length * 8 ≤ 140737488355328) :
    Ret PR 24 #[v] w (fun r w' => Own w' 2 1 r l.length (enc l) ∧ Ext No w w' ∧ (∀ k, inB r k → w.heap.size ≤ k)) := by
  suffices hs : ∀ R : Kv, (∀ r w', Own w' 2 1 r l.length (enc l) → Ext No w w' → (∀ k, inB r k → w.heap.size ≤ k) → R r w') → f24 v w R from f24_ret (hs _ fun _ _ h1 h2 h3 => ⟨h1, h2, h3⟩)
  intro R hR
  unfold f24
  rcases h.2.2 with ⟨rfl, hn⟩ | ⟨b, o, cap, rfl, hc, hbl, hx⟩ | ⟨a, cap, rfl, hn⟩
  · simp only [vs]
    have : l = [] := List.eq_nil_of_length_eq_zero hn
    subst this
    exact hR _ _ (Own.nil _ _ _) (Ext.refl _ _) (fun k hk => by simp [inB, Value.ownBlock] at hk)
  · simp only [vs]
    refine bs0 E31 fun v' w' ho he hk hnn hsz => ?_
    refine append_own E31 ho (h.ext he (fun k _ hf => hf)) (enc_one l) (by have := h.2.1; omega) (by omega) fun v2 w2 ho2 he2 hk2 _ => ?_
    rw [Nat.zero_add, List.nil_append] at ho2
    refine hR _ _ ho2 (he.trans he2 fun k hlt hin => ?_) fun k hin => ?_
    · have := hk k hin; omega
    · rcases hk2 k hin with h1 | h1
      · have := hk k h1; omega
      · omega
  · simp only [vs]
    refine bs0 E31 fun v' w' ho he hk hnn hsz => ?_
    refine append_own E31 ho (h.ext he (fun k _ hf => hf)) (enc_one l) (by have := h.2.1; omega) (by omega) fun v2 w2 ho2 he2 hk2 _ => ?_
    rw [Nat.zero_add, List.nil_append] at ho2
    refine hR _ _ ho2 (he.trans he2 fun k hlt hin => ?_) fun k hin => ?_
    · have := hk k hin; omega
    · rcases hk2 k hin with h1 | h1
      · have := hk k h1; omega
      · omega

end Go.Proofs.Ytopefchiadmpaaa.Dag
