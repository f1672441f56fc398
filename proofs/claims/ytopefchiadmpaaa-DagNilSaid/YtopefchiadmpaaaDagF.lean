/-
  Contracts: New, the fixed fact.
-/
import Derived.Test.YtopefchiadmpaaaDagD
namespace Go.Proofs.Ytopefchiadmpaaa.Dag
open Go.Proofs.Ytopefchiadmpaaa.V Go.Proofs.Ytopefchiadmpaaa.T
set_option linter.all false
set_option linter.unusedVariables false
set_option linter.unusedSimpArgs false
set_option linter.unnecessarySimpa false

def G0 : G := ⟨fun _ => 0, fun _ => [], fun _ => [], fun _ => 0⟩
theorem WF0 : WF G0 := by
  have nd : ∀ a x, ¬ Desc G0.ch a x := fun a x h => by
    induction h with
    | base h => exact absurd h (by simp [G0])
    | step _ h _ => exact absurd h (by simp [G0])
  refine ⟨rfl, fun i => Nat.zero_le _, fun i c _ h => absurd h (by simp [G0]), fun i _ => List.nodup_nil, fun p c _ _ => ?_, fun c _ h => absurd rfl h, fun c _ h => absurd rfl h, fun c _ h => absurd rfl h, fun i => nd i i, fun p c _ h => absurd h (by simp [G0]), fun p c _ h => absurd h (by simp [G0])⟩
  simp [G0]

/-- n nodes, all empty -/
def nul : Nat → List Value
  | 0 => []
  | n + 1 => .int .i64 0 :: .slice none 0 0 :: .slice none 0 0 :: .int .i64 0 :: nul n
theorem nul_get : ∀ (n i : Nat), i < n → (nul n)[4 * i]? = some (.int .i64 0) ∧ (nul n)[4 * i + 1]? = some (.slice none 0 0) ∧ (nul n)[4 * i + 2]? = some (.slice none 0 0) ∧ (nul n)[4 * i + 3]? = some (.int .i64 0)
  | n + 1, 0, _ => ⟨rfl, rfl, rfl, rfl⟩
  | n + 1, i + 1, h => by
    have := nul_get n i (by omega)
    exact this

theorem zero51 : (PR.info? 51).map (fun i => i.zero) = some (some (.agg (nul 101).toArray)) := by kernel_rfl
theorem under51 : ∃ fs, PR.underlying 51 = some (.struct fs) ∧ fs.toList.map (fun f => (f.offset, szO PR f.type)) = [(0, some 404)] := by
  have h : (match PR.underlying 51 with | some (.struct fs) => some (fs.toList.map fun f => (f.offset, szO PR f.type)) | _ => none) = some [(0, some 404)] := by kernel_rfl
  split at h
  · rename_i fs hf; exact ⟨fs, hf, by simpa using h⟩
  · cases h
theorem build51 {w : World} {K : Kv} (hK : K (.agg (nul 101).toArray) w) : sv PR (Instr.build 51 #[]) w K := by
  have hz := zero51
  cases hi : PR.info? 51 with
  | none => simp [hi] at hz
  | some i =>
    simp only [hi, Option.map_some, Option.some.injEq] at hz
    obtain ⟨fs, hu, hp⟩ := under51
    exact build_of (places := [(0, 404)]) hi hz hu hp rfl hK

theorem rep_nul {w : World} {b : Nat} {T : TypeId} (h : w.heap[b]? = some (.cells (nul 101).toArray T)) : Rep w b G0 (fun k => k = b) := by
  have hn : ∀ k, ¬ inB (.slice none 0 0) k := fun k hk => by simp [inB, Value.ownBlock] at hk
  have hc : ∀ i, InA i → i.toNat < 101 := fun i hi => by have := hi.1; have := hi.2; omega
  refine ⟨fun _ => .slice none 0 0, fun _ => .slice none 0 0, ⟨(Array.getElem?_eq_some_iff.1 h).1, fun i hi => ?_, fun i hi => ?_, fun i hi => ?_, fun i hi => ?_, fun j => frozen_of_heap h j, fun i _ => Own.nil _ _ _, fun i _ => hn _, fun i _ => Own.nil _ _ _, fun i _ => hn _, fun i j k _ _ _ hk => absurd hk (hn _), fun i j k _ _ hk => absurd hk (hn _)⟩, fun k => ⟨fun e => .inl e, fun e => ?_⟩⟩
  · rw [cell_of_heap h, List.getElem?_toArray]; exact (nul_get 101 _ (hc i hi)).1
  · rw [cell_of_heap h, List.getElem?_toArray]; exact (nul_get 101 _ (hc i hi)).2.1
  · rw [cell_of_heap h, List.getElem?_toArray]; exact (nul_get 101 _ (hc i hi)).2.2.1
  · rw [cell_of_heap h, List.getElem?_toArray]; exact (nul_get 101 _ (hc i hi)).2.2.2
  · rcases e with e | ⟨i, _, e | e⟩
    · exact e
    · exact absurd e (hn _)
    · exact absurd e (hn _)

theorem new_ok (w : World) : Ret PR 10 #[] w (fun r w' => ∃ b, r = ptr b ∧ Rep w' b G0 (fun k => k = b) ∧ Ext No w w' ∧ w.heap.size ≤ b) := by
  refine f10_ret ?_
  unfold f10
  refine build51 ?_
  refine bx_any fun w' he hsz hblk => ?_
  exact ⟨_, rfl, rep_nul hblk, he, Nat.le_refl _⟩

/-- What Add does to a graph that is well formed. -/
theorem dedsort_nil : dedI (sortI []) = [] := by simp [sortI, dedI, Lib.compact, Lib.compactUpTo]

theorem awake_ok (w : World) : Ret PR 9 #[] w (fun r w' => r = .bool true ∧ Ext No w w') := by
  refine f9_ret ?_
  unfold f9
  refine (new_ok w).mono ?_
  rintro _ w1 ⟨b, rfl, hr, he, hb⟩
  simp only [ptr, vs]
  refine (add_ok (ps := []) hr (fun i c _ h => absurd h (by simp [G0])) (fun i _ => by simp [G0]) 1 (Sl.nil _ _) (by simp)).mono ?_
  rintro _ w2 ⟨g', ok, e, F', ha, rfl, hr2, he2, hg2⟩
  have hE : Ext No w w2 := he.trans he2 fun k hk hi => by omega
  cases ha with
  | range h => exact absurd ⟨rfl, rfl⟩ h
  | twice _ h => exact absurd rfl h
  | cycle _ _ h => obtain ⟨p, hp, _⟩ := h; rw [dedsort_nil] at hp; cases hp
  | state _ _ _ h => obtain ⟨p, hp, _⟩ := h; rw [dedsort_nil] at hp; cases hp
  | ok _ _ _ _ =>
    simp only [dedsort_nil, List.filter_nil, List.length_nil, decide_true, vs]
    simp only [show ((0 : Int) == 0) = true from rfl, vs]
    refine (free_ok hr2 1).mono ?_
    rintro _ w3 ⟨rfl, he3⟩
    have hf : isFree (addG G0 1 []) 1 = true := by rfl
    rw [dedsort_nil, hf]
    exact ⟨rfl, hE.noTrans he3⟩

end Go.Proofs.Ytopefchiadmpaaa.Dag
