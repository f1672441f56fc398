/-
  DagPlays: the walk.
-/
import Derived.Test.YtopefchiadmpaaaDagZd
namespace Go.Proofs.Ytopefchiadmpaaa.Dag
open Go.Proofs.Ytopefchiadmpaaa.V Go.Proofs.Ytopefchiadmpaaa.T
set_option linter.all false
set_option linter.unusedVariables false
set_option linter.unusedSimpArgs false
set_option linter.unnecessarySimpa false

theorem zero45 : (PR.info? 45).map (fun i => i.zero) = some (some (.agg #[.slice none 0 0])) := by kernel_rfl
theorem under45 : ∃ fs, PR.underlying 45 = some (.struct fs) ∧ fs.toList.map (fun f => (f.offset, szO PR f.type)) = [(0, some 1)] := by
  have h : (match PR.underlying 45 with | some (.struct fs) => some (fs.toList.map fun f => (f.offset, szO PR f.type)) | _ => none) = some [(0, some 1)] := by kernel_rfl
  split at h
  · rename_i fs hf; exact ⟨fs, hf, by simpa using h⟩
  · cases h
theorem build45 {w : World} {K : Kv} (hK : K (.agg #[.slice none 0 0]) w) : sv PR (Instr.build 45 #[]) w K := by
  have hz := zero45
  cases hi : PR.info? 45 with
  | none => simp [hi] at hz
  | some i =>
    simp only [hi, Option.map_some, Option.some.injEq] at hz
    obtain ⟨fs, hu, hp⟩ := under45
    exact build_of (places := [(0, 1)]) hi hz hu hp rfl hK
theorem ref_nil {w : World} {c : Nat} {T : TypeId} (h : w.heap[c]? = some (.cells #[.slice none 0 0] T)) : Ref w c [] (fun k => k = c) := by
  have hn : ∀ k, ¬ inB (.slice none 0 0) k := fun k hk => by simp [inB, Value.ownBlock] at hk
  refine ⟨.slice none 0 0, ⟨(Array.getElem?_eq_some_iff.1 h).1, by rw [cell_of_heap h]; rfl, fun j => frozen_of_heap h j, Own.nil _ _ _, fun j hj => (by cases hj), hn _, fun j hj => (by cases hj), fun j hj => (by cases hj), Nat.zero_le _⟩, fun k => ⟨.inl, ?_⟩⟩
  rintro (e | e | ⟨j, hj, _⟩)
  · exact e
  · exact absurd e (hn _)
  · cases hj
theorem Sim.nil : Sim G0 [] := ⟨List.Pairwise.nil, fun j hj => (by cases hj), fun x _ _ => rfl, fun j hj => (by cases hj), fun x _ _ h => absurd rfl h⟩

theorem two_new {w0 w : World} (he : Ext No w0 w) {K : Value → Value → World → Prop} (hK : ∀ b c w', Two w0 b c w' G0 [] (fun k => k = b) (fun k => k = c) → K (ptr b) (ptr c) w') :
    Ret PR 10 #[] w fun v259 w260 => sv PR (Instr.build 45 #[]) w260 fun v262 w263 => bx 45 v262 w263 fun v264 w265 => K v259 v264 w265 := by
  refine (new_ok w).mono ?_
  rintro _ w2 ⟨b, rfl, hr2, he2, hb2⟩
  refine build45 ?_
  refine bx_any fun w3 he3 hsz3 hblk => ?_
  have hE2 := he.noTrans he2
  have h1 := he.size
  have h2 := hE2.size
  have h3 := hr2.lt (k := b) rfl
  refine hK b _ _ ⟨hr2.kept he3, ref_nil hblk, fun m hm hm2 => ?_, hE2.noTrans he3, fun m hm => ?_, fun m hm => ?_⟩
  · have hm : m = b := hm
    have hm2 : m = w2.heap.size := hm2
    omega
  · have hm : m = b := hm
    omega
  · have hm2 : m = w2.heap.size := hm
    omega

set_option maxHeartbeats 1000000 in
theorem plays_walk {w : World} {v : Value} {ops : List OpD} (hS : Script w v ops) : Ret PR 7 #[v] w (fun r w' => r = .bool true ∧ Ext No w w') := by
  refine f7_ret ?_
  unfold f7
  refine (awake_ok w).mono ?_
  rintro _ w1 ⟨rfl, he1⟩
  simp only [vs]
  refine (few_ok (hS.ext he1)).mono ?_
  rintro _ w1' ⟨rfl, rfl⟩
  simp only [vs]
  cases hfew : fewB ops with
  | false =>
    simp only [vs]
    refine (awake_ok w1').mono ?_
    rintro _ w2 ⟨rfl, he2⟩
    exact ⟨rfl, he1.noTrans he2⟩
  | true =>
    simp only [vs]
    obtain ⟨hn, hps⟩ : ops.length ≤ 150 ∧ ∀ o, o ∈ ops → o.par.length ≤ 300 := by
      unfold fewB at hfew
      rw [Bool.and_eq_true, List.all_eq_true] at hfew
      exact ⟨by simpa using hfew.1, fun o ho => by simpa using hfew.2 o ho⟩
    refine two_new he1 fun b c w2 hT2 => ?_
    simp only [hS.1.len]
    refine for1 (by omega) (fun i w' => ∃ g js F H, Two w b c w' g js F H ∧ WF g ∧ Sim g js) ⟨_, _, _, _, hT2, WF0, Sim.nil⟩ ?_ ?_
    · rintro i wa hi ⟨g, js, F, H, hT, hw, hs⟩ K hK
      obtain ⟨ob, oo, hix, c0, c1, c2⟩ := (hS.ext hT.ext).at hi
      have hmem := List.getElem_mem hi
      simp only [hix, vs]
      refine lN_of (vs := [.int .i64 ops[i].k, .int .i64 ops[i].id, ops[i].pv]) rfl (fun j u hj => ?_) ?_
      · match j, hj with
        | 0, hj => cases hj; exact c0
        | 1, hj => cases hj; exact c1
        | 2, hj => cases hj; exact c2
      refine (step_ok hT hw hs (hS.2 _ hmem) (hps _ hmem)).mono ?_
      rintro _ w3 ⟨rfl, hx⟩
      simp (disch := omega) only [vs, ar]
      exact hK _ hx
    · rintro wS ⟨g, js, F, H, hT, hw, hs⟩
      refine loopG (Γ := Nat) (fun i x w' => x = .int .i64 i ∧ i ≤ 102 ∧ Two w b c w' g js F H) (fun i => 102 - i) 0 ⟨rfl, by omega, hT⟩ ?_
      rintro i _ wa ⟨rfl, hi, hTa⟩ K hK _
      simp only [ar, vs]
      by_cases hlt : i ≤ 101
      · rw [show decide ((i : Int) ≤ 101) = true from decide_eq_true (by omega)]
        simp only [vs]
        refine (free_ok hTa.rep i).mono ?_
        rintro _ w3 ⟨rfl, he3⟩
        have hT3 := hTa.no he3
        obtain ⟨lv, hlv, hH⟩ := hT3.ref
        refine (freeR_ok hlv i).mono ?_
        rintro _ _ ⟨rfl, rfl⟩
        rw [hs.free hw]
        simp only [vs, beq_self_eq_true]
        simp (disch := omega) only [vs, ar]
        exact hK (i + 1) _ _ ⟨by simp, by omega, hT3⟩ (by omega)
      · rw [show decide ((i : Int) ≤ 101) = false from decide_eq_false (by omega)]
        simp only [vs]
        exact ⟨by trivial, hTa.ext⟩

section
variable {H : Type} {en : TypeId × Value → H} {w : World} {base : Nat} {spare : Nat → Bool} {held : Bool}
theorem dagPlays_said {v : Value} (h : Reads en Try.prog w base spare held 29 [v]) : Ret PR 7 #[v] w (fun r w' => r = .bool true ∧ Ext No w w') := by
  obtain ⟨ops, hS⟩ := script_of h
  exact plays_walk hS
end

end Go.Proofs.Ytopefchiadmpaaa.Dag
