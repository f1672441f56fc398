/-
  share: the fixed fact, First; what an order does not hang on.
-/
import Derived.Test.YthhpdcegkbfijaaShF
namespace Go.Proofs.Ythhpdcegkbfijaa.Sh
open Go.Proofs.Ythhpdcegkbfijaa.V Go.Proofs.Ythhpdcegkbfijaa.T
set_option linter.all false
set_option maxRecDepth 100000
set_option linter.unusedVariables false
set_option linter.unusedSimpArgs false
set_option linter.unnecessarySimpa false

theorem ltU_asym (whole : List Int) (a b : Us) (h1 : ltU whole a b) (h2 : ltU whole b a) : False := by
  rcases h1 with h1 | ⟨h1, h3⟩
  · rcases h2 with h2 | ⟨h2, _⟩ <;> omega
  · rcases h2 with h2 | ⟨_, h4⟩
    · omega
    · exact s_irrefl _ (s_trans h3 h4)
theorem OrdR.uniq {whole : List Int} {l : List Us} {o o' : List Str} {e e' : Int} (h : OrdR whole l o e) (h' : OrdR whole l o' e') : o = o' ∧ e = e' := by
  cases h with
  | err i hi h0 h1 =>
    cases h' with
    | err j hj g0 g1 =>
      rcases Nat.lt_trichotomy i j with hij | hij | hij
      · exact absurd (g0 i hi hij) h1
      · subst hij; exact ⟨rfl, rfl⟩
      · exact absurd (h0 j hj hij) g1
    | dup g => exact absurd (g _ (List.getElem_mem hi)) h1
    | ok g => exact absurd (g _ (List.getElem_mem hi)) h1
  | dup h h1 =>
    cases h' with
    | err j hj g0 g1 => exact absurd (h _ (List.getElem_mem hj)) g1
    | dup _ _ => exact ⟨rfl, rfl⟩
    | ok _ g => exact absurd g h1
  | ok h h1 p hp hs =>
    cases h' with
    | err j hj g0 g1 => exact absurd (h _ (List.getElem_mem hj)) g1
    | dup _ g => exact absurd h1 g
    | ok _ _ q hq gs =>
      rw [sorted_uniq (ltU_irrefl whole) (ltU_asym whole) hs gs (hp.trans hq.symm)]
      exact ⟨rfl, rfl⟩

/-- the outcome of another order of the same usages -/
theorem OrdR.turn {whole : List Int} {l m : List Us} (hp : l.Perm m) {o o' : List Str} {e e' : Int} (h : OrdR whole l o e) (h' : OrdR whole m o' e') : o = o' ∧ (e = 0 ↔ e' = 0) := by
  have hnp := hp.map (fun u : Us => u.nm)
  cases h with
  | err i hi h0 h1 =>
    have bad : ∀ g : ∀ u, u ∈ m → okU whole u, False := fun g => h1 (g _ (hp.mem_iff.1 (List.getElem_mem hi)))
    cases h' with
    | err j hj g0 g1 => exact ⟨rfl, by simp only [h1, g1]⟩
    | dup g g1 => exact (bad g).elim
    | ok g => exact (bad g).elim
  | dup h h1 =>
    cases h' with
    | err j hj g0 g1 => exact absurd (h _ (hp.mem_iff.2 (List.getElem_mem hj))) g1
    | dup _ _ => exact ⟨rfl, Iff.rfl⟩
    | ok _ g => exact absurd (hnp.symm.nodup g) h1
  | ok h h1 p hp' hs =>
    cases h' with
    | err j hj g0 g1 => exact absurd (h _ (hp.mem_iff.2 (List.getElem_mem hj))) g1
    | dup _ g => exact absurd (hnp.nodup h1) g
    | ok _ _ q hq gs =>
      rw [sorted_uniq (ltU_irrefl whole) (ltU_asym whole) hs gs ((hp'.trans hp).trans hq.symm)]
      exact ⟨rfl, Iff.rfl⟩

theorem zero23 : (PR.info? 23).map (fun i => i.zero) = some (some (.agg #[.int .i64 0, .int .i64 0, .int .i64 0, .int .i64 0])) := by kernel_rfl
theorem pl37 : placesO PR 37 = some ([(0, 1), (1, 1), (2, 4)].map fun p => (p.1, some p.2)) := by kernel_rfl
def ua : Us := ⟨[97], 1, 4, 0, 0, 0⟩
def ub : Us := ⟨[98], 2, 4, 0, 0, 0⟩
theorem awake_ord {o : List Str} {e : Int} (h : OrdR [10, 0, 0, 0] [ua, ub] o e) : o = [[98], [97]] ∧ e = 0 := by
  have hok : ∀ u, u ∈ [ua, ub] → okU [10, 0, 0, 0] u := fun u hu => by
    simp only [List.mem_cons, List.not_mem_nil, or_false] at hu
    rcases hu with rfl | rfl <;> (unfold okU; decide)
  have hnd : ([ua, ub].map (·.nm)).Nodup := by decide
  have h' : OrdR [10, 0, 0, 0] [ua, ub] ([ub, ua].map (·.nm)) 0 := .ok hok hnd [ub, ua] (List.Perm.swap _ _ _) (by
    rw [List.pairwise_cons]
    refine ⟨fun y hy => ?_, by simp⟩
    rw [List.mem_singleton] at hy
    subst hy
    exact .inl (by decide))
  exact h.uniq h'

set_option maxHeartbeats 1000000 in
theorem awake_ok (w : World) : Ret PR 8 #[] w (fun r w' => r = .bool true ∧ Ext No w w') := by
  refine f8_ret ?_
  unfold f8
  have arr : ∀ (n : Int) (w1 : World) (K : Kv), K (vec [n, 0, 0, 0]) w1 → sv PR (Instr.build 23 #[(0, .int .i64 n)]) w1 K := fun n w1 K hK =>
    build_arr (sz := 1) zero23 Try.underlying23 (by kernel_rfl) (cells := #[.int .i64 n, .int .i64 0, .int .i64 0, .int .i64 0]) rfl hK
  refine arr 10 _ _ ?_
  refine arr 4 _ _ ?_
  refine build_st zero37 pl37 (cells := (uC ua).toArray) rfl ?_
  refine arr 4 _ _ ?_
  refine build_st zero37 pl37 (cells := (uC ub).toArray) rfl ?_
  refine bsF (n := 2) (sz := 6) zero37 Try.underlying24 (by kernel_rfl) (by omega) (by omega) (cells := ([ua, ub].flatMap uC).toArray) (by kernel_rfl) (by kernel_rfl) fun v w1 ho he hk hsz => ?_
  have hu : UsL w1 v [ua, ub] := ho.sl (by omega)
  refine (order_ok (whole := [10, 0, 0, 0]) rfl hu (by simp)).mono ?_
  rintro _ w2 ⟨out, e, vo, hR, rfl, hoo, heo, _⟩
  obtain ⟨rfl, rfl⟩ := awake_ord hR
  have hs : Sl w2 1 vo [[98], [97]].length (encS [[98], [97]]) := hoo.sl (by simp)
  simp only [vs, beq_self_eq_true, hs.len, List.length_cons, List.length_nil, show (((0 + 1 + 1 : Nat) : Int) == 2) = true from rfl]
  have hg : (encS ([[98], [97]] : List Str))[(0 : Int).toNat]? = some (str [98]) := rfl
  rw [hs.get (by omega) (by simp) hg]
  rw [show (Value.string ⟨#[98]⟩) = str [98] from rfl, str_eq]
  simp only [decide_true, vs]
  exact ⟨by trivial, he.tr heo⟩

/-- First, of an order -/
def firstR (out : List Str) (e : Int) (am : List Str) : Str × Int := if e ≠ 0 then ([], e) else match out.find? (fun s => decide (s ∈ am)) with | some s => (s, 0) | none => ([], 3)
theorem find_first {out am : List Str} {k : Nat} (hk : k < out.length) (h0 : ∀ j (hj : j < out.length), j < k → out[j] ∉ am) (h1 : out[k] ∈ am) : out.find? (fun s => decide (s ∈ am)) = some out[k] := by
  rw [List.find?_eq_some_iff_getElem]
  exact ⟨by simpa using h1, k, hk, rfl, fun j hj => by simpa using h0 j (by omega) hj⟩
theorem first_ok {w : World} {whole : List Int} (hw : whole.length = 4) {v va : Value} {l : List Us} {am : List Str} (h : UsL w v l) (hl : l.length ≤ 1000) (ha : Sl w 1 va am.length (encS am)) :
    Ret PR 15 #[vec whole, va, v] w (fun r w' => ∃ out e, OrdR whole l out e ∧ r = .tuple #[str (firstR out e am).1, .int .i64 (firstR out e am).2] ∧ Ext No w w') := by
  refine f15_ret ?_
  unfold f15
  refine bx_bk fun w2 he2 hsz2 hbw => ?_
  have hbw : Bk w2 w.heap.size (enc whole) 23 := hbw
  rw [hbw.all (by rw [enc_len]; exact hw)]
  change Ret PR 9 #[vec whole, v] w2 _
  refine (order_ok hw (h.ext he2 fun _ _ h => h) hl).mono ?_
  rintro _ w3 ⟨out, e, vo, hR, rfl, ho, he3, hn⟩
  have hE3 := he2.tr he3
  simp only [vs, beq_dec]
  by_cases h0 : e = 0
  case neg =>
    rw [show decide (e = 0) = false from decide_eq_false h0]
    simp only [vs]
    refine ⟨out, e, hR, ?_, hE3⟩
    unfold firstR
    rw [if_pos h0]; rfl
  rw [show decide (e = 0) = true from decide_eq_true h0]
  have hol : out.length ≤ 9223372036854775807 := ho.le
  have hs : Sl w3 1 vo out.length (encS out) := ho.sl hol
  simp only [vs, hs.len]
  refine for1 hol (fun k w' => w' = w3 ∧ ∀ j (hj : j < out.length), j < k → out[j] ∉ am) ⟨rfl, fun j _ h => by omega⟩ ?_ ?_
  · rintro k wa hk ⟨rfl, hno⟩ K hK
    rw [hs.get (by omega) (by omega) (encS_at out hk)]
    refine (Contains_ok (x := out[k]) (ha.ext hE3 fun _ _ h => h)).mono ?_
    rintro _ wb ⟨rfl, rfl⟩
    by_cases hin : out[k] ∈ am
    · simp only [hin, decide_true, vs]
      refine ⟨out, e, hR, ?_, hE3⟩
      unfold firstR
      rw [if_neg (by simp [h0]), find_first hk hno hin]
    · simp (disch := omega) only [hin, decide_false, vs, ar]
      refine hK _ ⟨rfl, fun j hj hjk => ?_⟩
      by_cases e : j = k
      · subst e; exact hin
      · exact hno j hj (by omega)
  · rintro wa ⟨rfl, hno⟩
    refine ⟨out, e, hR, ?_, hE3⟩
    unfold firstR
    rw [if_neg (by simp [h0])]
    have : out.find? (fun s => decide (s ∈ am)) = none := by
      rw [List.find?_eq_none]
      intro s hs
      obtain ⟨j, hj, rfl⟩ := List.mem_iff_getElem.1 hs
      simpa using hno j hj hj
    rw [this]; rfl

end Go.Proofs.Ythhpdcegkbfijaa.Sh
