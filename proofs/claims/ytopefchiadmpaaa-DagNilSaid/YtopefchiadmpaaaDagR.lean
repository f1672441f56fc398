/-
  DagReleases: the walk.
-/
import Derived.Test.YtopefchiadmpaaaDagQ
import Derived.Test.YtopefchiadmpaaaDagX
namespace Go.Proofs.Ytopefchiadmpaaa.Dag
open Go.Proofs.Ytopefchiadmpaaa.V Go.Proofs.Ytopefchiadmpaaa.T
set_option linter.all false
set_option linter.unusedVariables false
set_option linter.unusedSimpArgs false
set_option linter.unnecessarySimpa false

/-- [][]uint8 -/
def Lines (w : World) (v : Value) (L : List (Value × List Int)) : Prop :=
  Sl w 1 v L.length (L.map (·.1)) ∧ ∀ r, r ∈ L → Sl w 1 r.1 r.2.length (r.2.map (Value.int .u8)) ∧ ∀ n, n ∈ r.2 → 0 ≤ n ∧ n ≤ 255
theorem Lines.ext {w w' : World} {v : Value} {L : List (Value × List Int)} (h : Lines w v L) (he : Ext No w w') : Lines w' v L :=
  ⟨h.1.ext he fun _ _ h => h, fun r hr => ⟨(h.2 r hr).1.ext he fun _ _ h => h, (h.2 r hr).2⟩⟩

/-- the parents that a line tells of job i+1 -/
def pl (i : Nat) (r : List Int) : List Int := if i = 0 then [] else (r.take 5).map fun x => 1 + x % (i : Int)
theorem pl_len (i : Nat) (r : List Int) : (pl i r).length ≤ 5 := by
  unfold pl; split <;> simp; omega
theorem pl_mem {i : Nat} {r : List Int} {p : Int} (h : p ∈ pl i r) : 1 ≤ p ∧ p ≤ i := by
  unfold pl at h
  split at h
  · cases h
  · obtain ⟨x, _, rfl⟩ := List.mem_map.1 h
    have h1 := Int.emod_nonneg x (b := (i : Int)) (by omega)
    have h2 := Int.emod_lt_of_pos x (b := (i : Int)) (by omega)
    omega

set_option maxHeartbeats 1000000 in
theorem line_loop {w : World} {v : Value} {L : List (Value × List Int)} {i : Nat} (hL : Lines w v L) (hi : i < L.length) (hi2 : i ≤ 100) {EXIT : Value × Value → World → Prop}
    (hE : ∀ vl k w', Own w' 2 1 vl (pl i L[i].2).length (enc (pl i L[i].2)) → Ext No w w' → (∀ m, inB vl m → w.heap.size ≤ m) → EXIT (vl, k) w') :
    loopV (X := Value × Value) ((.slice none 0 0), (.int .i64 0)) w (fun K7790 x7789 w7336 => ∀ _ : Env,
            pO (ixsO 1 v (.int .i64 i)) fun v7793 =>
            l1 v7793 w7336 fun v7794 =>
            pO (lenO v7794) fun v7795 =>
            pO (arithO .lss x7789.2 v7795) fun v7796 =>
            gB (X := Value) v7796 true undef (fun K8015 =>
              pO (arithO .lss x7789.2 (.int .i64 5)) fun v8016 =>
              K8015 v8016 w7336) w7336 fun x7907 w7799 =>
            pO (pkO v7796 x7907 (.bool false)) fun v7908 =>
            gB (X := Value) v7908 true undef (fun K8013 =>
              pO (arithO .gtr (.int .i64 i) (.int .i64 0)) fun v8014 =>
              K8013 v8014 w7799) w7799 fun x7962 w7911 =>
            pO (pkO v7908 x7962 (.bool false)) fun v7963 =>
            cnd v7963 (
              pO (ixsO 1 v (.int .i64 i)) fun v7965 =>
              l1 v7965 w7911 fun v7966 =>
              pO (ixsO 1 v7966 x7789.2) fun v7967 =>
              l1 v7967 w7911 fun v7968 =>
              pO (cviO .i64 v7968) fun v7969 =>
              pO (arithO .rem v7969 (.int .i64 i)) fun v7970 =>
              pO (arithO .add (.int .i64 1) v7970) fun v7971 =>
              sv PR (Instr.buildSlice 31 1 #[(0, v7971)]) w7911 fun v7972 w7973 =>
              sv PR (Builtin.append_ #[31, 31] 31 #[x7789.1, v7972]) w7973 fun v7974 w7975 =>
              pO (arithO .add x7789.2 (.int .i64 1)) fun v7976 =>
              K7790 (v7974, v7976) w7975) (
              EXIT x7789 w7911)) := by
  obtain ⟨hs, hr⟩ := hL
  obtain ⟨hr1, hr2⟩ := hr _ (List.getElem_mem hi)
  generalize hR : L[i].2 = r at *
  have hget : (L.map (·.1))[((i : Int)).toNat]? = some L[i].1 := by simp [hi]
  refine loopG (Γ := Nat) (fun k x w' => k ≤ r.length ∧ k ≤ 5 ∧ (i = 0 → k = 0) ∧ x.2 = .int .i64 k ∧ Ext No w w' ∧ Own w' 2 1 x.1 ((r.take k).map fun y => 1 + y % (i : Int)).length (enc ((r.take k).map fun y => 1 + y % (i : Int))) ∧ ∀ m, inB x.1 m → w.heap.size ≤ m) (fun k => 5 - k) 0
    ⟨Nat.zero_le _, Nat.zero_le _, fun _ => rfl, rfl, Ext.refl _ _, Own.nil _ _ _, fun m hm => by simp [inB, Value.ownBlock] at hm⟩ ?_
  rintro k ⟨vl, xk⟩ w' ⟨hk1, hk2, hk3, hxk, he, ho, hfr⟩ K hK _
  simp only at hxk ho hfr
  subst hxk
  have hs' := hs.ext he fun _ _ h => h
  have hr1' := hr1.ext he fun _ _ h => h
  have fin : (i = 0 ∨ r.length ≤ k ∨ 5 ≤ k) → EXIT (vl, .int .i64 k) w' := fun hstop => by
    have : (r.take k).map (fun y => 1 + y % (i : Int)) = pl i r := by
      unfold pl
      by_cases h0 : i = 0
      · rw [if_pos h0, hk3 h0]; rfl
      · rw [if_neg h0]
        rcases hstop with h1 | h1 | h1
        · exact absurd h1 h0
        · rw [List.take_of_length_le h1, List.take_of_length_le (by omega)]
        · rw [show k = 5 by omega]
    rw [this] at ho
    exact hE vl _ w' ho he hfr
  simp only
  rw [hs'.get (by omega) (by omega) hget]
  simp only [hr1'.len, vs, ar]
  by_cases h1 : k < r.length
  case neg =>
    rw [show decide ((k : Int) < r.length) = false from decide_eq_false (by omega)]
    simp only [vs]
    exact fin (.inr (.inl (by omega)))
  rw [show decide ((k : Int) < r.length) = true from decide_eq_true (by omega)]
  simp only [vs]
  by_cases h2 : k < 5
  case neg =>
    rw [show decide ((k : Int) < 5) = false from decide_eq_false (by omega)]
    simp only [vs]
    exact fin (.inr (.inr (by omega)))
  rw [show decide ((k : Int) < 5) = true from decide_eq_true (by omega)]
  simp only [vs]
  by_cases h3 : i = 0
  case pos =>
    rw [show decide ((i : Int) > 0) = false from decide_eq_false (by omega)]
    simp only [vs]
    exact fin (.inl h3)
  rw [show decide ((i : Int) > 0) = true from decide_eq_true (by omega)]
  simp only [vs]
  rw [hs'.get (by omega) (by omega) hget]
  have hgk : (r.map (Value.int .u8))[((k : Int)).toNat]? = some (.int .u8 r[k]) := by simp [h1]
  rw [hr1'.get (by omega) (by omega) hgk]
  have hb := hr2 _ (List.getElem_mem h1)
  have hts : (r.take (k + 1)).map (fun y => 1 + y % (i : Int)) = (r.take k).map (fun y => 1 + y % (i : Int)) ++ [1 + r[k] % (i : Int)] := by
    rw [List.take_succ_eq_append_getElem h1, List.map_append]; rfl
  have hm0 := Int.emod_nonneg r[k] (b := (i : Int)) (by omega)
  have hm1 := Int.emod_lt_of_pos r[k] (b := (i : Int)) (by omega)
  simp (disch := omega) only [cvi_fit, rem_pos, ar, vs]
  refine push_ok ho (by simp; omega) fun v2 wd hod hed hvd => ?_
  refine hK (k + 1) _ _ ⟨by omega, by omega, fun h => absurd h h3, by simp, he.trans hed fun m hm hv => by have := hfr m hv; omega, by rw [hts]; exact hod, fun m hm => ?_⟩ (by omega)
  rcases hvd m hm with h5 | h5
  · exact hfr m h5
  · have := he.size; omega

set_option maxHeartbeats 2000000 in
theorem releases_walk {w : World} {v : Value} {L : List (Value × List Int)} (hL : Lines w v L) : Ret PR 5 #[v] w (fun r w' => r = .bool true ∧ Ext No w w') := by
  refine f5_ret ?_
  unfold f5
  refine (awake_ok w).mono ?_
  rintro _ w1 ⟨rfl, he1⟩
  simp only [vs, hL.1.len, ar]
  by_cases hn : L.length ≤ 100
  case neg =>
    rw [show decide ((L.length : Int) > 100) = true from decide_eq_true (by omega)]
    simp only [vs]
    refine (awake_ok w1).mono ?_
    rintro _ w2 ⟨rfl, he2⟩
    exact ⟨rfl, he1.noTrans he2⟩
  rw [show decide ((L.length : Int) > 100) = false from decide_eq_false (by omega)]
  simp only [vs]
  refine (new_ok w1).mono ?_
  rintro _ w2 ⟨b, rfl, hr2, he2, hb2⟩
  have hE2 := he1.noTrans he2
  have hs2 : w.heap.size ≤ b := Nat.le_trans he1.size hb2
  -- the graph and the list of the free ones
  let J : G → (Nat → Prop) → List Int → Value → World → Prop := fun g F free v' w' =>
    Rep w' b g F ∧ Ext No w w' ∧ (∀ m, F m → w.heap.size ≤ m) ∧ Own w' 2 1 v' free.length (enc free) ∧ (∀ m, inB v' m → w.heap.size ≤ m ∧ ¬ F m)
  have push : ∀ {g F free v' w'} {x : Int} {K : Kv}, J g F free v' w' → free.length ≤ 1000 → (∀ v2 w2, J g F (free ++ [x]) v2 w2 → Ext (inB v') w' w2 → K v2 w2) →
      sv PR (Instr.buildSlice 31 1 #[(0, .int .i64 x)]) w' fun v1 w1 => sv PR (Builtin.append_ #[31, 31] 31 #[v', v1]) w1 K := by
    rintro g F free v' w' x K ⟨a1, a2, a3, a4, a5⟩ hl hK
    refine push_ok a4 (by omega) fun v2 wd hod hed hvd => hK _ _ ⟨a1.ext hed fun m hF hv => (a5 m hv).2 hF, a2.trans hed fun m hm hv => by have := (a5 m hv).1; omega, a3, hod, fun m hm => ?_⟩ hed
    rcases hvd m hm with h5 | h5
    · exact a5 m h5
    · exact ⟨by have := a2.size; omega, fun hF => by have := a1.lt hF; omega⟩
  refine for2 (by omega) (fun i v' w' => ∃ g F free, J g F free v' w' ∧ LG g i ∧ free.Nodup ∧ ∀ x, isFree g x = true ↔ x ∈ free)
    ⟨G0, _, [], ⟨hr2, hE2, fun m hm => hm ▸ hs2, Own.nil _ _ _, fun m hm => by simp [inB, Value.ownBlock] at hm⟩, LG.zero, List.nodup_nil, fun x => by simp [isFree, G0]⟩ ?_ ?_
  · rintro i v' wa hi ⟨g, F, free, ⟨hr, hE, hF, hown, hfv⟩, hLG, hnd, hfr⟩ K hK K2 hK2
    refine line_loop (hL.ext hE) hi (by omega) fun vl k wb hol heb hfl => ?_
    have hEb := hE.noTrans heb
    generalize hP : pl i L[i].2 = ps at *
    have hpl : ps.length ≤ 5 := by rw [← hP]; exact pl_len _ _
    have hpm : ∀ p, p ∈ ps → 1 ≤ p ∧ p ≤ i := fun p hp => pl_mem (by rw [hP]; exact hp)
    simp (disch := omega) only [ar, vs]
    refine (add_ok (hr.kept heb) hLG.wf.chR (fun j hj => hLG.wf.chLen hj) ((i : Int) + 1) (hol.sl (by omega)) (by omega)).mono ?_
    rintro _ wc ⟨g', ok, e, F', ha, rfl, hr', hec, hgr⟩
    obtain ⟨rfl, hok, hLG', hfree'⟩ := hLG.add (by omega) hpm ha
    have hEc : Ext No w wc := hEb.trans hec fun m hm hFm => by have := hF m hFm; omega
    have hown' : Own wc 2 1 v' free.length (enc free) := (hown.ext heb fun _ _ h => h).ext hec fun m hm hFm => (hfv m hm).2 hFm
    have hF' : ∀ m, F' m → w.heap.size ≤ m := fun m hm => (hgr m hm).elim (hF m) fun h => by have := hEb.size; omega
    have hfv' : ∀ m, inB v' m → w.heap.size ≤ m ∧ ¬ F' m := fun m hm => ⟨(hfv m hm).1, fun hF' => by
      rcases hgr m hF' with h1 | h1
      · exact (hfv m hm).2 h1
      · have := hown.lt hm; have := heb.size; omega⟩
    have hJ' : J g' F' free v' wc := ⟨hr', hEc, hF', hown', hfv'⟩
    simp only [vs, show (!((0 : Int) == 0)) = false from rfl, (hol.sl (by omega)).len]
    have hcmp : (!(ok == ((ps.length : Int) == 0))) = false := by
      rw [hok]
      by_cases h0 : ps.length = 0
      · simp [h0]
      · simp [h0]
    simp only [hcmp, vs]
    have hfl2 : free.length ≤ 100 := by
      have := len_of_sub (m := upto 100) hnd fun x hx => upto_mem.2 (isFree_iff.1 ((hfr x).2 hx)).1
      rwa [upto_len] at this
    have hnew : (i : Int) + 1 ∉ free := fun hm => by
      obtain ⟨h1, h2, _⟩ := isFree_iff.1 ((hfr _).2 hm)
      rw [hLG.st _ h1.1 h1.2, if_neg (by omega)] at h2; omega
    cases hokv : ok with
    | true =>
      simp (disch := omega) only [ar, vs]
      refine push hJ' (by omega) fun v2 w2 hJ2 _ => ?_
      refine hK2 _ _ fun _ => ?_
      simp (disch := omega) only [ar, vs]
      refine hK _ _ ⟨g', F', _, hJ2, hLG', ?_, fun x => ?_⟩
      · rw [List.nodup_append]
        exact ⟨hnd, by simp, fun a ha b hb e => by
          have : b = (i : Int) + 1 := by simpa using hb
          subst this; subst e; exact hnew ha⟩
      · rw [hfree', List.mem_append, List.mem_singleton, ← hfr]
        by_cases e : x = (i : Int) + 1
        · rw [if_pos e, hokv]; simp [e]
        · rw [if_neg e]; exact ⟨.inl, fun h => h.resolve_right e⟩
    | false =>
      simp only [vs]
      refine hK2 _ _ fun _ => ?_
      simp (disch := omega) only [ar, vs]
      refine hK _ _ ⟨g', F', _, hJ', hLG', hnd, fun x => ?_⟩
      rw [hfree', ← hfr]
      by_cases e : x = (i : Int) + 1
      · rw [if_pos e, hokv]
        refine ⟨fun h => (by cases h), fun h => absurd ((hfr x).1 h) (e ▸ hnew)⟩
      · rw [if_neg e]
  · rintro v1 wS ⟨g, F, free, hJ, hLG, hnd, hfr⟩
    have hRL := RL.start hLG hn hnd hfr
    -- done, one by one
    refine loopG (Γ := Nat × G × (Nat → Prop) × List Int) (fun γ x w' => x.2 = .int .i64 γ.1 ∧ J γ.2.1 γ.2.2.1 γ.2.2.2 x.1 w' ∧ RL γ.2.1 L.length γ.1 γ.2.2.2) (fun γ => 101 - γ.1) (0, g, F, free) ⟨rfl, hJ, hRL⟩ ?_
    rintro ⟨i, g, F, free⟩ ⟨v', xi⟩ wa ⟨hxi, ⟨hr, hE, hF, hown, hfv⟩, hRL⟩ K hK _
    simp only at hxi hr hE hF hown hfv hRL
    subst hxi
    have hfl : free.length ≤ L.length := by
      have := len_of_sub (m := upto L.length) hRL.nd fun x hx => upto_mem.2 (hRL.inn x hx)
      rwa [upto_len] at this
    have hsl : Sl wa 1 v' free.length (enc free) := hown.sl (by omega)
    simp only [hsl.len, vs, ar]
    by_cases hi : i < free.length
    case neg =>
      rw [show decide ((i : Int) < free.length) = false from decide_eq_false (by omega)]
      simp only [vs]
      have : i = free.length := by have := hRL.ile; omega
      subst this
      have := hRL.fin hn
      rw [this]
      exact ⟨by simp, hE⟩
    rw [show decide ((i : Int) < free.length) = true from decide_eq_true (by omega)]
    simp only [vs]
    have hgi : (enc free)[((i : Int)).toNat]? = some (.int .i64 free[i]) := by simp [enc_get, hi]
    rw [hsl.get (by omega) (by omega) hgi]
    refine (done_ok hr hRL.wf.chR (fun j hj => by have := hRL.wf.chLen hj; omega) (fun j c hj hc => hRL.wf.pdR hj hc) (fun j hj hm => hRL.wf.acyc j (.base hm)) hRL.wf.chN free[i]).mono ?_
    rintro _ wb ⟨g', out, e, F', vo, hd, rfl, hr', heb, hgr, hoo, hon, hoF⟩
    obtain ⟨rfl, hond, hout, hRL'⟩ := hRL.step hn hi hd
    have hEb : Ext No w wb := hE.trans heb fun m hm hFm => by have := hF m hFm; omega
    have hown' : Own wb 2 1 v' free.length (enc free) := hown.ext heb fun m hm hFm => (hfv m hm).2 hFm
    have hF' : ∀ m, F' m → w.heap.size ≤ m := fun m hm => (hgr m hm).elim (hF m) fun h => by have := hE.size; omega
    have hfv' : ∀ m, inB v' m → w.heap.size ≤ m ∧ ¬ F' m := fun m hm => ⟨(hfv m hm).1, fun hF' => by
      rcases hgr m hF' with h1 | h1
      · exact (hfv m hm).2 h1
      · have := hown.lt hm; omega⟩
    have hfl2 : (free ++ out).length ≤ L.length := by
      have := len_of_sub (m := upto L.length) hRL'.nd fun x hx => upto_mem.2 (hRL'.inn x hx)
      rwa [upto_len] at this
    rw [List.length_append] at hfl2
    have hvo : ∀ m, inB v' m → ¬ inB vo m := fun m hm hm2 => by have := hown.lt hm; have := hon m hm2; omega
    simp only [vs, show (!((0 : Int) == 0)) = false from rfl, (hoo.sl (by omega)).len]
    refine for2 (by omega) (fun k v2 w2 => J g' F' (free ++ out.take k) v2 w2 ∧ Sl w2 1 vo out.length (enc out) ∧ ∀ m, inB v2 m → ¬ inB vo m) ⟨by simpa using ⟨hr', hEb, hF', hown', hfv'⟩, hoo.sl (by omega), hvo⟩ ?_ ?_
    · rintro k v2 w2 hk ⟨hJ2, hs2, hv2⟩ K3 hK3
      have hgk : (enc out)[((k : Int)).toNat]? = some (.int .i64 out[k]) := by simp [enc_get, hk]
      have hmk := hout _ (List.getElem_mem hk)
      have htl : (free ++ out.take k).length ≤ 100 := by simp; omega
      rw [hs2.get (by omega) (by omega) hgk]
      refine (In_ok (hJ2.2.2.2.1.sl (by omega))).mono ?_
      rintro _ w2' ⟨rfl, rfl⟩
      have hnot : out[k] ∉ free ++ out.take k := fun hm => by
        rcases List.mem_append.1 hm with hm | hm
        · exact hmk.1 hm
        · obtain ⟨j, hj, he⟩ := List.mem_take_iff_getElem.1 hm
          exact (List.pairwise_iff_getElem.1 hond) j k (by omega) hk (by omega) he
      simp only [hnot, decide_false, vs]
      rw [hs2.get (by omega) (by omega) hgk]
      refine (free_ok hJ2.1 out[k]).mono ?_
      rintro _ w3 ⟨rfl, he3⟩
      rw [hmk.2]
      simp only [vs]
      have hs3 := hs2.ext he3 fun _ _ h => h
      rw [hs3.get (by omega) (by omega) hgk]
      have hJ3 : J g' F' (free ++ out.take k) v2 w3 := ⟨hJ2.1.kept he3, hJ2.2.1.noTrans he3, hJ2.2.2.1, hJ2.2.2.2.1.ext he3 fun _ _ h => h, hJ2.2.2.2.2⟩
      refine push_ok hJ3.2.2.2.1 (by omega) fun v4 w4 hod hed hvd => ?_
      simp (disch := omega) only [ar, vs]
      have hts : free ++ out.take (k + 1) = (free ++ out.take k) ++ [out[k]] := by rw [List.take_succ_eq_append_getElem hk, List.append_assoc]
      refine hK3 _ _ ⟨?_, hs3.ext hed fun m hm hi => hv2 m hi hm, fun m hm hm2 => ?_⟩
      · rw [hts]
        refine ⟨hJ3.1.ext hed fun m hF hv => (hJ3.2.2.2.2 m hv).2 hF, hJ3.2.1.trans hed fun m hm hv => by have := (hJ3.2.2.2.2 m hv).1; omega, hJ3.2.2.1, hod, fun m hm => ?_⟩
        rcases hvd m hm with h5 | h5
        · exact hJ3.2.2.2.2 m h5
        · exact ⟨by have := hJ3.2.1.size; omega, fun hF => by have := hJ3.1.lt hF; omega⟩
      · rcases hvd m hm with h5 | h5
        · exact hv2 m h5 hm2
        · have := hs3.lt (by omega) hm2
          omega
    · rintro v2 w2 ⟨hJ2, _, _⟩
      rw [List.take_length] at hJ2
      simp (disch := omega) only [ar, vs]
      exact hK (i + 1, g', F', free ++ out) _ _ ⟨by simp, hJ2, hRL'⟩ (by simp only; omega)

section
variable {H : Type} {en : TypeId × Value → H} {w : World} {base : Nat} {spare : Nat → Bool} {held : Bool}
theorem cells37r : Try.prog.cellsOf 38 = 1 := by kernel_rfl
theorem cells39r : Try.prog.cellsOf 5 = 1 := by kernel_rfl
/-- [][]uint8 that came in. -/
theorem lines_of {v : Value} (h : Reads en Try.prog w base spare held 37 [v]) : ∃ L, Lines w v L := by
  obtain ⟨v', rows, hv, hr, hs, hm⟩ := reads_slice Try.underlying37 cells37r (by omega) h
  obtain rfl : v = v' := by simpa using hv
  obtain ⟨L, rfl, hL⟩ := list_of (fun r : Value × List Int => [r.1]) (fun r => Sl w 1 r.1 r.2.length (r.2.map (Value.int .u8)) ∧ ∀ n, n ∈ r.2 → 0 ≤ n ∧ n ≤ 255) rows fun r hmem => by
    obtain ⟨hl, hread⟩ := hr r hmem
    obtain ⟨pv, l, h1, h2, h3, _⟩ := reads_ints Try.underlying38 Try.underlying5 cells39r hread
    exact ⟨(pv, l), h1, h2, fun n hn => by
      have := h3 n hn
      simpa [Lit.wf, IntKind.min, IntKind.max, IntKind.bits, IntKind.signed] using this⟩
  refine ⟨L, ?_, hL⟩
  have hflat : (L.map fun r : Value × List Int => [r.1]).flatten = L.map (·.1) := by
    clear hL hr hs hm h
    induction L with
    | nil => rfl
    | cons a l ih => simp only [List.map_cons, List.flatten_cons, ih]; rfl
  rw [hflat] at hs
  simpa using hs
theorem dagReleases_said {v : Value} (h : Reads en Try.prog w base spare held 37 [v]) : Ret PR 5 #[v] w (fun r w' => r = .bool true ∧ Ext No w w') := by
  obtain ⟨L, hL⟩ := lines_of h
  exact releases_walk hL
end

end Go.Proofs.Ytopefchiadmpaaa.Dag
