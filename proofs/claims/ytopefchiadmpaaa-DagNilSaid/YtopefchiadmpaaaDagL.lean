/-
  DagOrder: the walk.
-/
import Derived.Test.YtopefchiadmpaaaDagK
namespace Go.Proofs.Ytopefchiadmpaaa.Dag
open Go.Proofs.Ytopefchiadmpaaa.V Go.Proofs.Ytopefchiadmpaaa.T
set_option linter.all false
set_option linter.unusedVariables false
set_option linter.unusedSimpArgs false
set_option linter.unnecessarySimpa false

/-- what the building of a graph keeps -/
structure Built (w0 : World) (b : Nat) (w : World) (v : Value) (n : Nat) (g : G) (F : Nat → Prop) (T : List Int) : Prop where
  rep : Rep w b g F
  wf : WF g
  tg : TG g T
  own : Own w 2 1 v T.length (enc T)
  ext : Ext No w0 w
  fF : ∀ m, F m → w0.heap.size ≤ m
  fv : ∀ m, inB v m → w0.heap.size ≤ m ∧ ¬ F m

theorem Built.kept {w0 w w' : World} {b n : Nat} {v : Value} {g : G} {F : Nat → Prop} {T : List Int} (h : Built w0 b w v n g F T) (he : Ext No w w') : Built w0 b w' v n g F T :=
  ⟨h.rep.kept he, h.wf, h.tg, h.own.ext he fun _ _ h => h, h.ext.noTrans he, h.fF, h.fv⟩

set_option maxHeartbeats 1000000 in
theorem order_walk {w : World} {v : Value} {ops : List OpD} (hS : Script w v ops) : Ret PR 4 #[v] w (fun r w' => r = .bool true ∧ Ext No w w') := by
  refine f4_ret ?_
  unfold f4
  refine (awake_ok w).mono ?_
  rintro _ w1 ⟨rfl, he1⟩
  simp only [vs]
  refine (few_ok (hS.ext he1)).mono ?_
  rintro _ w1' ⟨rfl, rfl⟩
  simp only [vs]
  cases hfew : fewB ops with
  | false =>
    simp only [vs]
    refine (awake_ok w1').mono ?_
    rintro _ w2 ⟨rfl, he2⟩
    exact ⟨rfl, he1.noTrans he2⟩
  | true =>
    simp only [vs]
    obtain ⟨hn, hps⟩ : ops.length ≤ 150 ∧ ∀ o, o ∈ ops → o.par.length ≤ 300 := by
      unfold fewB at hfew
      rw [Bool.and_eq_true, List.all_eq_true] at hfew
      exact ⟨by simpa using hfew.1, fun o ho => by simpa using hfew.2 o ho⟩
    refine (new_ok w1').mono ?_
    rintro _ w2 ⟨b, rfl, hr2, he2, hb2⟩
    have hE2 := he1.noTrans he2
    have hs2 : w.heap.size ≤ b := Nat.le_trans he1.size hb2
    simp only [hS.1.len]
    refine for2 (by omega) (fun i v' w' => ∃ g F T, Built w b w' v' 0 g F T) ⟨G0, _, [], ⟨hr2, WF0, TG.nil, Own.nil _ _ _, hE2, fun m hm => hm ▸ hs2, fun m hm => by simp [inB, Value.ownBlock] at hm⟩⟩ ?_ ?_
    · rintro i v' wa hi ⟨g, F, T, hB⟩ K hK K2 hK2
      have hSa := hS.ext hB.ext
      obtain ⟨ob, oo, hix, c0, c1, c2⟩ := hSa.at hi
      simp only [vs, hix, Nat.add_zero, l1_eq c0, beq_dec]
      have fin : ∀ v' wz g F T, Built w b wz v' 0 g F T → K2 v' wz := fun v' wz g F T hz => by
        refine hK2 _ _ fun _ => ?_
        simp (disch := omega) only [ar, vs]
        exact hK _ _ ⟨g, F, T, hz⟩
      by_cases hk1 : ops[i].k = 1
      case neg =>
        rw [show decide (ops[i].k = 1) = false from decide_eq_false hk1]
        simp only [vs]
        exact fin _ _ g F T hB
      rw [show decide (ops[i].k = 1) = true from decide_eq_true hk1]
      simp only [vs]
      have hBd := hB.kept (Ext.refl No wa).drew
      obtain ⟨ob', oo', hix', d0, d1, d2⟩ := (hS.ext hBd.ext).at hi
      rw [hix] at hix'
      obtain ⟨rfl, rfl⟩ : ob = ob' ∧ oo = oo' := by simpa using hix'
      rw [l1_eq d1, l1_eq d2]
      have hmem := List.getElem_mem hi
      have hpsl := ((hS.ext hBd.ext).2 _ hmem)
      have hpl := hps _ hmem
      refine (add_ok hBd.rep hB.wf.chR (fun j hj => hB.wf.chLen hj) ops[i].id hpsl (by omega)).mono ?_
      rintro _ wc ⟨g', ok, e, F', ha, rfl, hr', hec, hgr⟩
      have hadd := hB.tg.add ha
      have hwf' := hB.wf.add ha
      have hEc : Ext No w wc := hBd.ext.trans hec fun m hm hF => by have := hB.fF m hF; omega
      have hfF' : ∀ m, F' m → w.heap.size ≤ m := fun m hm => (hgr m hm).elim (hB.fF m) fun h => by have := hBd.ext.size; omega
      have hfv' : ∀ m, inB v' m → w.heap.size ≤ m ∧ ¬ F' m := fun m hm => ⟨(hB.fv m hm).1, fun hF' => by
        rcases hgr m hF' with h1 | h1
        · exact (hB.fv m hm).2 h1
        · have := hBd.own.lt hm; omega⟩
      have hoc : Own wc 2 1 v' T.length (enc T) := hBd.own.ext hec fun m hm hF => (hB.fv m hm).2 hF
      simp only [vs, beq_dec]
      by_cases he0 : e = 0
      case neg =>
        rw [show decide (e = 0) = false from decide_eq_false he0]
        simp only [vs]
        have hgg := hadd.2 he0
        subst hgg
        exact fin _ _ g' F' T ⟨hr', hwf', hB.tg, hoc, hEc, hfF', hfv'⟩
      rw [show decide (e = 0) = true from decide_eq_true he0]
      simp only [vs]
      obtain ⟨ob', oo', hix', d0, d1, d2⟩ := (hS.ext hEc).at hi
      rw [hix] at hix'
      obtain ⟨rfl, rfl⟩ : ob = ob' ∧ oo = oo' := by simpa using hix'
      rw [l1_eq d1]
      have hTl := hB.tg.len
      refine push_ok hoc (by omega) fun v2 wd hod hed hvd => ?_
      have hEd : Ext No w wd := hEc.trans hed fun m hm hv => by have := (hB.fv m hv).1; omega
      refine fin _ _ g' F' (T ++ [ops[i].id]) ⟨hr'.ext hed fun m hF hv => (hfv' m hv).2 hF, hwf', hadd.1 he0, hod, hEd, hfF', fun m hm => ?_⟩
      rcases hvd m hm with h1 | h1
      · exact hfv' m h1
      · exact ⟨by have := hEc.size; omega, fun hF => by have := hr'.lt hF; omega⟩
    · rintro vT wS ⟨g, F, T, hB⟩
      have hTl := hB.tg.len
      have hsT : Sl wS 1 vT T.length (enc T) := hB.own.sl (by omega)
      simp only [hsT.len, vs]
      -- the list of those that are taken
      let J : List Int → Value → World → Prop := fun out v' w' => Ext No wS w' ∧ Own w' 2 1 v' out.length (enc out) ∧ ∀ m, inB v' m → wS.heap.size ≤ m
      refine for2le (by omega) (fun t v' w' => ∃ out, J out v' w' ∧ Good T t out) ⟨[], ⟨Ext.refl _ _, Own.nil _ _ _, fun m hm => by simp [inB, Value.ownBlock] at hm⟩, Good.zero T⟩ ?_ ?_
      · rintro t v1 wt ht ⟨out0, hJ0, hg0⟩ K hK
        refine for2 (by omega) (fun i v' w' => J ((T.take i).foldl (stepO g T) out0) v' w') (by simpa using hJ0) ?_ ?_
        · rintro i vO wa hi hJ K1 hK1 K2 hK2
          have hsub : Sub T ((T.take i).foldl (stepO g T) out0) := fold_sub _ _ (fun x hx => List.mem_of_mem_take hx) hg0.1
          have hfs : (T.take (i + 1)).foldl (stepO g T) out0 = stepO g T ((T.take i).foldl (stepO g T) out0) T[i] := by
            rw [List.take_succ_eq_append_getElem hi, List.foldl_append]; rfl
          rw [hfs] at hK1
          generalize (T.take i).foldl (stepO g T) out0 = out at *
          have hol : out.length ≤ 100 := Nat.le_trans (len_of_sub hsub.1 hsub.2) hTl
          obtain ⟨hEa, hoa, hfa⟩ := hJ
          have hga : (enc T)[((i : Int)).toNat]? = some (.int .i64 T[i]) := by simp [enc_get, hi]
          have hmemT := List.getElem_mem hi
          have hx := (hB.tg.2 T[i]).1 hmemT
          have hxA : InA T[i] := ⟨by omega, by omega⟩
          have hsTa := hsT.ext hEa fun _ _ h => h
          simp only
          rw [hsTa.get (by omega) (by omega) hga]
          refine (parents_ok (hB.rep.kept hEa) T[i] (fun hA hs => hB.wf.parLen hA hs)).mono ?_
          rintro _ wb ⟨heb, hres⟩
          rcases hres with ⟨_, _, vp, rfl, hop, hfp⟩ | ⟨hno, rfl⟩
          case inr => exact absurd ⟨inR_iff.2 hx.1, hx.2⟩ hno
          have hEb := hEa.noTrans heb
          have hob := hoa.ext heb fun _ _ h => h
          have hsTb := hsT.ext hEb fun _ _ h => h
          have hsO : Sl wb 1 vO out.length (enc out) := hob.sl (by omega)
          have hparl := hB.wf.parLen hxA hx.2
          generalize hP : g.par T[i] = P at *
          have hsP : Sl wb 1 vp P.length (enc P) := hop.sl (by omega)
          simp only [vs, show ((0 : Int) == 0) = true from rfl]
          rw [hsTb.get (by omega) (by omega) hga]
          refine (In_ok hsO).mono ?_
          rintro _ wb' ⟨rfl, rfl⟩
          simp only [vs, hsP.len]
          refine for2 (by omega) (fun k vk w' => w' = wb' ∧ vk = .bool ((!decide (T[i] ∈ out)) && (P.take k).all fun p => decide (p ∈ out) || !decide (p ∈ T))) ⟨rfl, by simp⟩ ?_ ?_
          · rintro k vk w' hk ⟨rfl, rfl⟩ K3 hK3
            have hgk : (enc P)[((k : Int)).toNat]? = some (.int .i64 P[k]) := by simp [enc_get, hk]
            have hts : (P.take (k + 1)).all (fun p => decide (p ∈ out) || !decide (p ∈ T)) = ((P.take k).all (fun p => decide (p ∈ out) || !decide (p ∈ T)) && (decide (P[k] ∈ out) || !decide (P[k] ∈ T))) := by
              rw [List.take_succ_eq_append_getElem hk, List.all_append]; simp
            rw [hts, ← Bool.and_assoc] at hK3
            generalize ((!decide (T[i] ∈ out)) && (P.take k).all fun p => decide (p ∈ out) || !decide (p ∈ T)) = a at *
            cases a with
            | false =>
              simp only [vs]
              simp (disch := omega) only [ar, vs]
              exact hK3 _ _ ⟨rfl, rfl⟩
            | true =>
              simp only [vs]
              rw [hsP.get (by omega) (by omega) hgk]
              refine (In_ok hsO).mono ?_
              rintro _ _ ⟨rfl, rfl⟩
              by_cases h1 : P[k] ∈ out
              · simp only [h1, decide_true, vs]
                simp (disch := omega) only [ar, vs]
                exact hK3 _ _ ⟨rfl, by simp [h1]⟩
              · simp only [h1, decide_false, vs]
                rw [hsP.get (by omega) (by omega) hgk]
                refine (In_ok hsTb).mono ?_
                rintro _ _ ⟨rfl, rfl⟩
                simp only [vs]
                simp (disch := omega) only [ar, vs]
                exact hK3 _ _ ⟨rfl, by simp [h1]⟩
          · rintro vk w' ⟨rfl, rfl⟩
            rw [List.take_length]
            have hok : ((!decide (T[i] ∈ out)) && P.all fun p => decide (p ∈ out) || !decide (p ∈ T)) = okO T out P T[i] := rfl
            rw [hok]
            cases hoc : okO T out P T[i] with
            | false =>
              simp only [vs]
              refine hK2 _ _ fun _ => ?_
              simp (disch := omega) only [ar, vs]
              refine hK1 _ _ ?_
              unfold stepO
              rw [hP, hoc]
              exact ⟨hEb, hob, hfa⟩
            | true =>
              simp only [vs]
              rw [hsTb.get (by omega) (by omega) hga]
              refine push_ok hob (by omega) fun v2 wd hod hed hvd => ?_
              refine hK2 _ _ fun _ => ?_
              simp (disch := omega) only [ar, vs]
              refine hK1 _ _ ?_
              unfold stepO
              rw [hP, hoc]
              refine ⟨hEb.trans hed fun m hm hv => by have := hfa m hv; omega, hod, fun m hm => ?_⟩
              rcases hvd m hm with h1 | h1
              · exact hfa m h1
              · have := hEb.size; omega
        · rintro vO wa hJ
          rw [List.take_length] at hJ
          simp (disch := omega) only [ar, vs]
          exact hK _ _ ⟨_, hJ, hg0.turn hB.wf hB.tg⟩
      · rintro vO wa ⟨out, hJ, hg⟩
        have hfull := hg.full hB.tg.1
        have hsO : Sl wa 1 vO out.length (enc out) := hJ.2.1.sl (by omega)
        simp only [hsO.len, vs, hfull]
        exact ⟨by simp, hB.ext.noTrans hJ.1⟩

end Go.Proofs.Ytopefchiadmpaaa.Dag
