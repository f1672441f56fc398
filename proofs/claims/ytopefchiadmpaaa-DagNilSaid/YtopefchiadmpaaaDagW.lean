/-
  The reference: Above.
-/
import Derived.Test.YtopefchiadmpaaaDagV
namespace Go.Proofs.Ytopefchiadmpaaa.Dag
open Go.Proofs.Ytopefchiadmpaaa.V Go.Proofs.Ytopefchiadmpaaa.T
set_option linter.all false
set_option linter.unusedVariables false
set_option linter.unusedSimpArgs false
set_option linter.unnecessarySimpa false

inductive Up (js : List JobD) (l : List Int) : Int → Prop
  | base {x : Int} (h : x ∈ l) : Up js l x
  | step {y p : Int} {j : JobD} (h : Up js l y) (hj : jobR js y = some j) (hp : p ∈ j.par) : Up js l p

/-- what the walk upwards has found -/
structure AbS (js : List JobD) (l out : List Int) (i : Nat) : Prop where
  nd : out.Nodup
  rng : ∀ x, x ∈ out → 1 ≤ x ∧ x ≤ 100
  up : ∀ x, x ∈ out → Up js l x
  l : ∀ x, x ∈ l → x ∈ out
  cl : ∀ m (hm : m < out.length), m < i → ∀ j, jobR js out[m] = some j → ∀ p, p ∈ j.par → p ∈ out
theorem AbS.len {js : List JobD} {l out : List Int} {i : Nat} (h : AbS js l out i) : out.length ≤ 100 := by
  have := len_of_sub (m := upto 100) h.nd fun x hx => upto_mem.2 (h.rng x hx)
  rwa [upto_len] at this
theorem AbS.fin {js : List JobD} {l out : List Int} (h : AbS js l out out.length) (x : Int) : x ∈ out ↔ Up js l x := by
  refine ⟨h.up x, fun hu => ?_⟩
  induction hu with
  | base hx => exact h.l _ hx
  | step hy hj hp ih =>
    obtain ⟨m, hm, rfl⟩ := List.mem_iff_getElem.1 ih
    exact h.cl m hm hm _ hj _ hp

theorem jobR_mem {js : List JobD} {x : Int} {j : JobD} (h : jobR js x = some j) : j ∈ js ∧ j.id = x := by
  unfold jobR at h
  exact ⟨List.mem_of_find?_eq_some h, by simpa using List.find?_some h⟩

set_option maxHeartbeats 2000000 in
theorem above_ok {w : World} {c : Nat} {js : List JobD} {lv : Value} (h : RefV w c js lv) (hjs : ∀ j, j ∈ js → ∀ p, p ∈ j.par → 1 ≤ p ∧ p ≤ 100) {vl : Value} {l : List Int} (hl : Sl w 1 vl l.length (enc l)) (hr : ∀ x, x ∈ l → 1 ≤ x ∧ x ≤ 100)
    (hpl : ∀ j, j ∈ js → j.par.length ≤ 1000) :
    Ret PR 34 #[ptr c, vl] w (fun r w' => ∃ L, Own w' 2 1 r L.length (enc L) ∧ L.length ≤ 100 ∧ (∀ x, x ∈ L ↔ Up js l x) ∧ Ext No w w' ∧ ∀ m, inB r m → w.heap.size ≤ m) := by
  refine f34_ret ?_
  unfold f34
  have hll := hl.2.1
  simp only [hl.len]
  let J : List Int → Value → World → Prop := fun out v' w' => Ext No w w' ∧ Own w' 2 1 v' out.length (enc out) ∧ ∀ m, inB v' m → w.heap.size ≤ m
  have push : ∀ {out : List Int} {v' : Value} {w' : World} {x : Int} {K : Kv}, J out v' w' → out.length ≤ 1000 → (∀ v2 w2, J (out ++ [x]) v2 w2 → K v2 w2) →
      sv PR (Instr.buildSlice 31 1 #[(0, .int .i64 x)]) w' fun v1 w1 => sv PR (Builtin.append_ #[31, 31] 31 #[v', v1]) w1 K := by
    rintro out v' w' x K ⟨a2, a4, a5⟩ hl hK
    refine push_ok a4 (by omega) fun v2 wd hod hed hvd => hK _ _ ⟨a2.trans hed fun m hm hv => by have := a5 m hv; omega, hod, fun m hm => ?_⟩
    rcases hvd m hm with h5 | h5
    · exact a5 m h5
    · have := a2.size; omega
  refine for2 hll (fun i v' w' => ∃ out, J out v' w' ∧ out.Nodup ∧ ∀ x, x ∈ out ↔ x ∈ l.take i) ⟨[], ⟨Ext.refl _ _, Own.nil _ _ _, fun m hm => by simp [inB, Value.ownBlock] at hm⟩, List.nodup_nil, fun x => by simp⟩ ?_ ?_
  · rintro i v' wa hi ⟨out, hJ, hnd, hmem⟩ K hK K2 hK2
    have hla := hl.ext hJ.1 fun _ _ h => h
    have hga : (enc l)[((i : Int)).toNat]? = some (.int .i64 l[i]) := by simp [enc_get, hi]
    have hol : out.length ≤ 100 := by
      have := len_of_sub (m := upto 100) hnd fun x hx => upto_mem.2 (hr x (List.mem_of_mem_take ((hmem x).1 hx)))
      rwa [upto_len] at this
    have hts : l.take (i + 1) = l.take i ++ [l[i]] := List.take_succ_eq_append_getElem hi
    simp only
    rw [hla.get (by omega) (by omega) hga]
    refine (In_ok (hJ.2.1.sl (by omega))).mono ?_
    rintro _ wb ⟨rfl, rfl⟩
    by_cases hin : l[i] ∈ out
    · simp only [hin, decide_true, vs]
      refine hK2 _ _ fun _ => ?_
      simp (disch := omega) only [ar, vs]
      refine hK _ _ ⟨out, hJ, hnd, fun x => ?_⟩
      rw [hts, List.mem_append, List.mem_singleton, ← hmem]
      exact ⟨.inl, fun h => h.elim (fun h => h) fun e => e ▸ hin⟩
    · simp only [hin, decide_false, vs]
      rw [hla.get (by omega) (by omega) hga]
      refine push hJ (by omega) fun v2 w2 hJ2 => ?_
      refine hK2 _ _ fun _ => ?_
      simp (disch := omega) only [ar, vs]
      refine hK _ _ ⟨_, hJ2, ?_, fun x => ?_⟩
      · rw [List.nodup_append]
        exact ⟨hnd, by simp, fun a ha b hb e => by
          have : b = l[i] := by simpa using hb
          subst this; subst e; exact hin ha⟩
      · rw [hts, List.mem_append, List.mem_append, hmem]
  · rintro v1 w1 ⟨out, hJ, hnd, hmem⟩
    rw [List.take_length] at hmem
    have hA : AbS js l out 0 := ⟨hnd, fun x hx => hr x ((hmem x).1 hx), fun x hx => .base ((hmem x).1 hx), fun x hx => (hmem x).2 hx, fun m hm h => by omega⟩
    clear hmem hnd
    refine loopG (Γ := Nat × List Int) (fun γ x w' => x.2 = .int .i64 γ.1 ∧ J γ.2 x.1 w' ∧ AbS js l γ.2 γ.1 ∧ γ.1 ≤ γ.2.length) (fun γ => 101 - γ.1) (0, out) ⟨rfl, hJ, hA, Nat.zero_le _⟩ ?_
    clear hJ hA
    rintro ⟨i, out⟩ ⟨v', xi⟩ wa ⟨hxi, hJ, hA, hil⟩ K hK _
    simp only at hxi hJ hA hil
    subst hxi
    have hol := hA.len
    have hso : Sl wa 1 v' out.length (enc out) := hJ.2.1.sl (by omega)
    simp only [hso.len, vs, ar]
    by_cases hi : i < out.length
    case neg =>
      rw [show decide ((i : Int) < out.length) = false from decide_eq_false (by omega)]
      simp only [vs]
      have : i = out.length := by omega
      subst this
      exact ⟨out, hJ.2.1, hol, hA.fin, hJ.1, hJ.2.2⟩
    rw [show decide ((i : Int) < out.length) = true from decide_eq_true (by omega)]
    simp only [vs]
    have hgi : (enc out)[((i : Int)).toNat]? = some (.int .i64 out[i]) := by simp [enc_get, hi]
    rw [hso.get (by omega) (by omega) hgi]
    have hRa : RefV wa c js lv := h.ext hJ.1 fun _ _ h => h
    refine (find_ok hRa out[i]).mono ?_
    rintro _ wb ⟨rfl, hres⟩
    rcases hres with ⟨k, hk, rfl, hid, hjob⟩ | ⟨rfl, hno, hjob⟩
    case inr =>
      -- no such job: the walk over its parents stops at once
      refine loopG (Γ := Unit) (fun _ x w' => x = (v', .int .i64 0) ∧ w' = wb) (fun _ => 0) () ⟨rfl, rfl⟩ ?_
      rintro _ _ _ ⟨rfl, rfl⟩ K3 hK3 _
      simp only [ar, vs, show decide ((-1 : Int) ≥ 0) = false from rfl]
      simp (disch := omega) only [ar, vs]
      refine hK (i + 1, out) _ _ ⟨by simp, hJ, ⟨hA.nd, hA.rng, hA.up, hA.l, fun m hm hmi j hj p hp => ?_⟩, hi⟩ (by simp only; omega)
      by_cases e : m = i
      · subst e; rw [hjob] at hj; cases hj
      · exact hA.cl m hm (by omega) j hj p hp
    have hmemk := List.getElem_mem hk
    have hpk := hpl _ hmemk
    refine loopG (Γ := Nat × List Int) (fun γ x w' => x.2 = .int .i64 γ.1 ∧ γ.1 ≤ js[k].par.length ∧ J (out ++ γ.2) x.1 w' ∧ AbS js l (out ++ γ.2) i ∧ ∀ m (hm : m < js[k].par.length), m < γ.1 → js[k].par[m] ∈ out ++ γ.2) (fun γ => js[k].par.length - γ.1) (0, [])
      ⟨rfl, Nat.zero_le _, by simpa using hJ, by simpa using hA, fun m hm h => by simp only at h; omega⟩ ?_
    rintro ⟨q, ex⟩ ⟨v2, xq⟩ w2 ⟨hxq, hq, hJ2, hA2, hpar⟩ K3 hK3 _
    simp only at hxq hq hJ2 hA2 hpar
    subst hxq
    have hR2 : RefV w2 c js lv := h.ext hJ2.1 fun _ _ h => h
    obtain ⟨ob, oo, h1, c0, c1, c2⟩ := hR2.at hk
    have hop := hR2.par _ hmemk
    have hsp : Sl w2 1 js[k].pv js[k].par.length (enc js[k].par) := hop.sl (by omega)
    simp only [ar]
    rw [show decide ((k : Int) ≥ 0) = true from decide_eq_true (by omega)]
    simp only [ptr, vs, Nat.add_zero, l1_eq hR2.cell, h1, l1_eq c1, hsp.len, ar]
    by_cases hlt : q < js[k].par.length
    case neg =>
      rw [show decide ((q : Int) < js[k].par.length) = false from decide_eq_false (by omega)]
      simp only [vs]
      simp (disch := omega) only [ar, vs]
      refine hK (i + 1, out ++ ex) _ _ ⟨by simp, hJ2, ⟨hA2.nd, hA2.rng, hA2.up, hA2.l, fun m hm hmi j hj p hp => ?_⟩, by simp; omega⟩ (by simp only; omega)
      by_cases e : m = i
      · subst e
        rw [List.getElem_append_left hi, hjob] at hj
        cases hj
        obtain ⟨z, hz, rfl⟩ := List.mem_iff_getElem.1 hp
        exact hpar z hz (by omega)
      · exact hA2.cl m hm (by omega) j hj p hp
    rw [show decide ((q : Int) < js[k].par.length) = true from decide_eq_true (by omega)]
    simp only [vs]
    intro K4 hK4
    have hgq : (enc js[k].par)[((q : Int)).toNat]? = some (.int .i64 js[k].par[q]) := by simp [enc_get, hlt]
    have hol2 := hA2.len

    rw [hsp.get (by omega) (by omega) hgq]
    refine (In_ok (hJ2.2.1.sl (by omega))).mono ?_
    rintro _ w3 ⟨rfl, rfl⟩
    have hmq := List.getElem_mem hlt
    by_cases hin : js[k].par[q] ∈ out ++ ex
    · simp only [hin, decide_true, vs]
      refine hK4 _ _ fun _ => ?_
      simp (disch := omega) only [ar, vs]
      refine hK3 (q + 1, ex) _ _ ⟨by simp, hlt, hJ2, hA2, fun m hm hmq => ?_⟩ (by simp only; omega)
      by_cases e : m = q
      · subst e; exact hin
      · exact hpar m hm (by simp only at hmq; omega)
    · simp only [hin, decide_false, vs, l1_eq hR2.cell, h1, l1_eq c1]
      rw [hsp.get (by omega) (by omega) hgq]
      refine push hJ2 (by omega) fun v5 w5 hJ5 => ?_
      refine hK4 _ _ fun _ => ?_
      simp (disch := omega) only [ar, vs]
      rw [List.append_assoc] at hJ5
      refine hK3 (q + 1, ex ++ [js[k].par[q]]) _ _ ⟨by simp, hlt, hJ5, ?_, fun m hm hmq => ?_⟩ (by simp only; omega)
      · rw [← List.append_assoc]
        have hmi : out[i] ∈ out ++ ex := List.mem_append_left _ (List.getElem_mem hi)
        refine ⟨?_, fun x hx => ?_, fun x hx => ?_, fun x hx => List.mem_append_left _ (hA2.l x hx), fun m hm hmi j hj p hp => ?_⟩
        · rw [List.nodup_append]
          exact ⟨hA2.nd, by simp, fun a ha b hb e => by
            have : b = js[k].par[q] := by simpa using hb
            subst this; subst e; exact hin ha⟩
        · rcases List.mem_append.1 hx with hx | hx
          · exact hA2.rng x hx
          · have : x = js[k].par[q] := by simpa using hx
            rw [this]; exact hjs _ hmemk _ hmq
        · rcases List.mem_append.1 hx with hx | hx
          · exact hA2.up x hx
          · have : x = js[k].par[q] := by simpa using hx
            rw [this]; exact .step (hA2.up _ hmi) hjob hmq
        · have hml : m < (out ++ ex).length := by simp; omega
          rw [List.getElem_append_left hml] at hj
          exact List.mem_append_left _ (hA2.cl m hml hmi j hj p hp)
      · rw [← List.append_assoc]
        by_cases e : m = q
        · subst e; simp
        · exact List.mem_append_left _ (hpar m hm (by simp only at hmq; omega))

end Go.Proofs.Ytopefchiadmpaaa.Dag
