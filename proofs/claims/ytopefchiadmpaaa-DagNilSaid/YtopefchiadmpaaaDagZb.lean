/-
  The reference: Fail.
-/
import Derived.Test.YtopefchiadmpaaaDagZa
namespace Go.Proofs.Ytopefchiadmpaaa.Dag
open Go.Proofs.Ytopefchiadmpaaa.V Go.Proofs.Ytopefchiadmpaaa.T
set_option linter.all false
set_option linter.unusedVariables false
set_option linter.unusedSimpArgs false
set_option linter.unnecessarySimpa false

/-- failed: one job, and those of a list -/
def mk3 (js : List JobD) (id : Int) (O : List Int) : List JobD := js.map fun j => if j.id = id ∨ j.id ∈ O then { j with st := 3 } else j
theorem mk3_len (js : List JobD) (id : Int) (O : List Int) : (mk3 js id O).length = js.length := by simp [mk3]
theorem mk3_get (js : List JobD) (id : Int) (O : List Int) {i : Nat} (hi : i < js.length) : (mk3 js id O)[i]'(by rw [mk3_len]; exact hi) = if js[i].id = id ∨ js[i].id ∈ O then { js[i] with st := 3 } else js[i] := by
  simp [mk3]
theorem srt_inj {js : List JobD} (h : js.Pairwise fun a b => a.id < b.id) {i k : Nat} (hi : i < js.length) (hk : k < js.length) (e : js[i].id = js[k].id) : i = k := by
  rcases Nat.lt_trichotomy i k with h1 | h1 | h1
  · have := (List.pairwise_iff_getElem.1 h) i k hi hk h1; omega
  · exact h1
  · have := (List.pairwise_iff_getElem.1 h) k i hk hi h1; omega
theorem setS_mk {js : List JobD} (h : js.Pairwise fun a b => a.id < b.id) {k : Nat} (hk : k < js.length) {id : Int} (hid : js[k].id = id) : setS js k 3 = mk3 js id [] := by
  refine List.ext_getElem (by simp [setS_len, mk3_len]) fun i h1 h2 => ?_
  rw [mk3_len] at h2
  rw [setS_get js k 3 h2, mk3_get js id [] h2]
  by_cases e : k = i
  · subst e; simp [hid]
  · rw [if_neg e, if_neg]
    rintro (h3 | h3)
    · exact e (srt_inj h hk h2 (hid.trans h3.symm))
    · cases h3
theorem setS_mk3 {js : List JobD} (h : js.Pairwise fun a b => a.id < b.id) {k : Nat} (hk : k < js.length) (id : Int) (O : List Int) : setS (mk3 js id O) k 3 = mk3 js id (O ++ [js[k].id]) := by
  refine List.ext_getElem (by simp [setS_len, mk3_len]) fun i h1 h2 => ?_
  rw [mk3_len] at h2
  rw [setS_get _ k 3 (by rw [mk3_len]; exact h2), mk3_get js id O h2, mk3_get js id _ h2]
  by_cases e : k = i
  · subst e
    have hm : js[k].id ∈ O ++ [js[k].id] := List.mem_append_right _ (List.mem_singleton.2 rfl)
    simp only [if_true, hm, or_true]
    split <;> rfl
  · rw [if_neg e]
    have : js[i].id ≠ js[k].id := fun h3 => e (srt_inj h h2 hk h3).symm
    simp only [List.mem_append, List.mem_singleton, this, or_false]
theorem mk3_ids (js : List JobD) (id : Int) (O : List Int) : ∀ j, j ∈ mk3 js id O → ∃ j0, j0 ∈ js ∧ j.id = j0.id ∧ j.par = j0.par ∧ j.pv = j0.pv := by
  intro j hj
  obtain ⟨j0, h0, rfl⟩ := List.mem_map.1 hj
  refine ⟨j0, h0, ?_⟩
  split <;> exact ⟨rfl, rfl, rfl⟩

inductive FailRR (js : List JobD) (id : Int) : List JobD → List Int → Int → Prop
  | none (h : jobR js id = none) : FailRR js id js [] 3
  | state (h : jobR js id ≠ none) (h1 : stR js id ≠ 1) : FailRR js id js [] 10
  | ok (h1 : stR js id = 1) (p : JobD → Bool) (hp : ∀ j, j ∈ js → (p j = true ↔ j.id ≠ id ∧ j.st = 1 ∧ Up js j.par id)) : FailRR js id (mk3 js id ((js.filter p).map (·.id))) ((js.filter p).map (·.id)) 0

open Classical in
set_option maxHeartbeats 2000000 in
theorem failR_ok {w : World} {c : Nat} {js : List JobD} {F : Nat → Prop} (h : Ref w c js F) (hj : JsOk js) (hfew : js.length ≤ 1000) (id : Int) :
    Ret PR 31 #[ptr c, .int .i64 id] w (fun r w' => ∃ js' L e v, FailRR js id js' L e ∧ r = .tuple #[v, .int .i64 e] ∧ Ref w' c js' F ∧ Ext F w w' ∧ Own w' 2 1 v L.length (enc L) ∧ (∀ k, inB v k → w.heap.size ≤ k)) := by
  suffices hs : ∀ R : Kv, (∀ w' js' L e v, FailRR js id js' L e → Ref w' c js' F → Ext F w w' → Own w' 2 1 v L.length (enc L) → (∀ k, inB v k → w.heap.size ≤ k) → R (.tuple #[v, .int .i64 e]) w') → f31 (ptr c) (.int .i64 id) w R from
    f31_ret (hs _ fun w' js' L e v h1 h2 h3 h4 h5 => ⟨js', L, e, v, h1, rfl, h2, h3, h4, h5⟩)
  intro R hR
  obtain ⟨lv, hv, hF⟩ := h
  have noop : ∀ (e : Int), FailRR js id js [] e → R (.tuple #[.slice none 0 0, .int .i64 e]) w := fun e hd =>
    hR w js [] e _ hd ⟨lv, hv, hF⟩ (Ext.refl _ _) (Own.nil _ _ _) (fun k hk => by simp [inB, Value.ownBlock] at hk)
  unfold f31
  refine (find_ok hv id).mono ?_
  rintro _ wx ⟨rfl, ⟨k, hk, rfl, hid, hjob⟩ | ⟨rfl, hno, hjob⟩⟩
  case inr =>
    simp only [ar, vs, show decide ((-1 : Int) < 0) = true from rfl]
    exact noop 3 (.none hjob)
  simp only [ar]
  rw [show decide ((k : Int) < 0) = false from decide_eq_false (by omega)]
  obtain ⟨b0, o0, q1, q2, q3, q4⟩ := hv.at hk
  simp only [ptr, vs, Nat.add_zero, l1_eq hv.cell, q1, l1_eq q4, beq_dec]
  by_cases hst : js[k].st = 1
  case neg =>
    rw [show decide ((js[k].st : Int) = 1) = false from decide_eq_false (by omega)]
    simp only [vs]
    exact noop 10 (.state (by rw [hjob]; simp) (by simpa [stR, hjob] using hst))
  rw [show decide ((js[k].st : Int) = 1) = true from decide_eq_true (by omega)]
  simp only [vs]
  let p : JobD → Bool := fun j => decide (j.id ≠ id ∧ j.st = 1 ∧ Up js j.par id)
  let nw : Nat → List Int := fun i => ((js.take i).filter p).map (·.id)
  have nwl : ∀ i, (nw i).length ≤ 1000 := fun i => by
    simp only [nw, List.length_map]
    exact Nat.le_trans (List.length_filter_le _ _) (by simp; omega)
  have nws : ∀ i (hi : i < js.length), nw (i + 1) = nw i ++ (if p js[i] then [js[i].id] else []) := fun i hi => by
    simp only [nw]
    rw [filter_take_snoc hi, List.map_append]
    split <;> rfl
  have nwm : ∀ i x, x ∈ nw i → ∃ m, ∃ hm : m < js.length, js[m].id = x := fun i x hx => by
    simp only [nw] at hx
    obtain ⟨j, hjm, rfl⟩ := List.mem_map.1 hx
    obtain ⟨m, hm, rfl⟩ := List.mem_iff_getElem.1 (List.mem_of_mem_take (List.mem_filter.1 hjm).1)
    exact ⟨m, hm, rfl⟩
  have hjl : js.length ≤ 9223372036854775807 := by omega
  refine loopG (Γ := Nat) (fun i x w' => x.2 = .int .i64 i ∧ i ≤ js.length ∧ Ext No wx w' ∧ Own w' 2 1 x.1 (nw i).length (enc (nw i)) ∧ ∀ m, inB x.1 m → wx.heap.size ≤ m) (fun i => js.length - i) 0
    ⟨rfl, Nat.zero_le _, Ext.refl _ _, by simpa [nw, enc] using Own.nil _ _ _, fun m hm => by simp [inB, Value.ownBlock] at hm⟩ ?_
  rintro i ⟨xo, xi⟩ wa ⟨hxi, hi, hEa, hoa, hoN⟩ K hK _
  simp only at hxi hi hoa hoN
  subst hxi
  have hva : RefV wa c js lv := hv.ext hEa fun _ _ h => h
  have hsl : Sl wa 3 lv js.length (js.flatMap jC) := hva.own.sl hjl
  simp only [ptr, vs, Nat.add_zero, l1_eq hva.cell, hsl.len, ar]
  by_cases hlt : i < js.length
  · rw [show decide ((i : Int) < js.length) = true from decide_eq_true (by omega)]
    simp only [vs]
    intro K2 hK2
    have back : ∀ vo wc, Ext No wx wc → Own wc 2 1 vo (nw (i + 1)).length (enc (nw (i + 1))) → (∀ m, inB vo m → wx.heap.size ≤ m) → K2 vo wc := fun vo wc hEc hoc hcN => by
      refine hK2 _ _ fun _ => ?_
      simp (disch := omega) only [ar, vs]
      exact hK (i + 1) _ _ ⟨by simp, hlt, hEc, hoc, hcN⟩ (by omega)
    have no : ∀ wc, Ext No wa wc → p js[i] = false → K2 xo wc := fun wc hec hp => by
      refine back _ _ (hEa.trans hec fun _ _ h => h) ?_ hoN
      rw [nws i hlt]
      simpa [hp] using hoa.ext hec fun _ _ h => h
    simp only [beq_dec, vs]
    by_cases hik : i = k
    · subst hik
      simp only [decide_true, vs]
      exact no _ (Ext.refl _ _) (decide_eq_false fun h => h.1 hid)
    have hne : js[i].id ≠ id := fun e => hik (srt_inj hj.srt hlt hk (e.trans hid.symm))
    rw [show decide ((i : Int) = k) = false from decide_eq_false (by omega)]
    obtain ⟨b1, o1, r1, r2, r3, r4⟩ := hva.at hlt
    simp only [vs, l1_eq hva.cell, r1, Nat.add_zero, l1_eq r4, beq_dec]
    by_cases hsti : js[i].st = 1
    case neg =>
      rw [show decide ((js[i].st : Int) = 1) = false from decide_eq_false (by omega)]
      simp only [vs]
      exact no _ (Ext.refl _ _) (decide_eq_false fun h => hsti h.2.1)
    rw [show decide ((js[i].st : Int) = 1) = true from decide_eq_true (by omega)]
    have hmi := List.getElem_mem hlt
    have hpl := hj.len _ hmi
    simp only [vs, l1_eq hva.cell, r1, l1_eq r3]
    refine (above_ok hva hj.par ((hva.par _ hmi).sl (by omega)) (hj.par _ hmi) hj.len).mono ?_
    rintro vL w2 ⟨L, hoL, hlL, hL, heL, hnL⟩
    refine (In_ok (hoL.sl (by omega))).mono ?_
    rintro _ _ ⟨rfl, rfl⟩
    by_cases hin : id ∈ L
    case neg =>
      simp only [hin, decide_false, vs]
      exact no _ heL (decide_eq_false fun h => hin ((hL id).2 h.2.2))
    have hp : p js[i] = true := decide_eq_true ⟨hne, hsti, (hL id).1 hin⟩
    have hvb : RefV _ c js lv := hva.ext heL fun _ _ h => h
    obtain ⟨b1, o1, r1, r2, r3, r4⟩ := hvb.at hlt
    simp only [hin, decide_true, vs, l1_eq hvb.cell, r1, Nat.add_zero, l1_eq r2]
    refine push_ok (hoa.ext heL fun _ _ h => h) (by have := nwl i; omega) fun v5 w5 ho5 he5 hv5 => ?_
    refine back _ _ ((hEa.trans heL fun _ _ h => h).trans he5 fun m hm hin => by have := hoN m hin; omega) ?_ fun m hm => ?_
    · rw [nws i hlt]; simpa [hp] using ho5
    · rcases hv5 m hm with h5 | h5
      · exact hoN m h5
      · have := hEa.size; have := heL.size; omega
  · rw [show decide ((i : Int) < js.length) = false from decide_eq_false (by omega)]
    obtain rfl : i = js.length := by omega
    obtain ⟨b2, o2, hb2, g1, g2, g3, hv2⟩ := hva.setS hk 3
    have hb2l : b2 < wx.heap.size := hv.own.lt hb2
    have hb2F : F b2 := (hF _).2 (.inr (.inl hb2))
    simp only [vs, l1_eq hva.cell, g1]
    refine st1_int g2 g3 ?_
    have x2 : Ext (fun m => m = b2) _ _ := set_ext wa b2 (o2 + 2) (.int .i64 ((3 : Nat) : Int))
    have ho2 := hoa.ext x2 fun m hm e => by have := hoN m hm; omega
    have hE2 : Ext F wx _ := hEa.no.trans x2 fun m _ e => e ▸ hb2F
    rw [setS_mk hj.srt hk hid] at hv2
    change RefV (World.setCell wa ⟨b2, o2 + 2, none⟩ (.int .i64 3)) _ _ _ at hv2
    change Own (World.setCell wa ⟨b2, o2 + 2, none⟩ (.int .i64 3)) _ _ _ _ _ at ho2
    change Ext F _ (World.setCell wa ⟨b2, o2 + 2, none⟩ (.int .i64 3)) at hE2
    clear x2
    generalize World.setCell wa ⟨b2, o2 + 2, none⟩ (.int .i64 3) = wb at *
    have hO : nw js.length = (js.filter p).map (·.id) := by simp only [nw, List.take_length]
    have hnl := nwl js.length
    have hnm := nwm js.length
    rw [hO] at ho2 hnl hnm
    generalize hOg : (js.filter p).map (·.id) = O at *
    refine loopG (Γ := Nat) (fun i x w' => x = .int .i64 i ∧ i ≤ O.length ∧ RefV w' c (mk3 js id (O.take i)) lv ∧ Ext F wx w' ∧ Own w' 2 1 xo O.length (enc O)) (fun i => O.length - i) 0
      ⟨rfl, Nat.zero_le _, by simpa using hv2, hE2, ho2⟩ ?_
    rintro i _ wc ⟨rfl, hi, hvc, hEc, hoc⟩ K3 hK3 _
    have hsO : Sl wc 1 xo O.length (enc O) := hoc.sl (by omega)
    simp only [hsO.len, vs, ar]
    by_cases hlt : i < O.length
    case neg =>
      rw [show decide ((i : Int) < O.length) = false from decide_eq_false (by omega)]
      simp only [vs]
      rw [List.take_of_length_le (by omega)] at hvc
      have hfr : FailRR js id (mk3 js id O) O 0 := by
        rw [← hOg]
        exact .ok (by simpa [stR, hjob] using hst) p fun j _ => decide_eq_true_iff
      refine hR _ _ _ 0 xo hfr ⟨lv, hvc, fun m => (hF m).trans ?_⟩ hEc hoc hoN
      constructor
      · rintro (h | h | ⟨j, hjm, h⟩)
        · exact .inl h
        · exact .inr (.inl h)
        · obtain ⟨z, hz, rfl⟩ := List.mem_iff_getElem.1 hjm
          refine .inr (.inr ⟨_, List.getElem_mem (show z < (mk3 js id O).length by rw [mk3_len]; exact hz), ?_⟩)
          rw [mk3_get js id O hz]
          split <;> exact h
      · rintro (h | h | ⟨j, hjm, h⟩)
        · exact .inl h
        · exact .inr (.inl h)
        · obtain ⟨j0, h0, _, _, e⟩ := mk3_ids js id O j hjm
          exact .inr (.inr ⟨j0, h0, e ▸ h⟩)
    rw [show decide ((i : Int) < O.length) = true from decide_eq_true (by omega)]
    simp only [vs]
    refine ⟨fun w' => w' = wc.drew, rfl, ?_⟩
    have hvd : RefV wc.drew c (mk3 js id (O.take i)) lv := hvc.ext (Ext.refl No wc).drew fun _ _ h => h
    have hsd : Sl wc.drew 1 xo O.length (O.map (Value.int .i64)) := hsO.ext (Ext.refl No wc).drew fun _ _ h => h
    obtain ⟨p1, e1, k1⟩ := hsd.at1 hlt
    have hod : Own wc.drew 2 1 xo O.length (enc O) := hoc.ext (Ext.refl No wc).drew fun _ _ h => h
    simp only [e1, vs, Nat.add_zero]
    refine l1C_of (fun w' hw => by subst hw; exact hvd.cell) ?_
    obtain ⟨a1, rfl, hc1⟩ : ∃ a, p1 = .pointer (some a) ∧ wc.drew.cell? a = some (.int .i64 O[i]) := by
      have := k1 (fun v => v = .int .i64 O[i])
      obtain ⟨a, v, h1, h2, h3⟩ := this.mpr rfl
      exact ⟨a, h1, h3 ▸ h2⟩
    refine l1C_of (fun w' hw => by subst hw; exact hc1) ?_
    refine (find_ok hvd O[i]).mono ?_
    obtain ⟨m, hm, hmid⟩ := hnm O[i] (List.getElem_mem hlt)
    rintro _ wd ⟨rfl, ⟨q, hq, rfl, hqid, hqjob⟩ | ⟨rfl, hqno, hqjob⟩⟩
    case inr =>
      exfalso
      refine hqno _ (List.getElem_mem (show m < (mk3 js id (O.take i)).length by rw [mk3_len]; exact hm)) ?_
      rw [mk3_get js id _ hm]
      split <;> exact hmid
    refine ⟨rfl, ?_⟩
    have hq' : q < js.length := by rw [mk3_len] at hq; exact hq
    have hqid' : js[q].id = O[i] := by
      rw [mk3_get js id _ hq'] at hqid
      split at hqid <;> exact hqid
    obtain ⟨b3, o3, hb3, u1, u2, u3, hv3⟩ := hvd.setS hq 3
    have hb3l : b3 < wx.heap.size := hv.own.lt hb3
    have hb3F : F b3 := (hF _).2 (.inr (.inl hb3))
    rw [setS_mk3 hj.srt hq', hqid', ← List.take_succ_eq_append_getElem hlt] at hv3
    simp only [u1, vs]
    refine st1_int u2 u3 ?_
    have x3 : Ext (fun m => m = b3) _ _ := set_ext wc.drew b3 (o3 + 2) (.int .i64 ((3 : Nat) : Int))
    simp (disch := omega) only [ar, vs]
    exact hK3 (i + 1) _ _ ⟨by simp, hlt, hv3, hEc.drew.trans x3 fun m _ e => e ▸ hb3F, hod.ext x3 fun m hm e => by have := hoN m hm; omega⟩ (by omega)

end Go.Proofs.Ytopefchiadmpaaa.Dag
