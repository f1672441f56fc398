/-
  The reference: Done.
-/
import Derived.Test.YtopefchiadmpaaaDagZ
namespace Go.Proofs.Ytopefchiadmpaaa.Dag
open Go.Proofs.Ytopefchiadmpaaa.V Go.Proofs.Ytopefchiadmpaaa.T
set_option linter.all false
set_option linter.unusedVariables false
set_option linter.unusedSimpArgs false
set_option linter.unnecessarySimpa false

theorem setS_mem {js : List JobD} {k n : Nat} {j : JobD} (h : j ∈ js) : ∃ j', j' ∈ setS js k n ∧ j'.pv = j.pv := by
  obtain ⟨i, hi, rfl⟩ := List.mem_iff_getElem.1 h
  refine ⟨_, List.getElem_mem (show i < (setS js k n).length by rw [setS_len]; exact hi), ?_⟩
  rw [setS_get js k n hi]
  split <;> rfl
theorem footS (c : Nat) (js : List JobD) (lv : Value) (k n m : Nat) : footR c (setS js k n) lv m ↔ footR c js lv m := by
  constructor
  · rintro (h | h | ⟨j, hj, h⟩)
    · exact .inl h
    · exact .inr (.inl h)
    · obtain ⟨j0, h0, e, _⟩ := setS_pv hj
      exact .inr (.inr ⟨j0, h0, e ▸ h⟩)
  · rintro (h | h | ⟨j, hj, h⟩)
    · exact .inl h
    · exact .inr (.inl h)
    · obtain ⟨j0, h0, e⟩ := setS_mem (k := k) (n := n) hj
      exact .inr (.inr ⟨j0, h0, e ▸ h⟩)

theorem freeR_st {js : List JobD} {id : Int} (h : freeR js id = true) : stR js id = 1 := by
  unfold freeR at h
  simp only [Bool.and_eq_true, decide_eq_true_eq] at h
  exact h.1

set_option maxHeartbeats 2000000 in
theorem doneR_ok {w : World} {c : Nat} {js : List JobD} {F : Nat → Prop} (h : Ref w c js F) (hfew : js.length ≤ 1000) (id : Int) :
    Ret PR 30 #[ptr c, .int .i64 id] w (fun r w' => ∃ js' L e v, DoneRR js id js' L e ∧ r = .tuple #[v, .int .i64 e] ∧ Ref w' c js' F ∧ Ext F w w' ∧ Own w' 2 1 v L.length (enc L) ∧ (∀ k, inB v k → w.heap.size ≤ k)) := by
  suffices hs : ∀ R : Kv, (∀ w' js' L e v, DoneRR js id js' L e → Ref w' c js' F → Ext F w w' → Own w' 2 1 v L.length (enc L) → (∀ k, inB v k → w.heap.size ≤ k) → R (.tuple #[v, .int .i64 e]) w') → f30 (ptr c) (.int .i64 id) w R from
    f30_ret (hs _ fun w' js' L e v h1 h2 h3 h4 h5 => ⟨js', L, e, v, h1, rfl, h2, h3, h4, h5⟩)
  intro R hR
  obtain ⟨lv, hv, hF⟩ := h
  have noop : ∀ (e : Int), DoneRR js id js [] e → R (.tuple #[.slice none 0 0, .int .i64 e]) w := fun e hd =>
    hR w js [] e _ hd ⟨lv, hv, hF⟩ (Ext.refl _ _) (Own.nil _ _ _) (fun k hk => by simp [inB, Value.ownBlock] at hk)
  unfold f30
  refine (find_ok hv id).mono ?_
  rintro _ wx ⟨rfl, ⟨k, hk, rfl, hid, hjob⟩ | ⟨rfl, hno, hjob⟩⟩
  case inr =>
    simp only [ar, vs, show decide ((-1 : Int) < 0) = true from rfl]
    exact noop 3 (.none hjob)
  simp only [ar]
  rw [show decide ((k : Int) < 0) = false from decide_eq_false (by omega)]
  simp only [vs]
  refine (freeR_ok hv id).mono ?_
  rintro _ wy ⟨rfl, rfl⟩
  by_cases hf : freeR js id = true
  case neg =>
    have hf' : freeR js id = false := by simpa using hf
    simp only [hf', vs]
    exact noop 10 (.state (by rw [hjob]; simp) hf')
  simp only [hf, vs]
  have hst1 : js[k].st = 1 := by have := freeR_st hf; simpa [stR, hjob] using this
  let p : JobD → Bool := fun j => !freeR js j.id && freeR (setS js k 2) j.id
  let nw : Nat → List Int := fun i => ((js.take i).filter p).map (·.id)
  have nwl : ∀ i, (nw i).length ≤ 1000 := fun i => by
    simp only [nw, List.length_map]
    exact Nat.le_trans (List.length_filter_le _ _) (by simp; omega)
  have nws : ∀ i (hi : i < js.length), nw (i + 1) = nw i ++ (if p js[i] then [js[i].id] else []) := fun i hi => by
    simp only [nw]
    rw [filter_take_snoc hi, List.map_append]
    split <;> rfl
  have hjl : js.length ≤ 9223372036854775807 := by omega
  refine loopG (Γ := Nat) (fun i x w' => x.2 = .int .i64 i ∧ i ≤ js.length ∧ RefV w' c js lv ∧ Ext F wy w' ∧ Own w' 2 1 x.1 (nw i).length (enc (nw i)) ∧ ∀ m, inB x.1 m → wy.heap.size ≤ m) (fun i => js.length - i) 0
    ⟨rfl, Nat.zero_le _, hv, Ext.refl _ _, by simpa [nw, enc] using Own.nil _ _ _, fun m hm => by simp [inB, Value.ownBlock] at hm⟩ ?_
  rintro i ⟨xo, xi⟩ wa ⟨hxi, hi, hva, hEa, hoa, hoN⟩ K hK _
  simp only at hxi hi hoa hoN
  subst hxi
  have hsl : Sl wa 3 lv js.length (js.flatMap jC) := hva.own.sl hjl
  simp only [ptr, vs, Nat.add_zero, l1_eq hva.cell, hsl.len, ar]
  by_cases hlt : i < js.length
  · rw [show decide ((i : Int) < js.length) = true from decide_eq_true (by omega)]
    obtain ⟨b, o, h1, c0, c1, c2⟩ := hva.at hlt
    simp only [vs, h1, Nat.add_zero, l1_eq c0]
    refine (freeR_ok hva js[i].id).mono ?_
    rintro _ wa1 ⟨rfl, rfl⟩
    obtain ⟨b2, o2, hb2, g1, g2, g3, hv2⟩ := hva.setS hk 2
    have hb2l : b2 < wy.heap.size := hv.own.lt hb2
    have hb2F : F b2 := (hF _).2 (.inr (.inl hb2))
    simp only [vs, l1_eq hva.cell, g1]
    refine st1_int g2 g3 ?_
    have x2 : Ext (fun m => m = b2) wa1 _ := set_ext wa1 b2 (o2 + 2) (.int .i64 ((2 : Nat) : Int))
    have ho2 := hoa.ext x2 fun m hm e => by have := hoN m hm; omega
    have hE2 := hEa.trans x2 fun m _ e => e ▸ hb2F
    change RefV (World.setCell wa1 ⟨b2, o2 + 2, none⟩ (.int .i64 2)) _ _ _ at hv2
    change Own (World.setCell wa1 ⟨b2, o2 + 2, none⟩ (.int .i64 2)) _ _ _ _ _ at ho2
    change Ext F _ (World.setCell wa1 ⟨b2, o2 + 2, none⟩ (.int .i64 2)) at hE2
    clear x2
    generalize World.setCell wa1 ⟨b2, o2 + 2, none⟩ (.int .i64 2) = wb at *
    intro K2 hK2
    have back : ∀ vo wc, RefV wc c (Dag.setS js k 2) lv → Ext F wy wc → Own wc 2 1 vo (nw (i + 1)).length (enc (nw (i + 1))) → (∀ m, inB vo m → wy.heap.size ≤ m) → K2 vo wc := fun vo wc hvc hEc hoc hcN => by
      refine hK2 _ _ fun _ => ?_
      obtain ⟨b3, o3, hb3, k1, k2, k3, hv3⟩ := hvc.setS (k := k) (by rw [setS_len]; exact hk) 1
      have hb3l : b3 < wy.heap.size := hv.own.lt hb3
      have hb3F : F b3 := (hF _).2 (.inr (.inl hb3))
      simp only [vs, l1_eq hvc.cell, k1]
      refine st1_int k2 k3 ?_
      rw [setS_back hk 2 1 hst1] at hv3
      have x3 : Ext (fun m => m = b3) _ _ := set_ext wc b3 (o3 + 2) (.int .i64 ((1 : Nat) : Int))
      simp (disch := omega) only [ar, vs]
      refine hK (i + 1) _ _ ⟨by simp, hlt, hv3, hEc.trans x3 fun m _ e => e ▸ hb3F, hoc.ext x3 fun m hm e => by have := hcN m hm; omega, hcN⟩ (by omega)
    by_cases hwas : freeR js js[i].id = true
    · simp only [hwas, vs]
      refine back _ _ hv2 hE2 ?_ hoN
      rw [nws i hlt]
      simpa [p, hwas] using ho2
    · have hwas' : freeR js js[i].id = false := by simpa using hwas
      simp only [hwas', vs]
      have hlt2 : i < (Dag.setS js k 2).length := by rw [setS_len]; exact hlt
      obtain ⟨b4, o4, q1, q2, q3, q4⟩ := hv2.at hlt2
      have hid4 : (Dag.setS js k 2)[i].id = js[i].id := by rw [setS_get js k 2 hlt]; split <;> rfl
      rw [hid4] at q2
      simp only [l1_eq hv2.cell, q1, vs, Nat.add_zero, l1_eq q2]
      refine (freeR_ok hv2 js[i].id).mono ?_
      rintro _ _ ⟨rfl, rfl⟩
      by_cases hnow : freeR (Dag.setS js k 2) js[i].id = true
      case neg =>
        have hnow' : freeR (Dag.setS js k 2) js[i].id = false := by simpa using hnow
        simp only [hnow', vs]
        refine back _ _ hv2 hE2 ?_ hoN
        rw [nws i hlt]
        simpa [p, hwas', hnow'] using ho2
      simp only [hnow, vs, l1_eq hv2.cell, q1, Nat.add_zero, l1_eq q2]
      refine push_ok ho2 (by have := nwl i; omega) fun v5 w5 ho5 he5 hv5 => ?_
      have hE5 : Ext F wy w5 := hE2.trans he5 fun m hm hin => by have := hoN m hin; omega
      refine back _ _ (hv2.ext he5 fun m hm hin => ?_) hE5 ?_ fun m hm => ?_
      · have := hoN m hin
        have := hv.foot_lt ((footS c js lv k 2 m).1 hm)
        omega
      · rw [nws i hlt]
        simpa [p, hwas', hnow] using ho5
      · rcases hv5 m hm with h5 | h5
        · exact hoN m h5
        · have := hE2.size; omega
  · rw [show decide ((i : Int) < js.length) = false from decide_eq_false (by omega)]
    obtain ⟨b2, o2, hb2, g1, g2, g3, hv2⟩ := hva.setS hk 2
    have hb2l : b2 < wy.heap.size := hv.own.lt hb2
    have hb2F : F b2 := (hF _).2 (.inr (.inl hb2))
    simp only [vs, l1_eq hva.cell, g1]
    refine st1_int g2 g3 ?_
    have x2 : Ext (fun m => m = b2) _ _ := set_ext wa b2 (o2 + 2) (.int .i64 ((2 : Nat) : Int))
    have hnw : nw i = newly js (Dag.setS js k 2) := by
      simp only [nw, newly]
      rw [List.take_of_length_le (by omega)]
    rw [hnw] at hoa
    refine hR _ _ _ 0 xo (.ok hf k hk hid) ⟨lv, hv2, fun m => (hF m).trans (footS c js lv k 2 m).symm⟩ (hEa.trans x2 fun m _ e => e ▸ hb2F) (hoa.ext x2 fun m hm e => by have := hoN m hm; omega) hoN

end Go.Proofs.Ytopefchiadmpaaa.Dag
