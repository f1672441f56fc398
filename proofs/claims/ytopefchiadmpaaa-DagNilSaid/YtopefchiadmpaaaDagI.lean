/-
  Contract: Fail.
-/
import Derived.Test.YtopefchiadmpaaaDagH
namespace Go.Proofs.Ytopefchiadmpaaa.Dag
open Go.Proofs.Ytopefchiadmpaaa.V Go.Proofs.Ytopefchiadmpaaa.T
set_option linter.all false
set_option linter.unusedVariables false
set_option linter.unusedSimpArgs false
set_option linter.unnecessarySimpa false

theorem failG_nil (g : G) (id : Int) : failG g id [] = { g with st := upI g.st id 3 } := by
  unfold failG upI; simp

set_option maxHeartbeats 1000000 in
theorem fail_ok {w : World} {b : Nat} {g : G} {F : Nat → Prop} (h : Rep w b g F) (hg : ∀ i c, InA i → c ∈ g.ch i → 1 ≤ c ∧ c ≤ 100) (hl : ∀ i, InA i → (g.ch i).length ≤ 100)
    (hac : ∀ i, ¬ Desc g.ch i i) (id : Int) :
    Ret PR 17 #[ptr b, .int .i64 id] w (fun r w' => ∃ g' L e F' v, FailR g id g' L e ∧ r = .tuple #[v, .int .i64 e] ∧ Rep w' b g' F' ∧ Ext F w w' ∧ Grew w F F' ∧ Own w' 2 1 v L.length (enc L) ∧ (∀ k, inB v k → w.heap.size ≤ k) ∧ (∀ k, inB v k → ¬ F' k)) := by
  suffices hs : ∀ R : Kv, (∀ w' g' L e F' v, FailR g id g' L e → Rep w' b g' F' → Ext F w w' → Grew w F F' → Own w' 2 1 v L.length (enc L) → (∀ k, inB v k → w.heap.size ≤ k) → (∀ k, inB v k → ¬ F' k) → R (.tuple #[v, .int .i64 e]) w') → f17 (ptr b) (.int .i64 id) w R from
    f17_ret (hs _ fun w' g' L e F' v h1 h2 h3 h4 h5 h6 h7 => ⟨g', L, e, F', v, h1, rfl, h2, h3, h4, h5, h6, h7⟩)
  intro R hR
  have noop : ∀ w' (e : Int), Ext No w w' → FailR g id g [] e → R (.tuple #[.slice none 0 0, .int .i64 e]) w' := fun w' e he hd =>
    hR w' g [] e F _ hd (h.kept he) he.no (fun k hk => .inl hk) (Own.nil _ _ _) (fun k hk => by simp [inB, Value.ownBlock] at hk) (fun k hk => by simp [inB, Value.ownBlock] at hk)
  unfold f17
  refine (at_ok h id).mono ?_
  rintro _ w1 ⟨rfl, he1⟩
  by_cases hc : inR id = true ∧ g.st id ≠ 0
  case neg =>
    rw [if_neg hc]
    simp only [vs]
    exact noop _ _ he1 (.none hc)
  rw [if_pos hc]
  have hA : InA id := by have := inR_iff.1 hc.1; exact ⟨by omega, by omega⟩
  obtain ⟨pv, cv, hv, hF⟩ := h.kept he1
  simp only [vs, Nat.add_zero, l1_eq (hv.c0 id hA)]
  by_cases h1 : g.st id = 1
  case neg =>
    rw [show ((g.st id : Int) == 1) = false by simp; omega]
    simp only [vs]
    exact noop _ _ he1 (.state hc h1)
  rw [show ((g.st id : Int) == 1) = true by simp; omega]
  simp only [vs]
  refine st1_int (hv.c0 id hA) (hv.fz _) ?_
  have hv3 := hv.setSt hA 3
  have x3 : Ext F w1 (w1.setCell ⟨b, 4 * id.toNat, none⟩ (.int .i64 ((3 : Nat) : Int))) := (set_ext w1 b _ _).mono fun k _ e => e ▸ h.own
  have hE3 : Ext F w _ := he1.no.trans (S := F) x3 fun _ _ h => h
  have hsz2 : w.heap.size ≤ w1.heap.size := he1.size
  change RepV (w1.setCell ⟨b, 4 * id.toNat, none⟩ (.int .i64 3)) b _ pv cv at hv3
  change Ext F w1 (w1.setCell ⟨b, 4 * id.toNat, none⟩ (.int .i64 3)) at x3
  change Ext F w (w1.setCell ⟨b, 4 * id.toNat, none⟩ (.int .i64 3)) at hE3
  generalize w1.setCell ⟨b, 4 * id.toNat, none⟩ (.int .i64 3) = w3 at *
  have ixa : ∀ x : Int, InA x → ixaO 101 4 (.pointer (some ⟨b, 0 + 0, none⟩)) (.int .i64 x) = some (.pointer (some ⟨b, 4 * x.toNat, none⟩)) := fun x hx => by
    have h1 := hx.1
    have h2 := hx.2
    simp only [ixaO]
    rw [if_pos ⟨h1, by omega⟩, add_lit]
    congr 4; omega
  refine (below_ok (g := { g with st := upI g.st id 3 }) (F := foot b pv cv) ⟨pv, cv, hv3, fun _ => Iff.rfl⟩ hg hl hA).mono ?_
  rintro vB w4 ⟨B, hB, hBl, hoB, he4, hBk⟩
  change IsBelow g.ch id B at hB
  have hsB : Sl w4 1 vB B.length (enc B) := hoB.sl (by omega)
  have hE4 : Ext F w w4 := hE3.trans he4 fun _ _ h => h.elim
  have hv4 : RepV w4 b { g with st := upI g.st id 3 } pv cv := hv3.ext he4 fun _ _ h => h
  rw [hsB.len]
  simp only [vs]
  have hlt34 : w3.heap.size ≤ w4.heap.size := he4.size
  have hBn : ∀ x, x ∈ B → 1 ≤ x ∧ x ≤ 100 := fun x hx => by
    have hd := (hB.2 x).1 hx
    have : ∀ {a y}, Desc g.ch a y → InA a → 1 ≤ y ∧ y ≤ 100 := by
      intro a y hd
      induction hd with
      | base hm => exact fun ha => hg _ _ ha hm
      | step _ hm ih => exact fun ha => hg _ _ (by have := ih ha; exact ⟨by omega, by omega⟩) hm
    exact this hd hA
  have hbW : w3.heap.size ≥ w.heap.size := hE3.size
  have hbN : b < w3.heap.size := hv3.lt
  refine for2 (by omega) (fun k v w' => RepV w' b (failG g id (B.take k)) pv cv ∧ Ext F w w' ∧ Sl w' 1 vB B.length (enc B) ∧ w4.heap.size ≤ w'.heap.size ∧ Own w' 2 1 v ((B.take k).filter fun c => decide (g.st c = 1)).length (enc ((B.take k).filter fun c => decide (g.st c = 1))) ∧ (∀ m, inB v m → w4.heap.size ≤ m))
    ⟨?_, hE4, hsB, Nat.le_refl _, by simpa [enc] using Own.nil _ _ _, fun m hm => by simp [inB, Value.ownBlock] at hm⟩ ?_ ?_
  · rw [List.take_zero, failG_nil]; exact hv4
  · rintro k vo wa hk ⟨hva, hEa, hsa, hsza, hoa, hoN⟩ K hK K2 hK2
    have hga : (enc B)[((k : Int)).toNat]? = some (.int .i64 B[k]) := by simp [enc_get, hk]
    have hmemk : B[k] ∈ B := List.getElem_mem _
    have hck := hBn _ hmemk
    have hkA : InA B[k] := ⟨by omega, hck.2⟩
    have hknot : B[k] ∉ B.take k := fun hm => by
      obtain ⟨j, hj, he⟩ := List.mem_take_iff_getElem.1 hm
      have := (List.pairwise_iff_getElem.1 hB.1) j k (by omega) hk (by omega)
      omega
    have hne : B[k] ≠ id := fun e => hac id (by have := (hB.2 _).1 hmemk; rwa [e] at this)
    rw [hsa.get (by omega) (by omega) hga]
    have hstk : (failG g id (B.take k)).st B[k] = g.st B[k] := by
      show (if B[k] = id ∨ (B[k] ∈ B.take k ∧ g.st B[k] = 1) then 3 else g.st B[k]) = _
      rw [if_neg]
      rintro (e | ⟨e, _⟩)
      · exact hne e
      · exact hknot e
    have hc0 := hva.c0 _ hkA
    rw [hstk] at hc0
    simp only [ptr, vs, ixa _ hkA, Nat.add_zero, l1_eq hc0]
    have hfl : ((B.take k).filter fun c => decide (g.st c = 1)).length ≤ 10301 := Nat.le_trans (List.length_filter_le _ _) (by simp; omega)
    have hfs : (B.take (k + 1)).filter (fun c => decide (g.st c = 1)) = (B.take k).filter (fun c => decide (g.st c = 1)) ++ (if decide (g.st B[k] = 1) = true then [B[k]] else []) := filter_take_snoc hk _
    by_cases hfv : g.st B[k] = 1
    case neg =>
      rw [show ((g.st B[k] : Int) == 1) = false by simp; omega]
      simp only [vs]
      refine hK2 _ _ fun _ => ?_
      simp (disch := omega) only [ar, vs]
      have hreq : failG g id (B.take (k + 1)) = failG g id (B.take k) := by
        unfold failG
        congr 1
        funext j
        rw [List.take_succ_eq_append_getElem hk]
        by_cases e : j = B[k]
        · subst e
          rw [if_neg, if_neg]
          · rintro (e | ⟨e, e2⟩)
            · exact hne e
            · exact hfv e2
          · rintro (e | ⟨e, e2⟩)
            · exact hne e
            · exact hfv e2
        · simp only [List.mem_append, List.mem_singleton, e, or_false]
      refine hK _ _ ⟨by rw [hreq]; exact hva, hEa, hsa, hsza, ?_, hoN⟩
      rw [hfs]; simpa [hfv] using hoa
    rw [show ((g.st B[k] : Int) == 1) = true by simp; omega]
    simp only [vs]
    refine st1_int hc0 (hva.fz _) ?_
    have hvb := hva.setSt hkA 3
    have hreq : G.mk (upI (failG g id (B.take k)).st B[k] 3) g.par g.ch g.pd = failG g id (B.take (k + 1)) := by
      unfold failG
      congr 1
      funext j
      rw [List.take_succ_eq_append_getElem hk]
      by_cases e : j = B[k]
      · rw [e, upI_same, if_pos (.inr ⟨List.mem_append_right _ (List.mem_singleton.2 rfl), hfv⟩)]
      · rw [upI_other _ _ e]
        simp only [List.mem_append, List.mem_singleton, e, or_false]
    change RepV (wa.setCell ⟨b, 4 * B[k].toNat, none⟩ (.int .i64 3)) b (G.mk (upI (failG g id (B.take k)).st B[k] 3) g.par g.ch g.pd) pv cv at hvb
    rw [hreq] at hvb
    have xb : Ext F wa (wa.setCell ⟨b, 4 * B[k].toNat, none⟩ (.int .i64 3)) := (set_ext _ b _ _).mono fun m _ e => e ▸ h.own
    have hEb := hEa.trans xb fun _ _ h => h
    have hob : Own _ 2 1 vo _ (enc ((B.take k).filter fun c => decide (g.st c = 1))) := hoa.ext (set_ext wa b (4 * B[k].toNat) (.int .i64 3)) fun m hm e => by have := hoN m hm; omega
    have hsb := hsa.ext (set_ext wa b (4 * B[k].toNat) (.int .i64 3)) fun m hm e => by have := hBk m hm; omega
    have hszb : w4.heap.size ≤ (wa.setCell ⟨b, 4 * B[k].toNat, none⟩ (.int .i64 3)).heap.size := by simpa using hsza
    generalize wa.setCell ⟨b, 4 * B[k].toNat, none⟩ (.int .i64 3) = wb at *
    refine bs1 E31 (by omega) rfl fun v1 wd hv1 hed hvk1 hszd => ?_
    refine append_own E31 (hob.ext hed fun _ _ h => h) (hv1.sl (by omega)) (fun u hu => by simp [Value.cells] at hu; subst hu; rfl) (by omega) (by omega) fun vt we hvt hee hvtB _ => ?_
    have hcc : (Value.int .i64 B[k]).cells.toList = enc [B[k]] := rfl
    rw [hcc, ← enc_app] at hvt
    refine hK2 _ _ fun _ => ?_
    simp (disch := omega) only [ar, vs]
    have hfootN : ∀ m, foot b pv cv m → m < w3.heap.size := fun m hm => hv3.foot_lt hm
    have hsd : wb.heap.size ≤ wd.heap.size := hed.size
    have hBlt : ∀ m, inB vB m → m < w4.heap.size := fun m hm => hoB.lt hm
    refine hK _ _ ⟨(hvb.ext hed fun _ _ h => h).ext hee fun m hm hi => ?_, ?_, (hsb.ext hed fun _ _ h => h).ext hee fun m hm hi => ?_, ?_, ?_, fun m hm => ?_⟩
    · have := hoN m hi; have := hfootN m hm; omega
    · exact (hEb.trans hed fun _ _ h => h.elim).trans hee fun m hm hi => by have := hoN m hi; omega
    · have := hoN m hi; have := hBlt m hm; omega
    · have := hee.size; omega
    · rw [hfs]; simpa [hfv] using hvt
    · rcases hvtB m hm with h1 | h1
      · exact hoN m h1
      · omega
  rintro vo wa ⟨hva, hEa, hsa, hsza, hoa, hoN⟩
  rw [List.take_length] at hva hoa
  have hfootN : ∀ m, foot b pv cv m → m < w3.heap.size := fun m hm => hv3.foot_lt hm
  exact hR wa _ _ 0 (foot b pv cv) vo (.ok ⟨hc.1, h1⟩ B hB) ⟨pv, cv, hva, fun _ => Iff.rfl⟩ hEa (fun m hm => .inl ((hF m).2 hm)) hoa (fun m hm => by have := hoN m hm; omega) (fun m hm hm2 => by have := hoN m hm; have := hfootN m hm2; omega)

end Go.Proofs.Ytopefchiadmpaaa.Dag
