/-
  Contracts: Done, Fail.
-/
import Derived.Test.YtopefchiadmpaaaDagD
namespace Go.Proofs.Ytopefchiadmpaaa.Dag
open Go.Proofs.Ytopefchiadmpaaa.V Go.Proofs.Ytopefchiadmpaaa.T
set_option linter.all false
set_option linter.unusedVariables false
set_option linter.unusedSimpArgs false
set_option linter.unnecessarySimpa false

def relG (g : G) (id : Int) (l : List Int) : G := { g with st := upI g.st id 2, pd := fun c => if c ∈ l then g.pd c - 1 else g.pd c }
def freed (g : G) (l : List Int) : List Int := l.filter fun c => decide (g.st c = 1) && decide (g.pd c - 1 = 0)

inductive DoneR (g : G) (id : Int) : G → List Int → Int → Prop
  | none (h : ¬ (inR id = true ∧ g.st id ≠ 0)) : DoneR g id g [] 3
  | state (h : inR id = true ∧ g.st id ≠ 0) (h1 : isFree g id = false) : DoneR g id g [] 10
  | ok (h1 : isFree g id = true) : DoneR g id (relG g id (g.ch id)) (sortI (freed g (g.ch id))) 0

theorem isFree_iff {g : G} {id : Int} : isFree g id = true ↔ (1 ≤ id ∧ id ≤ 100) ∧ g.st id = 1 ∧ g.pd id = 0 := by
  simp [isFree, inR_iff, and_assoc]

theorem filter_take_snoc {α : Type} {L : List α} {k : Nat} (hk : k < L.length) (p : α → Bool) : (L.take (k + 1)).filter p = (L.take k).filter p ++ (if p L[k] then [L[k]] else []) := by
  rw [List.take_succ_eq_append_getElem hk, List.filter_append]
  cases h : p L[k] <;> simp [h]

set_option maxHeartbeats 1000000 in
theorem done_ok {w : World} {b : Nat} {g : G} {F : Nat → Prop} (h : Rep w b g F) (hg : ∀ i c, InA i → c ∈ g.ch i → 1 ≤ c ∧ c ≤ 100) (hl : ∀ i, InA i → (g.ch i).length ≤ 100) (hpd : ∀ i c, InA i → c ∈ g.ch i → -1000000 ≤ g.pd c ∧ g.pd c ≤ 1000000)
    (hself : ∀ i, InA i → i ∉ g.ch i) (hnd : ∀ i, InA i → (g.ch i).Nodup) (id : Int) :
    Ret PR 15 #[ptr b, .int .i64 id] w (fun r w' => ∃ g' L e F' v, DoneR g id g' L e ∧ r = .tuple #[v, .int .i64 e] ∧ Rep w' b g' F' ∧ Ext F w w' ∧ Grew w F F' ∧ Own w' 2 1 v L.length (enc L) ∧ (∀ k, inB v k → w.heap.size ≤ k) ∧ (∀ k, inB v k → ¬ F' k)) := by
  suffices hs : ∀ R : Kv, (∀ w' g' L e F' v, DoneR g id g' L e → Rep w' b g' F' → Ext F w w' → Grew w F F' → Own w' 2 1 v L.length (enc L) → (∀ k, inB v k → w.heap.size ≤ k) → (∀ k, inB v k → ¬ F' k) → R (.tuple #[v, .int .i64 e]) w') → f15 (ptr b) (.int .i64 id) w R from
    f15_ret (hs _ fun w' g' L e F' v h1 h2 h3 h4 h5 h6 h7 => ⟨g', L, e, F', v, h1, rfl, h2, h3, h4, h5, h6, h7⟩)
  intro R hR
  have noop : ∀ w' (e : Int), Ext No w w' → DoneR g id g [] e → R (.tuple #[.slice none 0 0, .int .i64 e]) w' := fun w' e he hd =>
    hR w' g [] e F _ hd (h.kept he) he.no (fun k hk => .inl hk) (Own.nil _ _ _) (fun k hk => by simp [inB, Value.ownBlock] at hk) (fun k hk => by simp [inB, Value.ownBlock] at hk)
  unfold f15
  refine (at_ok h id).mono ?_
  rintro _ w1 ⟨rfl, he1⟩
  by_cases hc : inR id = true ∧ g.st id ≠ 0
  case neg =>
    rw [if_neg hc]
    simp only [vs]
    exact noop _ _ he1 (.none hc)
  rw [if_pos hc]
  have hA : InA id := by have := inR_iff.1 hc.1; exact ⟨by omega, by omega⟩
  simp only [vs]
  refine (free_ok (h.kept he1) id).mono ?_
  rintro _ w2 ⟨rfl, he2⟩
  have hE2 := he1.noTrans he2
  by_cases hf : isFree g id = true
  case neg =>
    have hf' : isFree g id = false := by simpa using hf
    simp only [hf', vs]
    exact noop _ _ hE2 (.state hc hf')
  obtain ⟨pv, cv, hv, hF⟩ := h.kept hE2
  simp only [hf, vs, Nat.add_zero]
  refine st1_int (hv.c0 id hA) (hv.fz _) ?_
  have hv3 := hv.setSt hA 2
  have x3 : Ext F w2 (w2.setCell ⟨b, 4 * id.toNat, none⟩ (.int .i64 ((2 : Nat) : Int))) := (set_ext w2 b _ _).mono fun k _ e => e ▸ h.own
  have hE3 : Ext F w _ := hE2.no.trans (S := F) x3 fun _ _ h => h
  have hsz2 : w.heap.size ≤ w2.heap.size := hE2.size
  change RepV (w2.setCell ⟨b, 4 * id.toNat, none⟩ (.int .i64 2)) b _ pv cv at hv3
  change Ext F w2 (w2.setCell ⟨b, 4 * id.toNat, none⟩ (.int .i64 2)) at x3
  change Ext F w (w2.setCell ⟨b, 4 * id.toNat, none⟩ (.int .i64 2)) at hE3
  generalize w2.setCell ⟨b, 4 * id.toNat, none⟩ (.int .i64 2) = w3 at *
  have ixa : ∀ x : Int, InA x → ixaO 101 4 (.pointer (some ⟨b, 0 + 0, none⟩)) (.int .i64 x) = some (.pointer (some ⟨b, 4 * x.toNat, none⟩)) := fun x hx => by
    have h1 := hx.1
    have h2 := hx.2
    simp only [ixaO]
    rw [if_pos ⟨h1, by omega⟩, add_lit]
    congr 4; omega
  have hli := hl id hA
  have hchs := (hv3.ch id hA).sl (by show (g.ch id).length ≤ _; omega)
  have hchs' : Sl w3 1 (cv id) (g.ch id).length (enc (g.ch id)) := hchs
  simp only [l1_eq (hv3.c2 id hA), hchs'.len, vs]
  generalize hC : g.ch id = C at *
  have hCn : ∀ x, x ∈ C → 1 ≤ x ∧ x ≤ 100 := fun x hx => hg id x hA (by rw [hC]; exact hx)
  refine for2 (by omega) (fun k v w' => RepV w' b (relG g id (C.take k)) pv cv ∧ Ext F w w' ∧ w3.heap.size ≤ w'.heap.size ∧ Own w' 2 1 v (freed g (C.take k)).length (enc (freed g (C.take k))) ∧ (∀ m, inB v m → w3.heap.size ≤ m)) ⟨?_, hE3, Nat.le_refl _, by simpa [freed, enc] using Own.nil _ _ _, fun m hm => by simp [inB, Value.ownBlock] at hm⟩ ?_ ?_
  · have : relG g id (C.take 0) = { g with st := upI g.st id 2 } := by simp [relG]
    rw [this]; exact hv3
  · rintro k vo wa hk ⟨hva, hEa, hsza, hoa, hoN⟩ K hK K2 hK2
    have hga : (enc C)[((k : Int)).toNat]? = some (.int .i64 C[k]) := by simp [enc_get, hk]
    have hmemk : C[k] ∈ C := List.getElem_mem _
    have hck := hCn _ hmemk
    have hkA : InA C[k] := ⟨by omega, hck.2⟩
    have hpk := hpd id C[k] hA (by rw [hC]; exact hmemk)
    have hknot : C[k] ∉ C.take k := fun hm => by
      obtain ⟨j, hj, he⟩ := List.mem_take_iff_getElem.1 hm
      have hn := hnd id hA
      rw [hC] at hn
      exact (List.pairwise_iff_getElem.1 hn) j k (by omega) hk (by omega) he
    have hne : C[k] ≠ id := fun e => hself id hA (by rw [hC]; exact e ▸ hmemk)
    have hcha : Sl wa 1 (cv id) C.length (enc C) := by
      have := (hva.ch id hA).sl (by show (g.ch id).length ≤ _; rw [hC]; omega)
      have h2 : Sl wa 1 (cv id) (g.ch id).length (enc (g.ch id)) := this
      rwa [hC] at h2
    rw [hcha.get (by omega) (by omega) hga]
    have hpdk : (relG g id (C.take k)).pd C[k] = g.pd C[k] := by simp [relG, hknot]
    have hdr : RepV wa.drew b (relG g id (C.take k)) pv cv := hva.ext (S := No) (Ext.refl _ _).drew fun _ _ h => h
    have hc3 := hdr.c3 _ hkA
    rw [hpdk] at hc3
    simp only [ptr, vs, ixa _ hkA, l1_eq hc3]
    simp (disch := omega) only [ar, vs, ixa _ hkA]
    refine st1_int hc3 (hdr.fz _) ?_
    have hvb := hdr.setPd hkA (g.pd C[k] - 1)
    have hreq : { relG g id (C.take k) with pd := upI (relG g id (C.take k)).pd C[k] (g.pd C[k] - 1) } = relG g id (C.take (k + 1)) := by
      have hpdx : upI (relG g id (C.take k)).pd C[k] (g.pd C[k] - 1) = (relG g id (C.take (k + 1))).pd := ?_
      · show G.mk _ _ _ (upI (relG g id (C.take k)).pd C[k] (g.pd C[k] - 1)) = _
        rw [hpdx]; rfl
      funext j
      show upI (fun c => if c ∈ C.take k then g.pd c - 1 else g.pd c) C[k] (g.pd C[k] - 1) j = (if j ∈ C.take (k + 1) then g.pd j - 1 else g.pd j)
      rw [List.take_succ_eq_append_getElem hk]
      by_cases e : j = C[k]
      · have hm : j ∈ C.take k ++ [C[k]] := List.mem_append_right _ (List.mem_singleton.2 e)
        rw [if_pos hm, e]; exact upI_same _ _ _
      · refine (upI_other _ _ e).trans ?_
        simp only [List.mem_append, List.mem_singleton, e, or_false]
    rw [hreq] at hvb
    have xb : Ext F wa.drew (wa.drew.setCell ⟨b, 4 * C[k].toNat + 3, none⟩ (.int .i64 (g.pd C[k] - 1))) := (set_ext _ b _ _).mono fun m _ e => e ▸ h.own
    have hEb := (hEa.trans (S' := No) (Ext.refl _ _).drew fun _ _ h => h.elim).trans xb fun _ _ h => h
    have hbN : b < w3.heap.size := hv3.lt
    have hob : Own _ 2 1 vo _ (enc (freed g (C.take k))) := (hoa.ext (S := No) (Ext.refl _ _).drew fun _ _ h => h).ext (set_ext wa.drew b (4 * C[k].toNat + 3) (.int .i64 (g.pd C[k] - 1))) fun m hm e => by have := hoN m hm; omega
    have hszb : w3.heap.size ≤ (wa.drew.setCell ⟨b, 4 * C[k].toNat + 3, none⟩ (.int .i64 (g.pd C[k] - 1))).heap.size := by simpa using hsza
    generalize wa.drew.setCell ⟨b, 4 * C[k].toNat + 3, none⟩ (.int .i64 (g.pd C[k] - 1)) = wb at *
    refine (free_ok (F := foot b pv cv) ⟨pv, cv, hvb, fun _ => Iff.rfl⟩ C[k]).mono ?_
    rintro _ wc ⟨rfl, hec⟩
    have hfr : isFree (relG g id (C.take (k + 1))) C[k] = (decide (g.st C[k] = 1) && decide (g.pd C[k] - 1 = 0)) := by
      have h1 : (relG g id (C.take (k + 1))).st C[k] = g.st C[k] := upI_other _ _ hne
      have h2 : (relG g id (C.take (k + 1))).pd C[k] = g.pd C[k] - 1 := by
        have hm : C[k] ∈ C.take (k + 1) := by rw [List.take_succ_eq_append_getElem hk]; exact List.mem_append_right _ (List.mem_singleton.2 rfl)
        show (if C[k] ∈ C.take (k + 1) then g.pd C[k] - 1 else g.pd C[k]) = _
        rw [if_pos hm]
      have h3 : inR C[k] = true := inR_iff.2 hck
      simp [isFree, h1, h2, h3]
    have hfs : freed g (C.take (k + 1)) = freed g (C.take k) ++ (if (decide (g.st C[k] = 1) && decide (g.pd C[k] - 1 = 0)) = true then [C[k]] else []) := filter_take_snoc hk _
    have hvc := hvb.ext hec fun _ _ h => h
    have hEc := hEb.trans hec fun _ _ h => h.elim
    have hoc := hob.ext hec fun _ _ h => h
    have hszc : w3.heap.size ≤ wc.heap.size := Nat.le_trans hszb hec.size
    have hfl : (freed g (C.take k)).length ≤ 100 := Nat.le_trans (List.length_filter_le _ _) (by simp; omega)
    cases hfv : (decide (g.st C[k] = 1) && decide (g.pd C[k] - 1 = 0)) with
    | false =>
      rw [hfr, hfv]
      simp only [vs]
      refine hK2 _ _ fun _ => ?_
      simp (disch := omega) only [ar, vs]
      refine hK _ _ ⟨hvc, hEc, hszc, ?_, hoN⟩
      rw [hfs, hfv]; simpa using hoc
    | true =>
      rw [hfr, hfv]
      simp only [vs]
      refine bs1 E31 (by omega) rfl fun v1 wd hv1 hed hvk1 hszd => ?_
      refine append_own E31 (hoc.ext hed fun _ _ h => h) (hv1.sl (by omega)) (fun u hu => by simp [Value.cells] at hu; subst hu; rfl) (by omega) (by omega) fun vt we hvt hee hvtB _ => ?_
      have hcc : (Value.int .i64 C[k]).cells.toList = enc [C[k]] := rfl
      rw [hcc, ← enc_app] at hvt
      refine hK2 _ _ fun _ => ?_
      simp (disch := omega) only [ar, vs]
      have hfootN : ∀ m, foot b pv cv m → m < w3.heap.size := fun m hm => hv3.foot_lt hm
      have hsd : wc.heap.size ≤ wd.heap.size := hed.size
      refine hK _ _ ⟨(hvc.ext hed fun _ _ h => h).ext hee fun m hm hi => ?_, ?_, ?_, ?_, fun m hm => ?_⟩
      · have := hoN m hi; have := hfootN m hm; omega
      · exact (hEc.trans hed fun _ _ h => h.elim).trans hee fun m hm hi => by have := hoN m hi; have : w.heap.size ≤ w3.heap.size := hE3.size; omega
      · have := hee.size; omega
      · rw [hfs, hfv]; simpa using hvt
      · rcases hvtB m hm with h1 | h1
        · exact hoN m h1
        · omega
  rintro vo wa ⟨hva, hEa, hsza, hoa, hoN⟩
  rw [List.take_length] at hva hoa
  have hfl : (freed g C).length ≤ 100 := Nat.le_trans (List.length_filter_le _ _) (by omega)
  refine (Sort_ok hoa (by omega)).mono ?_
  rintro _ wb ⟨rfl, hob, heb⟩
  have hfootN : ∀ m, foot b pv cv m → m < w3.heap.size := fun m hm => hv3.foot_lt hm
  have hw3 : w.heap.size ≤ w3.heap.size := hE3.size
  have := DoneR.ok (g := g) (id := id) hf
  rw [hC] at this
  refine hR wb _ _ 0 (foot b pv cv) vo this ⟨pv, cv, hva.ext heb fun m hm hi => by have := hoN m hi; have := hfootN m hm; omega, fun _ => Iff.rfl⟩ (hEa.trans heb fun m hm hi => by have := hoN m hi; omega)
    (fun m hm => .inl ((hF m).2 hm)) (by rw [sortI_len]; exact hob) (fun m hm => by have := hoN m hm; omega) (fun m hm hm2 => by have := hoN m hm; have := hfootN m hm2; omega)

end Go.Proofs.Ytopefchiadmpaaa.Dag
