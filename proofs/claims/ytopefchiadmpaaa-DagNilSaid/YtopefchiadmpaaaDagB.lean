/-
  Contracts: Free, Parents, New, below.
-/
import Derived.Test.YtopefchiadmpaaaDagM
import Derived.Test.YtopefchiadmpaaaDagS
namespace Go.Proofs.Ytopefchiadmpaaa.Dag
open Go.Proofs.Ytopefchiadmpaaa.V Go.Proofs.Ytopefchiadmpaaa.T
set_option linter.all false
set_option linter.unusedVariables false
set_option linter.unusedSimpArgs false
set_option linter.unnecessarySimpa false

theorem _root_.Go.Proofs.Ytopefchiadmpaaa.V.Ext.noTrans {a b c : World} (h : Ext No a b) (h' : Ext No b c) : Ext No a c := h.trans h' fun _ _ h => h
theorem _root_.Go.Proofs.Ytopefchiadmpaaa.V.Ext.noDrew {a b : World} (h : Ext No a b) : Ext No a b.drew := h.drew
theorem Rep.kept {w w' : World} {b : Nat} {g : G} {F : Nat → Prop} (h : Rep w b g F) (he : Ext No w w') : Rep w' b g F := h.ext he fun _ _ h => h

def isFree (g : G) (id : Int) : Bool := inR id && decide (g.st id = 1) && decide (g.pd id = 0)

theorem free_ok {w : World} {b : Nat} {g : G} {F : Nat → Prop} (h : Rep w b g F) (id : Int) :
    Ret PR 16 #[ptr b, .int .i64 id] w (fun r w' => r = .bool (isFree g id) ∧ Ext No w w') := by
  suffices hs : ∀ R : Kv, (∀ w', Ext No w w' → R (.bool (isFree g id)) w') → f16 (ptr b) (.int .i64 id) w R from f16_ret (hs _ fun w' he => ⟨rfl, he⟩)
  intro R hR
  unfold f16
  refine (at_ok h id).mono ?_
  rintro _ w1 ⟨rfl, he⟩
  have hr := h.kept he
  obtain ⟨pv, cv, hv, hF⟩ := hr
  have hR1 := hR w1 he
  by_cases hc : inR id = true ∧ g.st id ≠ 0
  · have hA : InA id := by have := inR_iff.1 hc.1; exact ⟨by omega, by omega⟩
    have hin := hc.1
    rw [if_pos hc]
    simp only [vs, Nat.add_zero, l1_eq (hv.c0 id hA), l1_eq (hv.c3 id hA)]
    by_cases h1 : g.st id = 1
    · have e1 : (((g.st id : Nat) : Int) == 1) = true := by simp [h1]
      simp only [e1, vs]
      have e2 : isFree g id = (g.pd id == 0) := by
        simp [isFree, h1, hin]
        rfl
      rw [e2] at hR1; exact hR1
    · have e1 : (((g.st id : Nat) : Int) == 1) = false := by
        rw [beq_eq_false_iff_ne]; omega
      simp only [e1, vs]
      have e2 : isFree g id = false := by simp [isFree, h1]
      rw [e2] at hR1; exact hR1
  · rw [if_neg hc]
    simp only [vs]
    have e2 : isFree g id = false := by
      unfold isFree
      by_cases h1 : inR id = true
      · have h2 : g.st id = 0 := by
          by_cases h3 : g.st id = 0
          · exact h3
          · exact (hc ⟨h1, h3⟩).elim
        simp [h2]
      · simp [h1]
    rw [e2] at hR1; exact hR1

/-- Parents: a copy, or ErrNone. -/
theorem parents_ok {w : World} {b : Nat} {g : G} {F : Nat → Prop} (h : Rep w b g F) (id : Int) (hb : InA id → g.st id ≠ 0 → (g.par id).length ≤ 100) :
    Ret PR 13 #[ptr b, .int .i64 id] w (fun r w' => Ext No w w' ∧ ((inR id = true ∧ g.st id ≠ 0 ∧ ∃ v, r = .tuple #[v, .int .i64 0] ∧ Own w' 2 1 v (g.par id).length (enc (g.par id)) ∧ ∀ k, inB v k → w.heap.size ≤ k) ∨
      (¬ (inR id = true ∧ g.st id ≠ 0) ∧ r = .tuple #[.slice none 0 0, .int .i64 3]))) := by
  refine f13_ret ?_
  unfold f13
  refine (at_ok h id).mono ?_
  rintro _ w1 ⟨rfl, he⟩
  have hr := h.kept he
  obtain ⟨pv, cv, hv, hF⟩ := hr
  by_cases hc : inR id = true ∧ g.st id ≠ 0
  · have hA : InA id := by have := inR_iff.1 hc.1; exact ⟨by omega, by omega⟩
    rw [if_pos hc]
    simp only [vs, l1_eq (hv.c1 id hA)]
    have hp := hb hA hc.2
    refine (Clone_ok ((hv.par id hA).sl (by omega)) (by omega)).mono ?_
    rintro v w2 ⟨ho, he2, hk⟩
    exact ⟨he.noTrans he2, .inl ⟨hc.1, hc.2, v, rfl, ho, fun k hk' => by have := hk k hk'; have := he.size; omega⟩⟩
  · rw [if_neg hc]
    simp only [vs]
    exact ⟨he, .inr ⟨hc, trivial⟩⟩

/-- s[:m] -/
theorem _root_.Go.Proofs.Ytopefchiadmpaaa.V.Own.cut {w : World} {T sz : Nat} {v : Value} {n : Nat} {xs : List Value} (h : Own w T sz v n xs) {k : IntKind} {m : Nat} (hm : m ≤ n) :
    ∃ v', cutO sz v none (some (.int k m)) = some v' ∧ Own w T sz v' m (xs.take (m * sz)) ∧ v'.ownBlock = v.ownBlock := by
  obtain ⟨h1, h2⟩ := h
  rcases h2 with ⟨rfl, rfl⟩ | ⟨g, cap, cur, rfl, h0, hg, hc, hcm, hcs, ht⟩
  · obtain rfl : m = 0 := by omega
    refine ⟨.slice none 0 0, by simp [cutO, loO, hiO], ⟨by simp, .inl ⟨rfl, rfl⟩⟩, rfl⟩
  · refine ⟨.slice (some ⟨g, 0, none⟩) m cap, ?_, ⟨?_, .inr ⟨g, cap, cur, rfl, h0, hg, by omega, hcm, hcs, ?_⟩⟩, rfl⟩
    · have : ¬ ((cap : Int) < m) := by omega
      simp [cutO, loO, hiO, Addr.add, show (m : Int) ≤ cap by omega]
    · rw [List.length_take, h1]; exact Nat.min_eq_left (Nat.mul_le_mul_right _ hm)
    · rw [← ht, List.take_take, Nat.min_eq_left (Nat.mul_le_mul_right _ hm)]

/-- the marks of what has been seen -/
def Seen (w : World) (s : Nat) (out : List Int) : Prop := s < w.heap.size ∧ (∀ j, w.frozen? ⟨s, j, none⟩ = false) ∧ ∀ j : Nat, j ≤ 100 → w.cell? ⟨s, j, none⟩ = some (.bool (decide ((j : Int) ∈ out)))
theorem Seen.ext {S : Nat → Prop} {w w' : World} {s : Nat} {out : List Int} (h : Seen w s out) (he : Ext S w w') (hn : ¬ S s) : Seen w' s out :=
  ⟨Nat.lt_of_lt_of_le h.1 he.size, fun j => by rw [World.frozen?_of_block (w := w) (w' := w') (he.block s h.1 hn)]; exact h.2.1 j, fun j hj => he.cell (h.2.2 j hj) hn⟩
theorem Seen.mark {w : World} {s : Nat} {out : List Int} (h : Seen w s out) {x : Nat} (hx : x ≤ 100) : Seen (w.setCell ⟨s, x, none⟩ (.bool true)) s (out ++ [(x : Int)]) := by
  refine ⟨by simpa using h.1, fun j => by simpa using h.2.1 j, fun j hj => ?_⟩
  rw [cell_set (h.2.2 x hx) (h.2.2 j hj)]
  by_cases e : j = x
  · subst e; simp
  · rw [if_neg e]
    have : ((j : Int) ∈ out ++ [(x : Int)]) ↔ (j : Int) ∈ out := by
      simp only [List.mem_append, List.mem_singleton]
      exact ⟨fun h => h.resolve_right (by omega), .inl⟩
    simp [this]

theorem zero70 : (PR.info? 70).map (fun i => i.zero) = some (some (.agg (Array.replicate 101 (.bool false)))) := by kernel_rfl
theorem seen_new {w : World} {s T : Nat} (h : w.heap[s]? = some (.cells (Array.replicate 101 (.bool false)) T)) : Seen w s [] := by
  refine ⟨(Array.getElem?_eq_some_iff.1 h).1, fun j => frozen_of_heap h j, fun j hj => ?_⟩
  rw [cell_of_heap h, Array.getElem?_replicate, if_pos (by omega)]
  simp

set_option maxHeartbeats 1000000 in
theorem below_ok {w : World} {b : Nat} {g : G} {F : Nat → Prop} (h : Rep w b g F) (hg : ∀ i c, InA i → c ∈ g.ch i → 1 ≤ c ∧ c ≤ 100) (hl : ∀ i, InA i → (g.ch i).length ≤ 100) {id : Int} (hid : InA id) :
    Ret PR 27 #[ptr b, .int .i64 id] w (fun r w' => ∃ L, IsBelow g.ch id L ∧ L.length ≤ 10301 ∧ Own w' 2 1 r L.length (enc L) ∧ Ext No w w' ∧ ∀ k, inB r k → w.heap.size ≤ k) := by
  suffices hs : ∀ R : Kv, (∀ r w' L, IsBelow g.ch id L → L.length ≤ 10301 → Own w' 2 1 r L.length (enc L) → Ext No w w' → (∀ k, inB r k → w.heap.size ≤ k) → R r w') → f27 (ptr b) (.int .i64 id) w R from
    f27_ret (hs _ fun r w' L h1 h2 h3 h4 h5 => ⟨L, h1, h2, h3, h4, h5⟩)
  intro R hR
  unfold f27 ptr
  refine alloc_any zero70 fun wa he0 hsz0 hblk => ?_
  have hseen0 : Seen wa w.heap.size [] := seen_new hblk
  clear hblk
  have hra := h.kept he0
  obtain ⟨pv, cv, hv, hF⟩ := hra
  have hlt := h.lt h.own
  have ixa : ∀ x : Int, InA x → ixaO 101 4 (.pointer (some ⟨b, 0 + 0, none⟩)) (.int .i64 x) = some (.pointer (some ⟨b, 4 * x.toNat, none⟩)) := fun x hx => by
    have h1 := hx.1
    have h2 := hx.2
    simp only [ixaO]
    rw [if_pos ⟨h1, by omega⟩, add_lit]
    congr 4; omega
  have ixs : ∀ x : Int, InA x → ixaO 101 1 (.pointer (some ⟨w.heap.size, 0, none⟩)) (.int .i64 x) = some (.pointer (some ⟨w.heap.size, x.toNat, none⟩)) := fun x hx => by
    have h1 := hx.1
    have h2 := hx.2
    simp only [ixaO]
    rw [if_pos ⟨h1, by omega⟩, add_lit]
    congr 4; omega
  simp only [vs, ixa id hid, l1_eq (hv.c2 id hid)]
  have hlid := hl id hid
  refine (Clone_ok ((hv.ch id hid).sl (by omega)) (by omega)).mono ?_
  rintro t0 w1 ⟨ho1, he1, hk1⟩
  have hN1 : w.heap.size < w1.heap.size := by have := he1.size; omega
  -- the loop
  refine loopG (Γ := List Int × List Int) (fun γ x w' => Wk g.ch id γ.1 γ.2 ∧ Own w' 2 1 x.1 γ.1.length (enc γ.1) ∧ Own w' 2 1 x.2 γ.2.length (enc γ.2) ∧ Ext No w w' ∧ Seen w' w.heap.size γ.2 ∧
      (∀ k, inB x.1 k → w.heap.size < k) ∧ (∀ k, inB x.2 k → w.heap.size < k) ∧ (∀ k, inB x.1 k → ¬ inB x.2 k) ∧ γ.1.length + Mu g.ch γ.2 (List.range 101) ≤ 10301 ∧ γ.2.length + Mu g.ch γ.2 (List.range 101) ≤ 10301)
    (fun γ => γ.1.length + Mu g.ch γ.2 (List.range 101)) (g.ch id, []) ?_ ?_
  · refine ⟨Wk.start _ _, ho1, Own.nil _ _ _, he0.noTrans he1, hseen0.ext he1 (fun h => h), fun k hk => by have := hk1 k hk; omega, fun k hk => by simp [inB, Value.ownBlock] at hk, fun k _ hk => by simp [inB, Value.ownBlock] at hk, ?_⟩
    have := Mu_bound g.ch [] 100 (List.range 101) (fun i hi => hl i ⟨by omega, by simp at hi; omega⟩)
    simp only [List.length_range] at this
    have := hl id hid
    simp only [List.length_nil]
    omega
  rintro ⟨todo, out⟩ ⟨xt, xo⟩ w' ⟨hW, hT, hO, hE, hS, hT1, hO1, hD, hM, hM2⟩ K hK _
  simp only at hW hT hO hE hS hT1 hO1 hD hM hM2 hK ⊢
  have hr' := h.kept hE
  have hst := hT.sl (by omega)
  simp only [hst.len, vs, ar]
  by_cases h0 : todo.length = 0
  · -- nothing is left
    have htd : todo = [] := List.eq_nil_of_length_eq_zero h0
    subst htd
    simp only [List.length_nil, Int.natCast_zero, gt_iff_lt, Int.lt_irrefl, decide_false, vs]
    refine (Sort_ok hO (by omega)).mono ?_
    rintro _ w2 ⟨rfl, hO2, hE2⟩
    refine hR xo w2 (sortI out) (isBelow_of hW) (by rw [sortI_len]; omega) (by rw [sortI_len]; exact hO2) (hE.trans hE2 fun k hlt' hk => ?_) fun k hk => by have := hO1 k hk; omega
    have := hO1 k hk; omega
  · -- one is taken
    obtain ⟨tl, x, htd⟩ : ∃ tl x, todo = tl ++ [x] := ⟨todo.dropLast, todo.getLast (fun e => h0 (by rw [e]; rfl)), (List.dropLast_concat_getLast _).symm⟩
    subst htd
    have hxd := hW.td x (by simp)
    have hxr : 1 ≤ x ∧ x ≤ 100 := by
      have : ∀ x, Desc g.ch id x → 1 ≤ x ∧ x ≤ 100 := fun x hd => by
        induction hd with
        | base hx => exact hg _ _ hid hx
        | step _ hx ih => exact hg _ _ ⟨by omega, by omega⟩ hx
      exact this x hxd
    have hxA : InA x := ⟨by omega, by omega⟩
    have hlen : (tl ++ [x]).length = tl.length + 1 := by simp
    simp only [hlen] at hM ⊢
    have hget : (enc (tl ++ [x]))[(((tl.length + 1 : Nat) : Int) - 1).toNat]? = some (.int .i64 x) := by
      rw [enc_get, show (((tl.length + 1 : Nat) : Int) - 1).toNat = tl.length by omega]; simp
    obtain ⟨vc, hcut, hOc, hBc⟩ := hT.cut (k := .i64) (m := tl.length) (by simp)
    have hOc' : Own w' 2 1 vc tl.length (enc tl) := by
      have : (enc (tl ++ [x])).take (tl.length * 1) = enc tl := by rw [Nat.mul_one, enc_app, List.take_left' (enc_len tl)]
      rw [this] at hOc; exact hOc
    have hgt : decide ((((tl.length + 1 : Nat) : Int)) > 0) = true := decide_eq_true (by omega)
    have hsx : w'.cell? ⟨w.heap.size, x.toNat, none⟩ = some (.bool (decide (x ∈ out))) := by
      have := hS.2.2 x.toNat (by omega)
      rwa [show ((x.toNat : Nat) : Int) = x by omega] at this
    have hsub : (((tl.length + 1 : Nat) : Int)) - 1 = (tl.length : Int) := by omega
    simp (disch := omega) only [hgt, hst.len, hlen, ar, vs]
    rw [hst.get (by omega) (by rw [hlen]; omega) hget]
    simp (disch := omega) only [hst.len, hlen, ar, vs, hsub, hcut, ixs x hxA, l1_eq hsx]
    by_cases hin : x ∈ out
    · -- it has been seen
      simp only [hin, decide_true, vs]
      have hk := hW.skip hin
      exact hK (tl, out) _ _ ⟨hk, hOc', hO, hE, hS, fun k h => hT1 k (by rw [inB, ← hBc]; exact h), hO1, fun k h => hD k (by rw [inB, ← hBc]; exact h), by simp only; omega, hM2⟩ (by simp only [hlen]; omega)
    · simp only [hin, decide_false, vs]
      refine st1_bool hsx (hS.2.1 _) ?_
      have hS1 := hS.mark (x := x.toNat) (by omega)
      rw [show ((x.toNat : Nat) : Int) = x by omega] at hS1
      have hX1 : Ext (fun k => k = w.heap.size) w' (w'.setCell ⟨w.heap.size, x.toNat, none⟩ (.bool true)) := set_ext _ _ _ _
      have hO2 := hO.ext hX1 (fun k hk e => by have := hO1 k hk; omega)
      have hOc2 := hOc'.ext hX1 (fun k hk e => by have := hT1 k (by rw [inB, ← hBc]; exact hk); omega)
      have hE1 : Ext No w (w'.setCell ⟨w.heap.size, x.toNat, none⟩ (.bool true)) := hE.trans hX1 fun k hk e => by omega
      generalize w'.setCell ⟨w.heap.size, x.toNat, none⟩ (.bool true) = wb at *
      refine bs1 E31 (by omega) rfl fun v1 wc hv1 hXc hvk hsc => ?_
      have hOlen : wb.heap.size ≤ wc.heap.size := hXc.size
      have hSlt := hS1.1
      refine append_own E31 (hO2.ext hXc fun _ _ h => h) (hv1.sl (by omega)) (fun u hu => by simp [Value.cells] at hu; subst hu; rfl) (by omega) (by omega) fun vo wd hvo hXd hod _ => ?_
      have hx0 : wc.heap.size ≤ wd.heap.size := hXd.size
      have hcc : (Value.int .i64 x).cells.toList = enc [x] := rfl
      rw [hcc, ← enc_app] at hvo
      -- what stands after the append to 'out'
      have hEc : Ext No w wc := hE1.noTrans hXc
      have hEd : Ext No w wd := hEc.trans hXd fun k hk hi => by have := hO1 k hi; omega
      have hSd : Seen wd w.heap.size (out ++ [x]) := (hS1.ext hXc (fun h => h)).ext hXd (fun hi => by have := hO1 _ hi; omega)
      have hOcd : Own wd 2 1 vc tl.length (enc tl) := (hOc2.ext hXc fun _ _ h => h).ext hXd (fun k hk hi => hD k (by rw [inB, ← hBc]; exact hk) hi)
      have hrd := h.kept hEd
      obtain ⟨pv', cv', hv', hF'⟩ := hrd
      simp only [vs, ixa x hxA, l1_eq (hv'.c2 x hxA)]
      have hlx := hl x hxA
      have hmu := Mu_step g.ch out x.toNat (by rw [show ((x.toNat : Nat) : Int) = x by omega]; exact hin) (List.range 101) (by simp; omega)
      rw [show ((x.toNat : Nat) : Int) = x by omega] at hmu
      refine append_own E31 hOcd ((hv'.ch x hxA).sl (by omega)) (enc_one _) (by omega) (by omega) fun vt we hvt hXe hte _ => ?_
      rw [← enc_app, ← List.length_append] at hvt
      have hEe : Ext No w we := hEd.trans hXe fun k hk hi => by have := hT1 k (by rw [inB, ← hBc]; exact hi); omega
      have hvoB : ∀ k, inB vo k → w.heap.size < k := fun k hk => by
        rcases hod k hk with h1 | h1
        · exact hO1 k h1
        · have := hXc.size; omega
      have hvcB : ∀ k, inB vc k → inB xt k := fun k hk => by rw [inB, ← hBc]; exact hk
      have hnot : ∀ k, inB vo k → ¬ inB vc k := fun k hk hk2 => by
        rcases hod k hk with h1 | h1
        · exact hD k (hvcB k hk2) h1
        · have := hOc2.lt hk2; omega
      refine hK (tl ++ g.ch x, out ++ [x]) (vt, vo) we ⟨hW.take hin, hvt, ?_, hEe, hSd.ext hXe (fun hi => by have := hT1 _ (hvcB _ hi); omega), fun k hk => ?_, hvoB, fun k hk hk2 => ?_, ?_, ?_⟩ ?_
      · have : (out ++ [x]).length = out.length + 1 := by simp
        rw [this]; exact hvo.ext hXe (fun k hk hi => hnot k hk hi)
      · rcases hte k hk with h1 | h1
        · exact hT1 k (hvcB k h1)
        · have := hSd.1; omega
      · rcases hte k hk with h1 | h1
        · exact hnot k hk2 h1
        · have := hvo.lt hk2; omega
      · simp only [List.length_append]; omega
      · simp only [List.length_append, List.length_singleton]; omega
      · simp only [List.length_append, List.length_singleton]; omega

end Go.Proofs.Ytopefchiadmpaaa.Dag
