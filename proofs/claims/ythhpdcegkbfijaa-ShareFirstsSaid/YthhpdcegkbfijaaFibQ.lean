/-
  The Fibonacci heap: contracts of under, ring.
-/
import Derived.Test.YthhpdcegkbfijaaFibN
namespace Go.Proofs.Ythhpdcegkbfijaa.Sh
open Go.Proofs.Ythhpdcegkbfijaa.V Go.Proofs.Ythhpdcegkbfijaa.T Go.Proofs.Ythhpdcegkbfijaa.Fib
set_option linter.all false
set_option maxRecDepth 100000
set_option linter.unusedVariables false
set_option linter.unusedSimpArgs false
set_option linter.unnecessarySimpa false

/-- y was put under x -/
structure UD (C C' : Nat → Core) (y x : Nat) : Prop where
  key : ∀ i, keyIs (C' i) (C i)
  dx : (C' x).deg = (C x).deg + 1
  ot : ∀ i, i ≠ x → (C' i).deg = (C i).deg ∧ (C' i).ch = (C i).ch
  lnk : ((C x).ch = -1 ∧ (C' x).ch = (y : Int) ∧ (C' y).rt = y ∧ ∀ i, i ≠ y → (C' i).rt = (C i).rt) ∨
    (∃ c : Nat, (C x).ch = (c : Int) ∧ (C' x).ch = (c : Int) ∧ (C' y).rt = (C c).rt ∧ (C' c).rt = y ∧ ∀ i, i ≠ y → i ≠ c → (C' i).rt = (C i).rt)

theorem under_ok {w : World} {b : Nat} {sv : Value} {least nn : Int} {len : Nat} {C : Nat → Core} (h : HM w b sv least nn len C) {y x : Nat} (hy : y < len) (hx : x < len) (hxy : x ≠ y)
    (hch : (C x).ch = -1 ∨ ∃ c : Nat, (C x).ch = (c : Int) ∧ c < len ∧ (C c).rt < len ∧ c ≠ y) (hdeg : (C x).deg < 1000000) :
    Ret PR 62 #[ptr b, .int .i64 (y : Int), .int .i64 (x : Int)] w (fun r w' => ∃ C', HM w' b sv least nn len C' ∧ UD C C' y x ∧ Ext (Ft b sv) w w') := by
  refine f62_ret ?_
  unfold f62 ptr
  obtain ⟨gy, ay⟩ := h.at hy
  obtain ⟨gx, ax⟩ := h.at hx
  simp only [vs, Nat.add_zero, h.ent, ay.ix]
  refine h.wPar hy ay.own _ fun w1 h1 he1 hs1 => ?_
  refine h1.wLf hy ay.own _ fun w2 h2 he2 hs2 => ?_
  refine h2.wRt hy ay.own _ fun w3 h3 he3 hs3 => ?_
  have hE3 : Ext (Ft b sv) w w3 := ((he1.tr he2).tr he3).row
  intro K hK
  have tail : ∀ wz C2, HM wz b sv least nn len C2 → (C2 x).deg = (C x).deg → Ext (Ft b sv) w wz → UD C (upN C2 x { C2 x with deg := (C x).deg + 1 }) y x → K () wz := fun wz C2 hz hd hE hu => by
    refine hK _ _ fun _ => ?_
    obtain ⟨g2, a2⟩ := hz.at hx
    simp only [a2.ix, vs, l1_eq a2.deg, hd]
    simp (disch := omega) only [ar, vs]
    rw [show (((C x).deg : Nat) : Int) + 1 = (((C x).deg + 1 : Nat) : Int) by omega]
    refine hz.wDeg hx a2.own _ fun w9 h9 he9 hs9 => ?_
    exact ⟨_, h9, hu, hE.tr he9.row⟩
  obtain ⟨gx3, ax3⟩ := h3.at hx
  have hC3 : upN C y { C y with rt := y } x = C x := upN_other _ _ hxy
  have hch3 := ax3.ch
  rw [hC3] at hch3
  simp only [ax3.ix, vs, l1_eq hch3, beq_dec]
  rcases hch with hm | ⟨c, hc, hcl, hcr, hcy⟩
  · rw [hm]
    simp only [decide_true, vs]
    refine h3.wCh hx ax3.own _ fun w4 h4 he4 hs4 => ?_
    refine tail w4 _ h4 (by rw [upN_same, hC3]) (hE3.tr he4.row) ⟨fun i => ?_, by rw [upN_same], fun i hi => ?_, .inl ⟨hm, by rw [upN_same, upN_same], ?_, fun i hi => ?_⟩⟩
    · by_cases e : i = x
      · subst e; rw [upN_same, upN_same, hC3]; exact ⟨rfl, rfl, rfl⟩
      · rw [upN_other _ _ e, upN_other _ _ e]
        by_cases e2 : i = y
        · subst e2; rw [upN_same]; exact ⟨rfl, rfl, rfl⟩
        · rw [upN_other _ _ e2]; exact ⟨rfl, rfl, rfl⟩
    · rw [upN_other _ _ hi, upN_other _ _ hi]
      by_cases e2 : i = y
      · subst e2; rw [upN_same]; exact ⟨rfl, rfl⟩
      · rw [upN_other _ _ e2]; exact ⟨rfl, rfl⟩
    · rw [upN_other _ _ fun e => hxy e.symm, upN_other _ _ fun e => hxy e.symm, upN_same]
    · by_cases e : i = x
      · subst e; rw [upN_same, upN_same, hC3]
      · rw [upN_other _ _ e, upN_other _ _ e, upN_other _ _ hi]
  · rw [hc, show decide ((c : Int) = -1) = false from decide_eq_false (by omega)]
    simp only [vs, ax3.ix, l1_eq hch3]
    try rw [hc]
    have hrc : (upN C y { C y with rt := y } c).rt = (C c).rt := by rw [upN_other _ _ hcy]
    change Ret PR 60 #[ptr b, .int .i64 (y : Int), .int .i64 (c : Int)] w3 _
    refine (join_ok h3 hy hcl (by rw [hrc]; exact hcr)).mono ?_
    rintro _ w4 ⟨h4, he4, hs4⟩
    -- what the join has left
    have j1 : ∀ i, i ≠ y → i ≠ c → joinC (upN C y { C y with rt := y }) y c i = C i := fun i h1 h2 => by
      unfold joinC setRt; rw [upN_other _ _ h2, upN_other _ _ h1, upN_other _ _ h1]
    have jc : joinC (upN C y { C y with rt := y }) y c c = { C c with rt := y } := by
      unfold joinC setRt; rw [upN_same, upN_other _ _ hcy, upN_other _ _ hcy]
    have jy : joinC (upN C y { C y with rt := y }) y c y = { C y with rt := (C c).rt } := by
      unfold joinC setRt; rw [upN_other _ _ fun e => hcy e.symm, upN_same, hrc, upN_same]
    have jd : ∀ i, ∃ r, joinC (upN C y { C y with rt := y }) y c i = { C i with rt := r } := fun i => by
      by_cases e1 : i = y
      · subst e1; exact ⟨_, jy⟩
      · by_cases e2 : i = c
        · subst e2; exact ⟨_, jc⟩
        · exact ⟨(C i).rt, j1 i e1 e2⟩
    generalize joinC (upN C y { C y with rt := y }) y c = C2 at *
    refine tail w4 _ h4 (by obtain ⟨r, hr⟩ := jd x; rw [hr]) (hE3.tr he4) ⟨fun i => ?_, by rw [upN_same], fun i hi => ?_, .inr ⟨c, hc, ?_, ?_, ?_, fun i h1 h2 => ?_⟩⟩
    · obtain ⟨r, hr⟩ := jd i
      by_cases e : i = x
      · subst e; rw [upN_same, hr]; exact ⟨rfl, rfl, rfl⟩
      · rw [upN_other _ _ e, hr]; exact ⟨rfl, rfl, rfl⟩
    · obtain ⟨r, hr⟩ := jd i
      rw [upN_other _ _ hi, hr]; exact ⟨rfl, rfl⟩
    · obtain ⟨r, hr⟩ := jd x
      rw [upN_same, hr]; exact hc
    · rw [upN_other _ _ fun e => hxy e.symm, jy]
    · by_cases e : c = x
      · subst e; rw [upN_same, jc]
      · rw [upN_other _ _ e, jc]
    · by_cases e : i = x
      · subst e; rw [upN_same, j1 i h1 h2]
      · rw [upN_other _ _ e, j1 i h1 h2]

/-! ### slices of int -/
theorem push84 {w : World} {v : Value} {l : List Int} {x : Int} (h : Own w 3 1 v l.length (enc l)) (hl : l.length ≤ 10000000) {K : Kv}
    (hK : ∀ v' w', Own w' 3 1 v' (l ++ [x]).length (enc (l ++ [x])) → Ext (inB v) w w' → (∀ m, inB v' m → inB v m ∨ w.heap.size ≤ m) → K v' w') :
    sv PR (Instr.buildSlice 84 1 #[(0, .int .i64 x)]) w fun v1 w1 => sv PR (Builtin.append_ #[84, 84] 84 #[v, v1]) w1 K := by
  refine bs1 E84 (by omega) rfl fun v1 wd hv1 hed hvk1 hszd => ?_
  refine append_own E84 (h.ext hed fun _ _ h => h) (hv1.sl (by omega)) (fun u hu => by simp [Value.cells] at hu; subst hu; rfl) (by omega) (by omega) fun vt we hvt hee hvtB _ => ?_
  have hcc : (Value.int .i64 x).cells.toList = enc [x] := rfl
  rw [hcc, ← enc_app] at hvt
  refine hK _ _ (by simpa using hvt) (hed.no.trans hee fun m hm hi => hi) fun m hm => ?_
  rcases hvtB m hm with h1 | h1
  · exact .inl h1
  · exact .inr (by omega)

set_option maxHeartbeats 1000000 in
theorem ring_ok {w : World} {b : Nat} {sv : Value} {least nn : Int} {len : Nat} {C : Nat → Core} (h : HM w b sv least nn len C) {x : Nat} {l : List Nat} (hR : Ring (fun i => (C i).rt) (x :: l)) (hn : (x :: l).Nodup) (hlt : ∀ y, y ∈ x :: l → y < len) :
    Ret PR 39 #[ptr b, .int .i64 (x : Int)] w (fun r w' => Own w' 3 1 r (x :: l).length (enc (natL (x :: l))) ∧ Ext No w w' ∧ ∀ k, inB r k → w.heap.size ≤ k) := by
  refine f39_ret ?_
  unfold f39 ptr
  have hfew := h.few
  have hll : (x :: l).length ≤ len := by
    have := List.Nodup.length_le_of_subset (l₁ := x :: l) (l₂ := List.range len) hn fun y hy => List.mem_range.2 (hlt y hy)
    simpa using this
  refine bs1 E84 (by omega) rfl fun v1 w1 hv1 he1 hvk1 hsz1 => ?_
  have h1 := h.no he1
  obtain ⟨gx, ax⟩ := h1.at (hlt x (by simp))
  simp only [vs, Nat.add_zero, h1.ent, ax.ix, l1_eq ax.rt]
  have nx : ∀ i (hi : i < (x :: l).length), some (C (x :: l)[i]).rt = (x :: l ++ [x])[i + 1]? := fun i hi => hR.next (rt := fun i => (C i).rt) hi
  refine loopG (Γ := Nat) (fun i s w' => i < (x :: l).length ∧ (∃ y : Nat, s.2 = .int .i64 (y : Int) ∧ (x :: l ++ [x])[i + 1]? = some y) ∧ Own w' 3 1 s.1 (natL ((x :: l).take (i + 1))).length (enc (natL ((x :: l).take (i + 1)))) ∧ Ext No w w' ∧ ∀ k, inB s.1 k → w.heap.size ≤ k) (fun i => (x :: l).length - i) 0
    ⟨by simp, ⟨_, rfl, (nx 0 (by simp)).symm⟩, hv1, he1, fun k hk => by have := hvk1 k hk; omega⟩ ?_
  rintro i ⟨s1, s2⟩ wa ⟨hi, ⟨y, hs2, hy⟩, hoa, hea, hna⟩ K hK _
  simp only at hs2 hoa hna
  subst hs2
  simp only [vs, beq_dec]
  by_cases hlast : i + 1 = (x :: l).length
  · have : y = x := by
      rw [hlast, List.getElem?_append_right (Nat.le_refl _)] at hy
      simpa using hy.symm
    subst this
    simp only [decide_true, vs]
    rw [List.take_of_length_le (by omega), natL_len] at hoa
    exact ⟨hoa, hea, hna⟩
  · have hlt' : i + 1 < (x :: l).length := by omega
    have hyl : (x :: l)[i + 1] = y := by
      rw [List.getElem?_append_left hlt', List.getElem?_eq_getElem hlt'] at hy
      exact Option.some.inj hy
    have hne : y ≠ x := fun e => by
      rw [List.nodup_cons] at hn
      rw [List.getElem_cons_succ] at hyl
      exact hn.1 (by rw [← e, ← hyl]; exact List.getElem_mem _)
    rw [show decide ((y : Int) = (x : Int)) = false from decide_eq_false (by omega)]
    simp only [vs]
    refine push84 hoa (by rw [natL_len]; simp; omega) fun v2 w2 ho2 he2 hv2 => ?_
    have hE2 : Ext No w w2 := hea.trans he2 fun k hk hin => by have := hna k hin; omega
    have h2 := h.no hE2
    have hym : y ∈ x :: l := hyl ▸ List.getElem_mem hlt'
    obtain ⟨gy, ay⟩ := h2.at (hlt y hym)
    simp only [vs, Nat.add_zero, h2.ent, ay.ix, l1_eq ay.rt]
    have hts : natL ((x :: l).take (i + 1)) ++ [(y : Int)] = natL ((x :: l).take (i + 1 + 1)) := by
      rw [List.take_succ_eq_append_getElem hlt', hyl]; simp [natL]
    rw [hts] at ho2
    refine hK (i + 1) _ _ ⟨hlt', ⟨_, rfl, ?_⟩, ho2, hE2, fun k hk => ?_⟩ (by omega)
    · rw [← nx (i + 1) hlt', hyl]
    · rcases hv2 k hk with h5 | h5
      · exact hna k h5
      · have := hea.size; omega

end Go.Proofs.Ythhpdcegkbfijaa.Sh
