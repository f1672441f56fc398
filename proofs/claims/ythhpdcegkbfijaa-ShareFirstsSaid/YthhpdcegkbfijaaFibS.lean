/-
  The Fibonacci heap: contract of gathered.
-/
import Derived.Test.YthhpdcegkbfijaaFibR
namespace Go.Proofs.Ythhpdcegkbfijaa.Sh
open Go.Proofs.Ythhpdcegkbfijaa.V Go.Proofs.Ythhpdcegkbfijaa.T Go.Proofs.Ythhpdcegkbfijaa.Fib
set_option linter.all false
set_option maxRecDepth 100000
set_option linter.unusedVariables false
set_option linter.unusedSimpArgs false
set_option linter.unnecessarySimpa false

theorem zero107 : (PR.info? 107).map (fun i => i.zero) = some (some (.agg (List.replicate 64 (Value.int .i64 0)).toArray)) := by kernel_rfl

/-- where nothing is held at the roots' list's start -/
theorem GI.start {ky C : Nat → Core} {al R : List Nat} {kids : Nat → List Nat} (hf : For (ltH ky) al R kids) (hl : LKS C al kids) (hk : ∀ z, z ∈ al → keyIs (C z) (ky z)) : GI ky C al R kids (List.replicate 64 0) R := by
  refine ⟨hf, hl, hk, by simp, fun z => ⟨.inl, ?_⟩, fun d v hv => ?_, hf.rN⟩
  · rintro (h | ⟨d, hd⟩)
    · exact h
    · rw [List.getElem?_replicate] at hd
      split at hd
      · have := Option.some.inj hd; omega
      · cases hd
  · rw [List.getElem?_replicate] at hv
    split at hv
    · exact .inl (Option.some.inj hv).symm
    · cases hv

set_option maxHeartbeats 2000000 in
theorem gath_ok {w : World} {b : Nat} {sv : Value} {least nn : Int} {len : Nat} {C ky : Nat → Core} {al R : List Nat} {kids : Nat → List Nat} (h : HM w b sv least nn len C) (hk : KOk ky) (hf : For (ltH ky) al R kids) (hl : LKS C al kids) (hkey : ∀ z, z ∈ al → keyIs (C z) (ky z))
    (hal : ∀ z, z ∈ al → z < len) (hn : al.length ≤ 1048576) {vr : Value} (hr : Sl w 1 vr (natL R).length (enc (natL R))) (hvr : ∀ k, inB vr k → ¬ Ft b sv k) :
    Ret PR 40 #[ptr b, vr] w (fun r w' => ∃ C' least' R' kids', HM w' b sv least' nn len C' ∧ RR ky C' least' R' ∧ For (ltH ky) al R' kids' ∧ LKS C' al kids' ∧ (∀ z, z ∈ al → keyIs (C' z) (ky z)) ∧ Ext (Ft b sv) w w') := by
  suffices hs : ∀ Q : Kv, (∀ w' C' least' R' kids', HM w' b sv least' nn len C' → RR ky C' least' R' → For (ltH ky) al R' kids' → LKS C' al kids' → (∀ z, z ∈ al → keyIs (C' z) (ky z)) → Ext (Ft b sv) w w' → Q (.tuple #[]) w') → f40 (ptr b) vr w Q from
    f40_ret (hs _ fun w' C' l' R' k' h1 h2 h3 h4 h5 h6 => ⟨C', l', R', k', h1, h2, h3, h4, h5, h6⟩)
  intro Q hQ
  unfold f40 ptr
  refine var_z zero107 fun w1 he1 hsz1 hbb => ?_
  have hbb : Bk w1 w.heap.size (enc (List.replicate 64 0)) 107 := by
    have : (enc (List.replicate 64 0)) = List.replicate 64 (Value.int .i64 0) := by simp [enc]
    rw [this]; exact hbb
  have hfew := h.few
  have hblt := h.lt
  have hslt : ∀ k, inB sv k → k < w.heap.size := fun k hk => h.lt' hk
  have nbb : ¬ Ft b sv w.heap.size := fun hft => by
    rcases hft with e | e
    · omega
    · have := hslt _ e; omega
  have nbb1 : ¬ inB sv w.heap.size := fun e => by have := hslt _ e; omega
  have hRl : R.length ≤ 1048576 := by
    have := List.Nodup.length_le_of_subset hf.rN hf.rA
    omega
  simp only [vs, hr.len, natL_len]
  -- one store into the table of roots
  have Ftw : ∀ {wa wb : World}, Ext (Ft b sv) w wa → Ext (fun k => k = w.heap.size) wa wb → Ext (Ft b sv) w wb := fun h1 h2 => h1.trans h2 fun k hk e => by omega
  refine for1 (n := R.length) (by omega) (fun k w' => ∃ C' R' kids' s, HM w' b sv least nn len C' ∧ GI ky C' al R' kids' s (R.drop k) ∧ Bk w' w.heap.size (enc s) 107 ∧ Ext (Ft b sv) w w')
    ⟨C, R, kids, _, h.no he1, by rw [List.drop_zero]; exact GI.start hf hl hkey, hbb, he1.no⟩ ?_ ?_
  · rintro k wa hkR ⟨C1, R1, kids1, s1, hm, hg, hba, hea⟩ K hK
    have hra := hr.ext hea fun k hk => hvr k hk
    have hgk : (enc (natL R))[((k : Int)).toNat]? = some (.int .i64 (R[k] : Int)) := by simp [enc_get, natL, hkR]
    rw [hra.get (by omega) (by rw [natL_len]; omega) hgk]
    rw [List.drop_eq_getElem_cons hkR] at hg
    have hxA := hg.f.rA _ hg.cur
    have hxl := hal _ hxA
    have hmd := hm.no (Ext.refl No wa).drew
    obtain ⟨gx, ax⟩ := hmd.at hxl
    simp only [vs, Nat.add_zero, hmd.ent, ax.ix]
    refine hmd.wPar hxl ax.own _ fun w2 h2 he2 hs2 => ?_
    refine h2.wMk hxl ax.own _ fun w3 h3 he3 hs3 => ?_
    have hE3 : Ext (Ft b sv) w w3 := (hea.drew.tr he2.row).tr he3.row
    have hb3 : Bk w3 w.heap.size (enc s1) 107 := ((hba.no (Ext.refl No wa).drew).ext he2 nbb1).ext he3 nbb1
    generalize hpend : R.drop (k + 1) = pend at *
    refine loopG (Γ := (Nat → Core) × List Nat × (Nat → List Nat) × List Int × Nat) (fun γ y w' => y = .int .i64 (γ.2.2.2.2 : Int) ∧ HM w' b sv least nn len γ.1 ∧ GI ky γ.1 al γ.2.1 γ.2.2.1 γ.2.2.2.1 (γ.2.2.2.2 :: pend) ∧ Bk w' w.heap.size (enc γ.2.2.2.1) 107 ∧ Ext (Ft b sv) w w')
      (fun γ => γ.2.1.length) (C1, R1, kids1, s1, R[k]) ⟨rfl, h3, hg, hb3, hE3⟩ ?_
    clear hm hg hba hea hmd ax h2 h3 he2 he3 hE3 hb3 hra hxA hxl hs2 hs3
    rintro ⟨C2, R2, kids2, s2, x⟩ _ wb ⟨rfl, hm, hg, hba, hea⟩ K2 hK2 _
    simp only at hm hg hba hea
    have hxA := hg.f.rA _ hg.cur
    have hxl := hal _ hxA
    have hdeg := hg.deg hn hg.cur
    obtain ⟨gx, ax⟩ := hm.at hxl
    have hdl : (C2 x).deg < s2.length := by rw [hg.sz]; omega
    have hcell : (enc s2)[(((C2 x).deg : Nat) : Int).toNat]? = some (.int .i64 (s2[(C2 x).deg])) := by simp [enc_get, hdl]
    have hsx : s2[(C2 x).deg]? = some (s2[(C2 x).deg]) := List.getElem?_eq_getElem hdl
    simp only [vs, Nat.add_zero, hm.ent, ax.ix, l1_eq ax.deg, ixa1 (show (0 : Int) ≤ ((C2 x).deg : Int) by omega) (show ((C2 x).deg : Int) < ((64 : Nat) : Int) by omega), hba.l1 hcell, beq_dec]
    have hiT : (((C2 x).deg : Nat) : Int).toNat = (C2 x).deg := by omega
    rcases hg.sl _ _ hsx with h0 | ⟨y, hy, hyR, hyp, hyd⟩
    · rw [h0] at hsx
      simp only [h0, decide_true, vs, Nat.add_zero, hm.ent, ax.ix, l1_eq ax.deg]
      simp (disch := omega) only [ar, vs, ixa1 (show (0 : Int) ≤ ((C2 x).deg : Int) by omega) (show ((C2 x).deg : Int) < ((64 : Nat) : Int) by omega)]
      refine hba.st1 (by rw [enc_len, hiT]; exact hdl) rfl rfl fun wc hbc hec hsc => ?_
      have hgp := hg.park (by omega) hsx
      rw [hiT, show (x : Int) + 1 = ((x + 1 : Nat) : Int) by omega] at hbc
      have hbc' : Bk wc w.heap.size (enc (s2.set (C2 x).deg ((x + 1 : Nat) : Int))) 107 := by
        have : enc (s2.set (C2 x).deg ((x + 1 : Nat) : Int)) = (enc s2).set (C2 x).deg (.int .i64 ((x + 1 : Nat) : Int)) := by simp [enc, List.map_set]
        rw [this]; exact hbc
      refine hK _ ⟨C2, R2, kids2, _, hm.ext hec (fun e => by omega) fun k hk e => by have := hslt k hk; omega, hgp, hbc', Ftw hea hec⟩
    · have hyA := hg.f.rA _ hyR
      have hyl := hal _ hyA
      have hxy : x ≠ y := fun e => hyp (by simp [e])
      rw [hy] at hsx
      rw [show decide (s2[(C2 x).deg] = 0) = false from decide_eq_false (by omega)]
      simp only [hy, vs, Nat.add_zero, hm.ent, ax.ix, l1_eq ax.deg, ixa1 (show (0 : Int) ≤ ((C2 x).deg : Int) by omega) (show ((C2 x).deg : Int) < ((64 : Nat) : Int) by omega), hba.l1 hcell]
      simp (disch := omega) only [ar, vs]
      rw [show ((y + 1 : Nat) : Int) - 1 = (y : Int) by omega]
      refine hba.st1 (by rw [enc_len, hiT]; exact hdl) rfl rfl fun wc hbc hec hsc => ?_
      rw [hiT] at hbc
      have hbc' : Bk wc w.heap.size (enc (s2.set (C2 x).deg 0)) 107 := by
        have : enc (s2.set (C2 x).deg 0) = (enc s2).set (C2 x).deg (.int .i64 0) := by simp [enc, List.map_set]
        rw [this]; exact hbc
      have hmc : HM wc b sv least nn len C2 := hm.ext hec (fun e => by omega) fun k hk e => by have := hslt k hk; omega
      have hec' := Ftw hea hec
      intro K3 hK3
      have link : ∀ a c wd, ((a = x ∧ c = y) ∨ (a = y ∧ c = x)) → ltH ky a c → Ext No wc wd → K3 (.int .i64 (a : Int), .int .i64 (c : Int)) wd := fun a c wd hac hlt hed => by
        refine hK3 _ _ fun _ => ?_
        have haR : a ∈ R2 := by rcases hac with ⟨e, _⟩ | ⟨e, _⟩ <;> (rw [e]; first | exact hg.cur | exact hyR)
        have hcR : c ∈ R2 := by rcases hac with ⟨_, e⟩ | ⟨_, e⟩ <;> (rw [e]; first | exact hyR | exact hg.cur)
        have hacn : a ≠ c := by rcases hac with ⟨e1, e2⟩ | ⟨e1, e2⟩ <;> omega
        have hmd := hmc.no hed
        have hdega := hg.deg hn haR
        change Ret PR 62 #[ptr b, .int .i64 (c : Int), .int .i64 (a : Int)] wd _
        refine (under_ok hmd (hal _ (hg.f.rA _ hcR)) (hal _ (hg.f.rA _ haR)) hacn (LKS.side hg.f hg.l hal haR hcR) (by omega)).mono ?_
        rintro _ we ⟨C3, hme, hu, hee⟩
        obtain ⟨hg3, hdec⟩ := hg.link hsx hac hlt hu
        exact hK2 (C3, R2.erase c, undK kids2 a c, s2.set (C2 x).deg 0, a) _ _ ⟨rfl, hme, hg3, (hbc'.no hed).ext hee nbb, (hec'.noTr hed).tr hee⟩ hdec
      change Ret PR 61 #[ptr b, .int .i64 (y : Int), .int .i64 (x : Int)] wc _
      refine (less_ok hmc hk hyl hxl (hg.key _ hyA) (hg.key _ hxA)).mono ?_
      rintro _ wd ⟨rfl, hed⟩
      by_cases hlt : ltH ky y x
      · simp only [hlt, decide_true, vs]
        exact link y x wd (.inr ⟨rfl, rfl⟩) hlt hed
      · simp only [hlt, decide_false, vs]
        exact link x y wd (.inl ⟨rfl, rfl⟩) ((ltH_tot ky hxy).resolve_right hlt) hed
  · rintro wa ⟨C1, R1, kids1, s1, hm, hg, hba, hea⟩
    rw [List.drop_length] at hg
    simp only [vs, Nat.zero_add]
    refine hm.setLst 0 fun w2 h2 he2 hs2 => ?_
    have hE2 := hea.tr he2.one
    have hb2 := hba.ext he2 (by omega)
    rw [hb2.all (n := 64) (by rw [enc_len]; exact hg.sz)]
    -- the roots that are found
    refine for1 (n := 64) (by omega) (fun k w' => ∃ C2 least2 ro, HM w' b sv least2 nn len C2 ∧ RR ky C2 least2 ro ∧ ro.Nodup ∧ (∀ y, y ∈ ro ↔ ∃ d, d < k ∧ s1[d]? = some ((y + 1 : Nat) : Int)) ∧ Lk C1 C2 (fun i => i ∈ R1) ∧ Ext (Ft b sv) w w')
      ⟨C1, 0, [], h2, .inl ⟨rfl, rfl⟩, List.nodup_nil, fun y => by simp, Lk.refl _ _, hE2⟩ ?_ ?_
    · rintro k wb hk64 ⟨C2, least2, ro, hm2, hR2, hnd, hmem, hlk, heb⟩ K hK K2 hK2
      have hkl : k < s1.length := by rw [hg.sz]; exact hk64
      have next : ∀ wc C3 least3 ro3, HM wc b sv least3 nn len C3 → RR ky C3 least3 ro3 → ro3.Nodup → (∀ y, y ∈ ro3 ↔ ∃ d, d < k + 1 ∧ s1[d]? = some ((y + 1 : Nat) : Int)) → Lk C1 C3 (fun i => i ∈ R1) → Ext (Ft b sv) w wc → K2 () wc := fun wc C3 least3 ro3 h1 h2 h3 h4 h5 h6 => by
        refine hK2 _ _ fun _ => ?_
        simp (disch := omega) only [ar, vs]
        exact hK _ ⟨C3, least3, ro3, h1, h2, h3, h4, h5, h6⟩
      refine idx_arr (n := 64) Try.underlying107 (by kernel_rfl) (by kernel_rfl) (v := .int .i64 s1[k]) (by omega) (by omega) (by simp [enc, hkl]) ?_
      have hsk : s1[k]? = some s1[k] := List.getElem?_eq_getElem hkl
      simp only [vs, beq_dec]
      rcases hg.sl _ _ hsk with h0 | ⟨y, hy, hyR, _, hyd⟩
      · simp only [h0, decide_true, vs]
        refine next _ _ _ _ hm2 hR2 hnd (fun y => ?_) hlk heb
        rw [hmem]
        constructor
        · rintro ⟨d, h1, h2⟩; exact ⟨d, by omega, h2⟩
        · rintro ⟨d, h1, h2⟩
          by_cases e : d = k
          · subst e; rw [h2, h0] at hsk; have := Option.some.inj hsk; omega
          · exact ⟨d, by omega, h2⟩
      · rw [hy] at hsk
        rw [hy, show decide (((y + 1 : Nat) : Int) = 0) = false from decide_eq_false (by omega)]
        have hyA := hg.f.rA _ hyR
        have hyl := hal _ hyA
        simp (disch := omega) only [ar, vs]
        rw [show ((y + 1 : Nat) : Int) - 1 = (y : Int) by omega]
        have hyr : y ∉ ro := fun hm => by
          obtain ⟨d, h1, h2⟩ := (hmem y).1 hm
          have := hg.one h2 hsk
          omega
        have hroR : ∀ z, z ∈ ro → z ∈ R1 := fun z hz => by
          obtain ⟨d, h1, h2⟩ := (hmem z).1 hz
          exact (hg.rin z).2 (.inr ⟨d, h2⟩)
        change Ret PR 37 #[ptr b, .int .i64 (y : Int)] wb _
        refine (root_ok hm2 hk hR2 hnd hyr hyl (fun z hz => hal _ (hg.f.rA _ (hroR z hz))) (fun z hz => ?_)).mono ?_
        · refine hlk.key (hg.key z ?_)
          rcases hz with rfl | hz
          · exact hyA
          · exact hg.f.rA _ (hroR z hz)
        rintro _ wc ⟨C3, least3, ro3, h1, h2, h3, h4, h5, h6⟩
        refine next _ _ _ _ h1 h2 h3 (fun z => ?_) (hlk.trans (h5.mono fun i hi => ?_) fun _ h => h) (heb.tr h6)
        · rw [h4, hmem]
          constructor
          · rintro (rfl | ⟨d, q1, q2⟩)
            · exact ⟨k, by omega, hsk⟩
            · exact ⟨d, by omega, q2⟩
          · rintro ⟨d, q1, q2⟩
            by_cases e : d = k
            · subst e
              rw [hsk] at q2
              have := Option.some.inj q2
              exact .inl (by omega)
            · exact .inr ⟨d, by omega, q2⟩
        · rcases hi with rfl | hi
          · exact hyR
          · exact hroR i hi
    · rintro wb ⟨C2, least2, ro, hm2, hR2, hnd, hmem, hlk, heb⟩
      have hsame : ∀ z, z ∈ ro ↔ z ∈ R1 := fun z => by
        rw [hmem, hg.rin]
        constructor
        · rintro ⟨d, _, h2⟩; exact .inr ⟨d, h2⟩
        · rintro (h1 | ⟨d, h2⟩)
          · cases h1
          · exact ⟨d, by have := (List.getElem?_eq_some_iff.1 h2).1; rw [hg.sz] at this; exact this, h2⟩
      exact hQ wb C2 least2 ro kids1 hm2 hR2 (hg.f.same hnd hsame) (LKS.lk hg.f hg.l hlk fun i hi => hi) (fun z hz => hlk.key (hg.key z hz)) heb

end Go.Proofs.Ythhpdcegkbfijaa.Sh
