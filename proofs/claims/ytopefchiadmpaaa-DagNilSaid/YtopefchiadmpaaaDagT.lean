/-
  DagFails: the plain law and the walk.
-/
import Derived.Test.YtopefchiadmpaaaDagR
namespace Go.Proofs.Ytopefchiadmpaaa.Dag
open Go.Proofs.Ytopefchiadmpaaa.V Go.Proofs.Ytopefchiadmpaaa.T
set_option linter.all false
set_option linter.unusedVariables false
set_option linter.unusedSimpArgs false
set_option linter.unnecessarySimpa false

theorem _root_.Go.Proofs.Ytopefchiadmpaaa.V.Sl.at1 {w : World} {v : Value} {l : List Int} {k : IntKind} (h : Sl w 1 v l.length (l.map (Value.int k))) {i : Nat} (hi : i < l.length) :
    ∃ p, ixsO 1 v (.int .i64 (i : Int)) = some p ∧ ∀ K, l1 p w K = K (.int k l[i]) := by
  obtain ⟨b, o, _, _, h1, h2⟩ := h.at (k := .i64) (i := i) (by omega) (by omega)
  have := h2 0 (.int k l[i]) (by omega) (by simp [hi])
  exact ⟨_, h1, l1_eq (by simpa using this)⟩

structure FG (g : G) (n : Nat) (x : Int) (L : List Int) : Prop where
  wf : WF g
  st : ∀ j : Int, 1 ≤ j → j ≤ n → g.st j ≠ 0
  x3 : g.st x = 3
  srt : L.Pairwise (· < ·)
  nx : x ∉ L
  rng : ∀ c, c ∈ L → 1 ≤ c ∧ c ≤ n
  under : ∀ i : Int, 1 ≤ i → i ≤ n → (i ∈ x :: L ↔ i = x ∨ ∃ p, p ∈ g.par i ∧ p ∈ x :: L)

theorem LG.fails {g g' : G} {n : Nat} {x e : Int} {L : List Int} (h : LG g n) (hn : n ≤ 100) (hx : 1 ≤ x ∧ x ≤ n) (hf : FailR g x g' L e) : e = 0 ∧ FG g' n x L := by
  have hwf' := h.wf.failR hf
  have hst : ∀ j : Int, 1 ≤ j → j ≤ n → g.st j = 1 := fun j h1 h2 => by rw [h.st j h1 (by omega), if_pos h2]
  have hA : InA x := ⟨by omega, by omega⟩
  cases hf with
  | none hno => exact absurd ⟨inR_iff.2 ⟨hx.1, by omega⟩, by rw [hst x hx.1 hx.2]; omega⟩ hno
  | state _ hno => exact absurd (hst x hx.1 hx.2) hno
  | ok _ B hB =>
    have hBr : ∀ c, c ∈ B → 1 ≤ c ∧ c ≤ n := fun c hc => by
      have hd := (hB.2 c).1 hc
      have hr := hd.inR h.wf hA
      have h0 := h.wf.below hA (by rw [hst x hx.1 hx.2]; omega) hd
      have hs := h.st c hr.1 hr.2
      by_cases hc : c ≤ n
      · exact ⟨hr.1, hc⟩
      · rw [if_neg hc] at hs; omega
    have hfil : (B.filter fun c => decide (g.st c = 1)) = B := List.filter_eq_self.2 fun c hc => by
      have := hBr c hc
      simp [hst c this.1 this.2]
    rw [hfil]
    have hxB : x ∉ B := fun hm => h.wf.acyc x ((hB.2 x).1 hm)
    refine ⟨rfl, ⟨hwf', fun j h1 h2 => ?_, ?_, hB.1, hxB, hBr, fun i h1 h2 => ?_⟩⟩
    · show (if j = x ∨ (j ∈ B ∧ g.st j = 1) then 3 else g.st j) ≠ 0
      split
      · omega
      · rw [hst j h1 h2]; omega
    · show (if x = x ∨ (x ∈ B ∧ g.st x = 1) then 3 else g.st x) = 3
      rw [if_pos (.inl rfl)]
    · have hiA : InA i := ⟨by omega, by omega⟩
      rw [List.mem_cons, hB.2]
      constructor
      · rintro (rfl | hd)
        · exact .inl rfl
        · right
          have hone : ∃ p, InA p ∧ i ∈ g.ch p ∧ p ∈ x :: B := by
            cases hd with
            | base hm => exact ⟨x, hA, hm, by simp⟩
            | step hy hm => exact ⟨_, by have := hy.inR h.wf hA; exact ⟨by omega, by omega⟩, hm, List.mem_cons_of_mem _ ((hB.2 _).2 hy)⟩
          obtain ⟨p, hpA, hm, hp⟩ := hone
          exact ⟨p, ((h.wf.link p i hpA hiA).1 hm).2, hp⟩
      · rintro (rfl | ⟨p, hp, hm⟩)
        · exact .inl rfl
        · right
          have hp' : p ∈ g.par i := hp
          have hpr := h.wf.parR i hiA (by rw [hst i h1 h2]; omega) p hp'
          have hch : i ∈ g.ch p := (h.wf.link p i ⟨by omega, by omega⟩ hiA).2 ⟨by rw [hst i h1 h2]; omega, hp'⟩
          rcases List.mem_cons.1 hm with rfl | hm
          · exact .base hch
          · exact .step ((hB.2 p).1 hm) hch

set_option maxHeartbeats 2000000 in
theorem fails_walk {w : World} {v : Value} {L : List (Value × List Int)} {q : Int} (hL : Lines w v L) (hq : 0 ≤ q ∧ q ≤ 255) : Ret PR 6 #[v, .int .u8 q] w (fun r w' => r = .bool true ∧ Ext No w w') := by
  refine f6_ret ?_
  unfold f6
  refine (awake_ok w).mono ?_
  rintro _ w1 ⟨rfl, he1⟩
  have aw : Ret PR 9 #[] w1 fun v17173 w17174 => v17173 = .bool true ∧ Ext No w w17174 := (awake_ok w1).mono fun r w' ⟨h1, h2⟩ => ⟨h1, he1.noTrans h2⟩
  simp only [vs, hL.1.len, ar]
  by_cases hn : L.length ≤ 100
  case neg =>
    rw [show decide ((L.length : Int) > 100) = true from decide_eq_true (by omega)]
    simp only [vs]
    exact aw
  rw [show decide ((L.length : Int) > 100) = false from decide_eq_false (by omega)]
  simp only [vs]
  by_cases hn0 : L.length = 0
  case pos =>
    rw [show ((L.length : Int) == 0) = true by simp [hn0]]
    simp only [vs]
    exact aw
  rw [show ((L.length : Int) == 0) = false by rw [beq_eq_false_iff_ne]; omega]
  simp only [vs]
  clear aw
  refine (new_ok w1).mono ?_
  rintro _ w2 ⟨b, rfl, hr2, he2, hb2⟩
  have hE2 := he1.noTrans he2
  have hs2 : w.heap.size ≤ b := Nat.le_trans he1.size hb2
  refine for1 (by omega) (fun i w' => ∃ g F, Rep w' b g F ∧ Ext No w w' ∧ (∀ m, F m → w.heap.size ≤ m) ∧ LG g i) ⟨G0, _, hr2, hE2, fun m hm => hm ▸ hs2, LG.zero⟩ ?_ ?_
  · rintro i wa hi ⟨g, F, hr, hE, hF, hLG⟩ K hK
    refine line_loop (hL.ext hE) hi (by omega) fun vl k wb hol heb hfl => ?_
    have hEb := hE.noTrans heb
    generalize hP : pl i L[i].2 = ps at *
    have hpl : ps.length ≤ 5 := by rw [← hP]; exact pl_len _ _
    have hpm : ∀ p, p ∈ ps → 1 ≤ p ∧ p ≤ i := fun p hp => pl_mem (by rw [hP]; exact hp)
    simp (disch := omega) only [ar, vs]
    refine (add_ok (hr.kept heb) hLG.wf.chR (fun j hj => hLG.wf.chLen hj) ((i : Int) + 1) (hol.sl (by omega)) (by omega)).mono ?_
    rintro _ wc ⟨g', ok, e, F', ha, rfl, hr', hec, hgr⟩
    obtain ⟨rfl, hok, hLG', hfree'⟩ := hLG.add (by omega) hpm ha
    refine hK _ ⟨g', F', hr', hEb.trans hec fun m hm hFm => by have := hF m hFm; omega, fun m hm => (hgr m hm).elim (hF m) fun h => by have := hEb.size; omega, hLG'⟩
  · rintro wS ⟨g, F, hr, hE, hF, hLG⟩
    have hq0 := Int.emod_nonneg q (b := (L.length : Int)) (by omega)
    have hq1 := Int.emod_lt_of_pos q (b := (L.length : Int)) (by omega)
    simp (disch := omega) only [cvi_fit, rem_pos, ar, vs]
    generalize q % (L.length : Int) = y at *
    obtain ⟨x, hx⟩ : ∃ x, x = 1 + y := ⟨_, rfl⟩
    rw [← hx]
    have hxr : 1 ≤ x ∧ x ≤ L.length := by omega
    refine (fail_ok hr hLG.wf.chR (fun j hj => by have := hLG.wf.chLen hj; omega) hLG.wf.acyc x).mono ?_
    rintro _ wb ⟨g', out, e, F', vo, hf, rfl, hr', heb, hgr, hoo, hon, hoF⟩
    obtain ⟨rfl, hFG⟩ := hLG.fails hn hxr hf
    have hEb : Ext No w wb := hE.trans heb fun m hm hFm => by have := hF m hFm; omega
    have hF' : ∀ m, F' m → w.heap.size ≤ m := fun m hm => (hgr m hm).elim (hF m) fun h => by have := hE.size; omega
    have hol : out.length ≤ 100 := by
      have := len_of_sub (m := upto L.length) (nodup_of_sorted hFG.srt) fun c hc => upto_mem.2 (hFG.rng c hc)
      rw [upto_len] at this; omega
    simp only [vs, show (!((0 : Int) == 0)) = false from rfl]
    refine bs1 E31 (by omega) rfl fun vg wc hog hec hgk hszc => ?_
    have hso : Sl wb 1 vo out.length (enc out) := hoo.sl (by omega)
    have hcc : (Value.int .i64 x).cells.toList = enc [x] := rfl
    rw [hcc] at hog
    have hEc := hEb.noTrans hec
    simp only [hso.len, vs]
    refine for2 (by omega) (fun k v2 w2 => Ext No wb w2 ∧ Own w2 2 1 v2 (x :: out.take k).length (enc (x :: out.take k)) ∧ ∀ m, inB v2 m → wb.heap.size ≤ m) ⟨hec, by simpa using hog, fun m hm => by have := hgk m hm; omega⟩ ?_ ?_
    · rintro k v2 wd hk ⟨hed, hod, hvd⟩ K3 hK3
      have hsd : Sl wd.drew 1 vo out.length (out.map (Value.int .i64)) := (hso.ext hed fun _ _ h => h).ext (S := No) (Ext.refl _ _).drew fun _ _ h => h
      obtain ⟨p1, hp1, hl1⟩ := hsd.at1 hk
      have hne : (out[k] == x) = false := by
        have : out[k] ≠ x := fun e => hFG.nx (e ▸ List.getElem_mem hk)
        simpa using this
      have hed' : Ext No wb wd.drew := hed.drew
      have tail : sv PR (Instr.buildSlice 31 1 #[(0, .int .i64 out[k])]) wd.drew (fun v22460 w22461 =>
                sv PR (Builtin.append_ #[31, 31] 31 #[v2, v22460]) w22461 fun v22462 w22463 =>
                K3 (v22462, .int .i64 ((k : Int) + 1)) w22463) := by
        have htl : (x :: out.take k).length ≤ 101 := by simp; omega
        refine push_ok (hod.ext (S := No) (Ext.refl _ _).drew fun _ _ h => h) (by omega) fun v4 w4 hod4 hed4 hvd4 => ?_
        have hts : x :: out.take (k + 1) = (x :: out.take k) ++ [out[k]] := by rw [List.take_succ_eq_append_getElem hk]; rfl
        refine hK3 _ _ ⟨hed'.trans hed4 fun m hm hv => by have := hvd m hv; omega, by rw [hts]; exact hod4, fun m hm => ?_⟩
        rcases hvd4 m hm with h5 | h5
        · exact hvd m h5
        · have h6 := hed'.size; omega
      by_cases hk0 : k = 0
      · subst hk0
        simp only [ar]
        rw [show decide (((0 : Nat) : Int) > 0) = false from rfl]
        simp only [vs, hp1, hl1, hne, ar]
        simp (disch := omega) only [vs, ar]
        exact tail
      · obtain ⟨p0, hp0, hl0⟩ := hsd.at1 (i := k - 1) (by omega)
        have hlt := (List.pairwise_iff_getElem.1 hFG.srt) (k - 1) k (by omega) hk (by omega)
        simp only [ar]
        rw [show decide ((k : Int) > 0) = true from decide_eq_true (by omega)]
        have hk1 : ((k - 1 : Nat) : Int) = (k : Int) - 1 := by omega
        rw [hk1] at hp0
        simp (disch := omega) only [vs, ar, hp0, hp1, hl0, hl1]
        rw [show decide (out[k - 1] ≥ out[k]) = false from decide_eq_false (by omega)]
        simp only [vs, hp1, hl1, hne]
        exact tail
    · rintro vG wd ⟨hed, hod, hvd⟩
      rw [List.take_length] at hod
      have hsG : Sl wd 1 vG (x :: out).length (enc (x :: out)) := hod.sl (by simp; omega)
      have hrd : Rep wd b g' F' := hr'.kept hed
      have hEd := hEb.noTrans hed
      refine loopG (Γ := Nat) (fun i y w' => y = .int .i64 i ∧ 1 ≤ i ∧ i ≤ L.length + 1 ∧ Ext No wd w') (fun i => L.length + 1 - i) 1 ⟨rfl, Nat.le_refl _, by omega, Ext.refl _ _⟩ ?_
      rintro i _ wa ⟨rfl, hi1, hi2, hea⟩ K hK _
      simp only [ar, vs]
      by_cases hi : i ≤ L.length
      case neg =>
        rw [show decide ((i : Int) ≤ L.length) = false from decide_eq_false (by omega)]
        simp only [vs]
        refine (fail_ok (hrd.kept hea) hFG.wf.chR (fun j hj => by have := hFG.wf.chLen hj; omega) hFG.wf.acyc x).mono ?_
        rintro _ we ⟨g2, out2, e2, F2, vo2, hf2, rfl, _, hee, _⟩
        have he10 : e2 = 10 := by
          have h3 := hFG.x3
          cases hf2 with
          | none hno => exact absurd ⟨inR_iff.2 ⟨hxr.1, by omega⟩, by omega⟩ hno
          | state _ _ => rfl
          | ok h1 _ _ => have := h1.2; omega
        subst he10
        simp only [vs]
        exact ⟨rfl, (hEd.noTrans hea).trans hee fun m hm hFm => by have := hF' m hFm; omega⟩
      rw [show decide ((i : Int) ≤ L.length) = true from decide_eq_true (by omega)]
      simp only [vs]
      have hiA : InA (i : Int) := ⟨by omega, by omega⟩
      refine (parents_ok (hrd.kept hea) (i : Int) (fun hA hs => hFG.wf.parLen hA hs)).mono ?_
      rintro _ we ⟨hee, hres⟩
      have hsti := hFG.st i (by omega) (by omega)
      rcases hres with ⟨_, _, vp, rfl, hop, hfp⟩ | ⟨hno, rfl⟩
      case inr => exact absurd ⟨inR_iff.2 ⟨by omega, by omega⟩, hsti⟩ hno
      have hparl := hFG.wf.parLen hiA hsti
      have hunder := hFG.under i (by omega) (by omega)
      generalize g'.par (i : Int) = P at *
      have hsP : Sl we 1 vp P.length (enc P) := hop.sl (by omega)
      have hsGe : Sl we 1 vG (x :: out).length (enc (x :: out)) := (hsG.ext hea fun _ _ h => h).ext hee fun _ _ h => h
      simp only [vs, hsP.len, beq_dec]
      refine for2 (by omega) (fun k vk w' => w' = we ∧ vk = .bool (decide ((i : Int) = x) || (P.take k).any fun p => decide (p ∈ x :: out))) ⟨rfl, by simp⟩ ?_ ?_
      · rintro k vk w' hk ⟨rfl, rfl⟩ K3 hK3
        have hgk : (enc P)[((k : Int)).toNat]? = some (.int .i64 P[k]) := by simp [enc_get, hk]
        have hts : (P.take (k + 1)).any (fun p => decide (p ∈ x :: out)) = ((P.take k).any (fun p => decide (p ∈ x :: out)) || decide (P[k] ∈ x :: out)) := by
          rw [List.take_succ_eq_append_getElem hk, List.any_append]; simp
        rw [hts, ← Bool.or_assoc] at hK3
        generalize (decide ((i : Int) = x) || (P.take k).any fun p => decide (p ∈ x :: out)) = a at *
        cases a with
        | true =>
          simp only [vs]
          simp (disch := omega) only [ar, vs]
          exact hK3 _ _ ⟨rfl, rfl⟩
        | false =>
          simp only [vs]
          rw [hsP.get (by omega) (by omega) hgk]
          refine (In_ok hsGe).mono ?_
          rintro _ _ ⟨rfl, rfl⟩
          simp (disch := omega) only [ar, vs]
          exact hK3 _ _ ⟨rfl, by simp⟩
      · rintro vk w' ⟨rfl, rfl⟩
        rw [List.take_length]
        simp only
        refine (In_ok hsGe).mono ?_
        rintro _ _ ⟨rfl, rfl⟩
        have heq : (decide ((i : Int) = x) || P.any fun p => decide (p ∈ x :: out)) = decide ((i : Int) ∈ x :: out) := by
          apply Bool.eq_iff_iff.2
          rw [Bool.or_eq_true, List.any_eq_true, decide_eq_true_eq, decide_eq_true_eq, hunder]
          simp only [decide_eq_true_eq]
        rw [heq]
        simp only [vs, beq_self_eq_true]
        simp (disch := omega) only [ar, vs]
        exact hK (i + 1) _ _ ⟨by simp, by omega, by omega, hea.noTrans hee⟩ (by omega)

section
variable {H : Type} {en : TypeId × Value → H} {w : World} {base : Nat} {spare : Nat → Bool} {held : Bool}
theorem dagFails_said {v : Value} {q : Int} (h : Reads en Try.prog w base spare held 37 [v]) (hq : (Lit.int .u8 q).wf = true) : Ret PR 6 #[v, .int .u8 q] w (fun r w' => r = .bool true ∧ Ext No w w') := by
  obtain ⟨L, hL⟩ := lines_of h
  exact fails_walk hL (by simpa [Lit.wf, IntKind.min, IntKind.max, IntKind.bits, IntKind.signed] using hq)
end

end Go.Proofs.Ytopefchiadmpaaa.Dag
