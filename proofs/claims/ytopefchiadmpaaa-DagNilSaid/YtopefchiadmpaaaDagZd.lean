/-
  DagPlays: one step, and the walk.
-/
import Derived.Test.YtopefchiadmpaaaDagZc
import Derived.Test.YtopefchiadmpaaaDagO
namespace Go.Proofs.Ytopefchiadmpaaa.Dag
open Go.Proofs.Ytopefchiadmpaaa.V Go.Proofs.Ytopefchiadmpaaa.T
set_option linter.all false
set_option linter.unusedVariables false
set_option linter.unusedSimpArgs false
set_option linter.unnecessarySimpa false

theorem Ref.lt {w : World} {c : Nat} {js : List JobD} {H : Nat → Prop} (h : Ref w c js H) {k : Nat} (hk : H k) : k < w.heap.size := by
  obtain ⟨lv, hr, hF⟩ := h; exact hr.foot_lt ((hF k).1 hk)
theorem Ref.ext {S H : Nat → Prop} {w w' : World} {c : Nat} {js : List JobD} (h : Ref w c js H) (he : Ext S w w') (hn : ∀ k, H k → ¬ S k) : Ref w' c js H := by
  obtain ⟨lv, hr, hF⟩ := h
  exact ⟨lv, hr.ext he fun k hk => hn k ((hF k).2 hk), hF⟩

/-- both graphs in memory, apart -/
structure Two (w0 : World) (b c : Nat) (w : World) (g : G) (js : List JobD) (F H : Nat → Prop) : Prop where
  rep : Rep w b g F
  ref : Ref w c js H
  dis : ∀ m, F m → ¬ H m
  ext : Ext No w0 w
  fF : ∀ m, F m → w0.heap.size ≤ m
  fH : ∀ m, H m → w0.heap.size ≤ m
theorem Two.no {w0 w w' : World} {b c : Nat} {g : G} {js : List JobD} {F H : Nat → Prop} (h : Two w0 b c w g js F H) (he : Ext No w w') : Two w0 b c w' g js F H :=
  ⟨h.rep.kept he, h.ref.ext he fun _ _ h => h, h.dis, h.ext.noTrans he, h.fF, h.fH⟩
theorem Two.g {w0 w w' : World} {b c : Nat} {g g' : G} {js : List JobD} {F F' H : Nat → Prop} (h : Two w0 b c w g js F H) (hr : Rep w' b g' F') (he : Ext F w w') (hg : Grew w F F') : Two w0 b c w' g' js F' H := by
  have hs := h.ext.size
  refine ⟨hr, h.ref.ext he fun m hm hf => h.dis m hf hm, fun m hm hh => ?_, h.ext.trans he fun m hm hf => by have := h.fF m hf; omega, fun m hm => ?_, h.fH⟩
  · rcases hg m hm with h1 | h1
    · exact h.dis m h1 hh
    · have := h.ref.lt hh; omega
  · rcases hg m hm with h1 | h1
    · exact h.fF m h1
    · omega
theorem Two.r {w0 w w' : World} {b c : Nat} {g : G} {js js' : List JobD} {F H H' : Nat → Prop} (h : Two w0 b c w g js F H) (hr : Ref w' c js' H') (he : Ext H w w') (hg : Grew w H H') : Two w0 b c w' g js' F H' := by
  have hs := h.ext.size
  refine ⟨h.rep.ext he fun m hm hh => h.dis m hm hh, hr, fun m hm hh => ?_, h.ext.trans he fun m hm hf => by have := h.fH m hf; omega, h.fF, fun m hm => ?_⟩
  · rcases hg m hh with h1 | h1
    · exact h.dis m hm h1
    · have := h.rep.lt hm; omega
  · rcases hg m hm with h1 | h1
    · exact h.fH m h1
    · omega

set_option maxHeartbeats 1000000 in
theorem step_ok {w0 w : World} {b c : Nat} {g : G} {js : List JobD} {F H : Nat → Prop} (h : Two w0 b c w g js F H) (hw : WF g) (hs : Sim g js) {k id : Int} {pv : Value} {ps : List Int} (hps : Sl w0 1 pv ps.length (enc ps)) (hl : ps.length ≤ 300) :
    Ret PR 18 #[ptr b, ptr c, .agg #[.int .i64 k, .int .i64 id, pv]] w (fun r w' => r = .bool true ∧ ∃ g' js' F' H', Two w0 b c w' g' js' F' H' ∧ WF g' ∧ Sim g' js') := by
  refine f18_ret ?_
  unfold f18
  refine bx_any fun w2 he2 hsz2 hblk => ?_
  have hT2 := h.no he2
  have hjl := hs.len
  have hb0 := h.ext.size
  have nF : ¬ F w.heap.size := fun hf => by have := h.rep.lt hf; omega
  have nH : ¬ H w.heap.size := fun hf => by have := h.ref.lt hf; omega
  have c0 : w2.cell? ⟨w.heap.size, 0, none⟩ = some (.int .i64 k) := by rw [cell_of_heap hblk]; rfl
  have c1 : w2.cell? ⟨w.heap.size, 1, none⟩ = some (.int .i64 id) := by rw [cell_of_heap hblk]; rfl
  have c2 : w2.cell? ⟨w.heap.size, 2, none⟩ = some pv := by rw [cell_of_heap hblk]; rfl
  have hps2 : Sl w2 1 pv ps.length (enc ps) := hps.ext hT2.ext fun _ _ h => h
  simp only [vs, Nat.zero_add, l1_eq c0, beq_dec]
  by_cases k1 : k = 1
  · rw [show decide (k = 1) = true from decide_eq_true k1]
    simp only [vs, l1_eq c1, l1_eq c2]
    refine (add_ok hT2.rep hw.chR (fun i hi => hw.chLen hi) id hps2 (by omega)).mono ?_
    rintro _ w3 ⟨g', ok, e, F', ha, rfl, hr3, he3, hg3⟩
    have hT3 := hT2.g hr3 he3 hg3
    have hps3 : Sl w3 1 pv ps.length (enc ps) := hps.ext hT3.ext fun _ _ h => h
    simp only [vs, l1_eq (he3.cell c1 nF), l1_eq (he3.cell c2 nF)]
    refine (addR_ok hT3.ref (hs.ok hw) (by omega) id hps3).mono ?_
    rintro _ w4 ⟨js', ok', e', H', hb, rfl, hr4, he4, hg4⟩
    obtain ⟨rfl, rfl, hs'⟩ := hs.add hw ha hb
    simp only [vs, beq_self_eq_true, decide_true]
    exact ⟨by trivial, _, _, _, _, hT3.r hr4 he4 hg4, hw.add ha, hs'⟩
  rw [show decide (k = 1) = false from decide_eq_false k1]
  simp only [vs]
  by_cases k2 : k = 2
  · rw [show decide (k = 2) = true from decide_eq_true k2]
    simp only [vs, l1_eq c1]
    refine (parents_ok hT2.rep id fun hA hn => hw.parLen hA hn).mono ?_
    rintro _ w3 ⟨he3, hres⟩
    have hT3 := hT2.no he3
    rcases hres with ⟨hin, hst, v, rfl, hov, hvn⟩ | ⟨hno, rfl⟩
    · have hir := inR_iff.1 hin
      simp only [vs, l1_eq (he3.cell c1 fun h => h)]
      obtain ⟨lv, hlv, hH⟩ := hT3.ref
      refine (parentsR_ok hlv id).mono ?_
      rintro _ _ ⟨rfl, ⟨j, hj, hjob, rfl⟩ | ⟨hjob, rfl⟩⟩
      case inr => exact absurd ⟨hin, hst⟩ ((hs.none id).1 hjob)
      obtain ⟨_, rfl⟩ := jobR_mem hjob
      have hjj := hs.job hj
      have hpl := hw.parLen (i := j.id) ⟨by omega, hir.2⟩ hst
      have hov' := hov.sl (by omega)
      have hj2 := (hlv.par j hj).sl (hlv.par j hj).le
      simp only [vs, decide_true, show ((0 : Int) == 0) = true from rfl]
      refine (same_ok hov' hj2).mono ?_
      rintro _ w5 ⟨rfl, he5⟩
      rw [hjj.2.2.2]
      simp only [vs, decide_true]
      exact ⟨by trivial, _, _, _, _, hT3.no he5, hw, hs⟩
    · simp only [vs, l1_eq (he3.cell c1 fun h => h)]
      obtain ⟨lv, hlv, hH⟩ := hT3.ref
      refine (parentsR_ok hlv id).mono ?_
      rintro _ _ ⟨rfl, ⟨j, hj, hjob, rfl⟩ | ⟨hjob, rfl⟩⟩
      case inl => rw [(hs.none id).2 hno] at hjob; cases hjob
      simp only [vs, decide_true, show ((3 : Int) == 3) = true from rfl]
      refine (same_ok (l1 := []) (l2 := []) (Sl.nil _ 1) (Sl.nil _ 1)).mono ?_
      rintro _ w5 ⟨rfl, he5⟩
      simp only [vs, decide_true]
      exact ⟨by trivial, _, _, _, _, hT3.no he5, hw, hs⟩
  rw [show decide (k = 2) = false from decide_eq_false k2]
  simp only [vs]
  by_cases k3 : k = 3
  · rw [show decide (k = 3) = true from decide_eq_true k3]
    simp only [vs]
    refine ⟨fun w' => w'.cell? ⟨w.heap.size, 1, none⟩ = some (.int .i64 id), (Ext.refl No w2).drew.cell c1 fun h => h, ?_⟩
    refine l1C_of (fun w' hw' => hw') ?_
    refine l1C_of (fun w' hw' => hw') ?_
    have hT3 := hT2.no (Ext.refl No w2).drew
    refine (free_ok hT3.rep id).mono ?_
    rintro _ w4 ⟨rfl, he4⟩
    have hT4 := hT3.no he4
    refine ⟨he4.cell ((Ext.refl No w2).drew.cell c1 fun h => h) fun h => h, ?_⟩
    obtain ⟨lv, hlv, hH⟩ := hT4.ref
    refine (freeR_ok hlv id).mono ?_
    rintro _ _ ⟨rfl, rfl⟩
    rw [hs.free hw]
    simp only [vs, beq_self_eq_true]
    exact ⟨by trivial, _, _, _, _, hT4, hw, hs⟩
  rw [show decide (k = 3) = false from decide_eq_false k3]
  simp only [vs]
  by_cases k4 : k = 4
  · rw [show decide (k = 4) = true from decide_eq_true k4]
    simp only [vs, l1_eq c1]
    refine (done_ok hT2.rep hw.chR (fun i hi => by have := hw.chLen hi; omega) (fun i c hi hc => hw.pdR hi hc) (fun i hi hm => hw.acyc i (.base hm)) hw.chN id).mono ?_
    rintro _ w3 ⟨g', L, e, F', v, ha, rfl, hr3, he3, hg3, hov, hvn, hvF⟩
    have hT3 := hT2.g hr3 he3 hg3
    simp only [vs, l1_eq (he3.cell c1 nF)]
    refine (doneR_ok hT3.ref (by omega) id).mono ?_
    rintro _ w4 ⟨js', L', e', v', hb, rfl, hr4, he4, hov4, hvn4⟩
    obtain ⟨rfl, rfl, hs'⟩ := hs.rel hw ha hb
    have hT4 := hT3.r hr4 he4 fun m hm => .inl hm
    simp only [vs, beq_self_eq_true, decide_true]
    have hov' := (hov.ext he4 fun m hm hh => by have := hvn m hm; have := hT2.ref.lt hh; omega)
    refine (same_ok (hov'.sl hov'.le) (hov4.sl hov4.le)).mono ?_
    rintro _ w5 ⟨rfl, he5⟩
    simp only [vs, decide_true]
    exact ⟨by trivial, _, _, _, _, hT4.no he5, hw.doneR ha, hs'⟩
  rw [show decide (k = 4) = false from decide_eq_false k4]
  simp only [vs]
  by_cases k5 : k = 5
  · rw [show decide (k = 5) = true from decide_eq_true k5]
    simp only [vs, l1_eq c1]
    refine (fail_ok hT2.rep hw.chR (fun i hi => by have := hw.chLen hi; omega) hw.acyc id).mono ?_
    rintro _ w3 ⟨g', L, e, F', v, ha, rfl, hr3, he3, hg3, hov, hvn, hvF⟩
    have hT3 := hT2.g hr3 he3 hg3
    simp only [vs, l1_eq (he3.cell c1 nF)]
    refine (failR_ok hT3.ref (hs.ok hw) (by omega) id).mono ?_
    rintro _ w4 ⟨js', L', e', v', hb, rfl, hr4, he4, hov4, hvn4⟩
    obtain ⟨rfl, rfl, hs'⟩ := hs.fails hw ha hb
    have hT4 := hT3.r hr4 he4 fun m hm => .inl hm
    simp only [vs, beq_self_eq_true, decide_true]
    have hov' := (hov.ext he4 fun m hm hh => by have := hvn m hm; have := hT2.ref.lt hh; omega)
    refine (same_ok (hov'.sl hov'.le) (hov4.sl hov4.le)).mono ?_
    rintro _ w5 ⟨rfl, he5⟩
    simp only [vs, decide_true]
    exact ⟨by trivial, _, _, _, _, hT4.no he5, hw.failR ha, hs'⟩
  rw [show decide (k = 5) = false from decide_eq_false k5]
  simp only [vs]
  exact ⟨by trivial, _, _, _, _, hT2, hw, hs⟩

end Go.Proofs.Ytopefchiadmpaaa.Dag
