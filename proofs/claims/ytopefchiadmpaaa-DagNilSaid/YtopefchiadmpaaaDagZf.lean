/-
  DagNil: no graph; what is handed in.
-/
import Derived.Test.YtopefchiadmpaaaDagZe
namespace Go.Proofs.Ytopefchiadmpaaa.Dag
open Go.Proofs.Ytopefchiadmpaaa.V Go.Proofs.Ytopefchiadmpaaa.T
set_option linter.all false
set_option linter.unusedVariables false
set_option linter.unusedSimpArgs false
set_option linter.unnecessarySimpa false

theorem nil_at (w : World) (id : Int) : Ret PR 29 #[.pointer none, .int .i64 id] w (fun r w' => r = .pointer none ∧ w' = w) := by
  refine f29_ret ?_
  unfold f29
  simp only [vs]
  exact ⟨by trivial, by trivial⟩
theorem nil_add (w : World) (id : Int) (x : Value) : Ret PR 11 #[.pointer none, .int .i64 id, x] w (fun r w' => r = .tuple #[.bool false, .int .i64 10] ∧ w' = w) := by
  refine f11_ret ?_
  unfold f11
  simp only [vs]
  exact ⟨by trivial, by trivial⟩
theorem nil_par (w : World) (id : Int) : Ret PR 13 #[.pointer none, .int .i64 id] w (fun r w' => r = .tuple #[.slice none 0 0, .int .i64 3] ∧ w' = w) := by
  refine f13_ret ?_
  unfold f13
  refine (nil_at w id).mono ?_
  rintro _ _ ⟨rfl, rfl⟩
  simp only [vs]
  exact ⟨by trivial, by trivial⟩
theorem nil_done (w : World) (id : Int) : Ret PR 15 #[.pointer none, .int .i64 id] w (fun r w' => r = .tuple #[.slice none 0 0, .int .i64 3] ∧ w' = w) := by
  refine f15_ret ?_
  unfold f15
  refine (nil_at w id).mono ?_
  rintro _ _ ⟨rfl, rfl⟩
  simp only [vs]
  exact ⟨by trivial, by trivial⟩
theorem nil_fail (w : World) (id : Int) : Ret PR 17 #[.pointer none, .int .i64 id] w (fun r w' => r = .tuple #[.slice none 0 0, .int .i64 3] ∧ w' = w) := by
  refine f17_ret ?_
  unfold f17
  refine (nil_at w id).mono ?_
  rintro _ _ ⟨rfl, rfl⟩
  simp only [vs]
  exact ⟨by trivial, by trivial⟩
theorem nil_free (w : World) (id : Int) : Ret PR 16 #[.pointer none, .int .i64 id] w (fun r w' => r = .bool false ∧ w' = w) := by
  refine f16_ret ?_
  unfold f16
  refine (nil_at w id).mono ?_
  rintro _ _ ⟨rfl, rfl⟩
  simp only [vs]
  exact ⟨by trivial, by trivial⟩

set_option maxHeartbeats 1000000 in
theorem nil_walk {w : World} {id : Int} {pv : Value} {ps : List Int} (hps : Sl w 1 pv ps.length (enc ps)) : Ret PR 8 #[.int .i64 id, pv] w (fun r w' => r = .bool true ∧ Ext No w w') := by
  refine f8_ret ?_
  unfold f8
  refine (awake_ok w).mono ?_
  rintro _ w1 ⟨rfl, he1⟩
  have hpl := hps.2.1
  simp only [vs, hps.len, ar]
  by_cases h300 : ps.length > 300
  · rw [show decide ((ps.length : Int) > 300) = true from decide_eq_true (by omega)]
    simp only [vs]
    refine (awake_ok w1).mono ?_
    rintro _ w2 ⟨rfl, he2⟩
    exact ⟨rfl, he1.noTrans he2⟩
  rw [show decide ((ps.length : Int) > 300) = false from decide_eq_false (by omega)]
  simp only [vs]
  refine (nil_add w1 id pv).mono ?_
  rintro _ _ ⟨rfl, rfl⟩
  simp only [vs]
  refine (nil_par _ id).mono ?_
  rintro _ _ ⟨rfl, rfl⟩
  simp only [vs]
  refine (nil_done _ id).mono ?_
  rintro _ _ ⟨rfl, rfl⟩
  simp only [vs]
  refine (nil_fail _ id).mono ?_
  rintro _ wn ⟨rfl, rfl⟩
  simp only [vs, show ((10 : Int) == 10) = true from rfl, show ((3 : Int) == 3) = true from rfl]
  refine (nil_free _ id).mono ?_
  rintro _ wn ⟨rfl, rfl⟩
  simp only [vs]
  refine build51 ?_
  refine bx_any fun w2 he2 hsz2 hblk2 => ?_
  refine build45 ?_
  refine bx_any fun w3 he3 hsz3 hblk3 => ?_
  have hE2 := he1.noTrans he2
  have hE3 := hE2.noTrans he3
  have hs1 := he1.size
  have hs2 := hE2.size
  have hT3 : Two w wn.heap.size w2.heap.size w3 G0 [] (fun k => k = wn.heap.size) (fun k => k = w2.heap.size) := by
    refine ⟨(rep_nul hblk2).kept he3, ref_nil hblk3, fun m hm hm2 => ?_, hE3, fun m hm => ?_, fun m hm => ?_⟩
    · have hm : m = wn.heap.size := hm
      have hm2 : m = w2.heap.size := hm2
      omega
    · have hm : m = wn.heap.size := hm
      omega
    · have hm2 : m = w2.heap.size := hm
      omega
  generalize wn.heap.size = b at *
  generalize w2.heap.size = c at *
  clear hblk2 hblk3 hsz2 hsz3
  refine append_own E31 (Own.nil w3 2 1) (hps.ext hE3 fun _ _ h => h) (enc_one ps) (by omega) (by omega) fun vin w4 hin4 he4 hk4 _ => ?_
  rw [Nat.zero_add, List.nil_append] at hin4
  have he4' : Ext No w3 w4 := he4.mono fun m hm hi => by simp [inB, Value.ownBlock] at hi
  have hT4 := hT3.no he4'
  have hinN : ∀ m, inB vin m → w3.heap.size ≤ m := fun m hm => by
    rcases hk4 m hm with h | h
    · simp [inB, Value.ownBlock] at h
    · exact h
  have hinF : ∀ m, inB vin m → ¬ (m = b) := fun m hm e => by have := hinN m hm; have := hT3.rep.lt (k := m) e; omega
  have hinH : ∀ m, inB vin m → ¬ (m = c) := fun m hm e => by have := hinN m hm; have := hT3.ref.lt (k := m) e; omega
  have hs4 : Sl w4 1 vin ps.length (enc ps) := hin4.sl (by omega)
  have hs34 := hE3.size
  change Ret PR 11 #[ptr b, .int .i64 id, vin] w4 _
  refine (add_ok hT4.rep WF0.chR (fun i hi => WF0.chLen hi) id hs4 (by omega)).mono ?_
  rintro _ w5 ⟨g', ok, e, F', ha, rfl, hr5, he5, hg5⟩
  have hT5 := hT4.g hr5 he5 hg5
  have hin5 := hin4.ext he5 fun m hm hf => hinF m hm hf
  have hlt4 : ∀ m, inB vin m → m < w4.heap.size := fun m hm => hin4.lt hm
  have hinF' : ∀ m, inB vin m → ¬ F' m := fun m hm hf => by
    rcases hg5 m hf with h | h
    · exact hinF m hm h
    · have := hlt4 m hm; omega
  simp only [vs]
  change Ret PR 20 #[ptr c, .int .i64 id, pv] w5 _
  refine (addR_ok hT5.ref (Sim.nil.ok WF0) (by simp) id (hps.ext hT5.ext fun _ _ h => h)).mono ?_
  rintro _ w6 ⟨js', ok', e', H', hb, rfl, hr6, he6, hg6⟩
  have hT6 := hT5.r hr6 he6 hg6
  have hw' := WF0.add ha
  obtain ⟨rfl, rfl, hs'⟩ := Sim.nil.add WF0 ha hb
  have hin6 := hin5.ext he6 fun m hm hf => hinH m hm hf
  have h45 := he5.size
  have hinH' : ∀ m, inB vin m → ¬ H' m := fun m hm hf => by
    rcases hg6 m hf with h | h
    · exact hinH m hm h
    · have := hlt4 m hm; omega
  simp only [vs, beq_self_eq_true]
  refine (same_ok (hin6.sl (by omega)) (hps.ext hT6.ext fun _ _ h => h)).mono ?_
  rintro _ w7 ⟨rfl, he7⟩
  have hT7 := hT6.no he7
  have hin7 := hin6.ext he7 fun _ _ h => h
  simp only [decide_true, vs, hs4.len]
  refine for1 (by omega) (fun i w' => (∃ xs, Own w' 2 1 vin ps.length xs) ∧ Ext (inB vin) w7 w') ⟨⟨_, hin7⟩, Ext.refl _ _⟩ ?_ ?_
  · rintro i wa hi ⟨⟨xs, hxs⟩, hea⟩ K hK
    refine hxs.putInt hi fun wb hob heb hszb => ?_
    simp (disch := omega) only [vs, ar]
    exact hK _ ⟨⟨_, hob⟩, hea.trans heb fun _ _ h => h⟩
  · rintro w8 ⟨_, he8⟩
    have hT8 : Two w b c w8 g' js' F' H' := ⟨hT7.rep.ext he8 fun m hf hi => hinF' m hi hf, hT7.ref.ext he8 fun m hf hi => hinH' m hi hf, hT7.dis, hT7.ext.trans he8 fun m hm hi => by have := hinN m hi; omega, hT7.fF, hT7.fH⟩
    change Ret PR 13 #[ptr b, .int .i64 id] w8 _
    refine (parents_ok hT8.rep id fun hA hn => hw'.parLen hA hn).mono ?_
    rintro _ w9 ⟨he9, hres⟩
    have hT9 := hT8.no he9
    rcases hres with ⟨hin, hst, v, rfl, hov, hvn⟩ | ⟨hno, rfl⟩
    · have hir := inR_iff.1 hin
      simp only [vs]
      obtain ⟨lv, hlv, hH⟩ := hT9.ref
      change Ret PR 22 #[ptr c, .int .i64 id] w9 _
      refine (parentsR_ok hlv id).mono ?_
      rintro _ _ ⟨rfl, ⟨j, hj, hjob, rfl⟩ | ⟨hjob, rfl⟩⟩
      case inr => exact absurd ⟨hin, hst⟩ ((hs'.none id).1 hjob)
      obtain ⟨_, rfl⟩ := jobR_mem hjob
      have hjj := hs'.job hj
      have hpl := hw'.parLen (i := j.id) ⟨by omega, hir.2⟩ hst
      have hov' := hov.sl (by omega)
      have hj2 := (hlv.par j hj).sl (hlv.par j hj).le
      simp only [vs]
      refine (same_ok hov' hj2).mono ?_
      rintro _ w10 ⟨rfl, he10⟩
      rw [hjj.2.2.2]
      exact ⟨by simp, hT9.ext.noTrans he10⟩
    · simp only [vs]
      obtain ⟨lv, hlv, hH⟩ := hT9.ref
      change Ret PR 22 #[ptr c, .int .i64 id] w9 _
      refine (parentsR_ok hlv id).mono ?_
      rintro _ _ ⟨rfl, ⟨j, hj, hjob, rfl⟩ | ⟨hjob, rfl⟩⟩
      case inl => rw [(hs'.none id).2 hno] at hjob; cases hjob
      simp only [vs]
      refine (same_ok (l1 := []) (l2 := []) (Sl.nil _ 1) (Sl.nil _ 1)).mono ?_
      rintro _ w10 ⟨rfl, he10⟩
      exact ⟨by simp, hT9.ext.noTrans he10⟩

section
variable {H : Type} {en : TypeId × Value → H} {w : World} {base : Nat} {spare : Nat → Bool} {held : Bool}
theorem dagNil_said {a0 : Int} (w0 : (Lit.int .i64 a0).wf = true) {v : Value} (h : Reads en Try.prog w base spare held 31 [v]) : Ret PR 8 #[.int .i64 a0, v] w (fun r w' => r = .bool true ∧ Ext No w w') := by
  obtain ⟨pv, par, h2, h3, _⟩ := reads_ints Try.underlying31 Try.underlying2 cells2 h
  obtain rfl : v = pv := by simpa using h2
  exact nil_walk h3
end

end Go.Proofs.Ytopefchiadmpaaa.Dag
