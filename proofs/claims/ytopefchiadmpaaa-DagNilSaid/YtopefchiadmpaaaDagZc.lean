/-
  The graph and the reference answer alike. No Go in sight.
-/
import Derived.Test.YtopefchiadmpaaaDagZb
namespace Go.Proofs.Ytopefchiadmpaaa.Dag
open Go.Proofs.Ytopefchiadmpaaa.V Go.Proofs.Ytopefchiadmpaaa.T
set_option linter.all false
set_option linter.unusedVariables false
set_option linter.unusedSimpArgs false
set_option linter.unnecessarySimpa false

theorem sorted_eq : ∀ {l m : List Int}, l.Pairwise (· < ·) → m.Pairwise (· < ·) → (∀ x, x ∈ l ↔ x ∈ m) → l = m
  | [], [], _, _, _ => rfl
  | [], b :: m, _, _, h => absurd ((h b).2 (by simp)) (by simp)
  | a :: l, [], _, _, h => absurd ((h a).1 (by simp)) (by simp)
  | a :: l, b :: m, h1, h2, h => by
    obtain ⟨a1, a2⟩ := List.pairwise_cons.1 h1
    obtain ⟨b1, b2⟩ := List.pairwise_cons.1 h2
    have hab : a = b := by
      rcases List.mem_cons.1 ((h a).1 (by simp)) with e | e
      · exact e
      · rcases List.mem_cons.1 ((h b).2 (by simp)) with e' | e'
        · exact e'.symm
        · have := b1 a e; have := a1 b e'; omega
    subst hab
    congr 1
    refine sorted_eq a2 b2 fun x => ?_
    constructor
    · intro hx
      rcases List.mem_cons.1 ((h x).1 (List.mem_cons_of_mem _ hx)) with e | e
      · have := a1 x hx; omega
      · exact e
    · intro hx
      rcases List.mem_cons.1 ((h x).2 (List.mem_cons_of_mem _ hx)) with e | e
      · have := b1 x hx; omega
      · exact e

theorem jobR_iff {js : List JobD} (h : js.Pairwise fun a b => a.id < b.id) {x : Int} {j : JobD} : jobR js x = some j ↔ j ∈ js ∧ j.id = x := by
  refine ⟨jobR_mem, ?_⟩
  rintro ⟨hj, rfl⟩
  obtain ⟨i, hi, rfl⟩ := List.mem_iff_getElem.1 hj
  refine jobR_at hi rfl fun m hm hmi e => ?_
  have := srt_inj h hm hi e
  omega
theorem jobR_none_iff {js : List JobD} {x : Int} : jobR js x = none ↔ ∀ j, j ∈ js → j.id ≠ x := by
  constructor
  · intro h j hj e
    have := List.find?_eq_none.1 h j hj
    simp [e] at this
  · exact jobR_none

structure Sim (g : G) (js : List JobD) : Prop where
  srt : js.Pairwise fun a b => a.id < b.id
  ids : ∀ j, j ∈ js → 1 ≤ j.id ∧ j.id ≤ 100
  st : ∀ x, 1 ≤ x → x ≤ 100 → stR js x = g.st x
  nz : ∀ j, j ∈ js → j.st ≠ 0
  par : ∀ x, 1 ≤ x → x ≤ 100 → g.st x ≠ 0 → parR js x = g.par x

theorem Sim.job {g : G} {js : List JobD} (h : Sim g js) {j : JobD} (hj : j ∈ js) : jobR js j.id = some j ∧ g.st j.id = j.st ∧ g.st j.id ≠ 0 ∧ g.par j.id = j.par := by
  have h1 := (jobR_iff h.srt).2 ⟨hj, rfl⟩
  have h2 := h.st j.id (h.ids j hj).1 (h.ids j hj).2
  have h3 : stR js j.id = j.st := by simp [stR, h1]
  have h4 := h.nz j hj
  have h5 : g.st j.id ≠ 0 := by rw [← h2, h3]; exact h4
  have h6 := h.par j.id (h.ids j hj).1 (h.ids j hj).2 h5
  have h7 : parR js j.id = j.par := by simp [parR, h1]
  exact ⟨h1, by rw [← h2, h3], h5, by rw [← h6, h7]⟩
theorem Sim.none {g : G} {js : List JobD} (h : Sim g js) (x : Int) : jobR js x = none ↔ ¬ (inR x = true ∧ g.st x ≠ 0) := by
  constructor
  · rintro h1 ⟨h2, h3⟩
    have h4 := inR_iff.1 h2
    have := h.st x h4.1 h4.2
    simp [stR, h1] at this
    omega
  · intro h1
    cases hj : jobR js x with
    | none => rfl
    | some j =>
      obtain ⟨hm, rfl⟩ := jobR_mem hj
      exact absurd ⟨inR_iff.2 (h.ids j hm), (h.job hm).2.2.1⟩ h1
theorem Sim.ex {g : G} {js : List JobD} (h : Sim g js) {x : Int} (hx : 1 ≤ x ∧ x ≤ 100) (hs : g.st x ≠ 0) : ∃ j, j ∈ js ∧ j.id = x ∧ jobR js x = some j := by
  cases hj : jobR js x with
  | none => exact absurd ⟨inR_iff.2 hx, hs⟩ ((h.none x).1 hj)
  | some j => exact ⟨j, (jobR_mem hj).1, (jobR_mem hj).2, rfl⟩
theorem Sim.len {g : G} {js : List JobD} (h : Sim g js) : js.length ≤ 100 := by
  have hn : (js.map (·.id)).Nodup := nodup_of_sorted (List.pairwise_map.2 h.srt)
  have := len_of_sub (m := upto 100) hn fun x hx => by
    obtain ⟨j, hj, rfl⟩ := List.mem_map.1 hx
    exact upto_mem.2 (h.ids j hj)
  rwa [upto_len, List.length_map] at this
theorem Sim.ok {g : G} {js : List JobD} (h : Sim g js) (hw : WF g) : JsOk js :=
  ⟨h.srt, fun j hj p hp => by
      obtain ⟨_, _, h1, h2⟩ := h.job hj
      exact hw.parR j.id ⟨by have := h.ids j hj; omega, (h.ids j hj).2⟩ h1 p (by rw [h2]; exact hp),
    fun j hj => by
      obtain ⟨_, _, h1, h2⟩ := h.job hj
      have := hw.parLen (i := j.id) ⟨by have := h.ids j hj; omega, (h.ids j hj).2⟩ h1
      rw [h2] at this; omega⟩

theorem Sim.free {g : G} {js : List JobD} (h : Sim g js) (hw : WF g) (x : Int) : freeR js x = isFree g x := by
  rw [Bool.eq_iff_iff, isFree_iff]
  unfold freeR
  simp only [Bool.and_eq_true, decide_eq_true_eq, List.all_eq_true]
  constructor
  · rintro ⟨h1, h2⟩
    have hx : 1 ≤ x ∧ x ≤ 100 := by
      cases hj : jobR js x with
      | none => simp [stR, hj] at h1
      | some j => obtain ⟨hm, rfl⟩ := jobR_mem hj; exact h.ids j hm
    have h3 := h.st x hx.1 hx.2
    have h4 := h.par x hx.1 hx.2 (by omega)
    refine ⟨hx, by omega, ?_⟩
    rw [hw.pd x ⟨by omega, hx.2⟩ (by omega), ← h4]
    rw [List.filter_eq_nil_iff.2]
    · rfl
    · intro p hp
      have h5 := h2 p hp
      have h6 := hw.parR x ⟨by omega, hx.2⟩ (by omega) p (by rw [← h4]; exact hp)
      rw [h.st p h6.1 h6.2] at h5
      simpa using h5
  · rintro ⟨hx, h1, h2⟩
    have h3 := h.st x hx.1 hx.2
    have h4 := h.par x hx.1 hx.2 (by omega)
    refine ⟨by omega, fun p hp => ?_⟩
    rw [h4] at hp
    have h6 := hw.parR x ⟨by omega, hx.2⟩ (by omega) p hp
    rw [h.st p h6.1 h6.2]
    have h5 := hw.pd x ⟨by omega, hx.2⟩ (by omega)
    have h7 : (g.par x).filter (fun p => decide (g.st p ≠ 2)) = [] := List.eq_nil_of_length_eq_zero (by omega)
    have := List.filter_eq_nil_iff.1 h7 p hp
    simpa using this

theorem Sim.edge {g : G} {js : List JobD} (h : Sim g js) (hw : WF g) {p y : Int} (hp : 1 ≤ p ∧ p ≤ 100) : y ∈ g.ch p ↔ ∃ j, jobR js y = some j ∧ p ∈ j.par := by
  constructor
  · intro hy
    have h1 := hw.chR p y ⟨by omega, hp.2⟩ hy
    have h2 := (hw.link p y ⟨by omega, hp.2⟩ ⟨by omega, h1.2⟩).1 hy
    obtain ⟨j, hj, rfl, h3⟩ := h.ex h1 h2.1
    exact ⟨j, h3, by rw [← (h.job hj).2.2.2]; exact h2.2⟩
  · rintro ⟨j, h1, h2⟩
    obtain ⟨hm, rfl⟩ := jobR_mem h1
    obtain ⟨_, _, h3, h4⟩ := h.job hm
    have := h.ids j hm
    exact (hw.link p j.id ⟨by omega, hp.2⟩ ⟨by omega, this.2⟩).2 ⟨h3, by rw [h4]; exact h2⟩
theorem Sim.up {g : G} {js : List JobD} (h : Sim g js) (hw : WF g) {l : List Int} (hl : ∀ x, x ∈ l → 1 ≤ x ∧ x ≤ 100) {x : Int} (hx : 1 ≤ x ∧ x ≤ 100) : Up js l x ↔ x ∈ l ∨ ∃ z, z ∈ l ∧ Desc g.ch x z := by
  have hjs := h.ok hw
  constructor
  · intro hu
    clear hx
    induction hu with
    | base hm => exact .inl hm
    | @step y p j hy hj hp ih =>
      have hpr := hjs.par j (jobR_mem hj).1 p hp
      have he : y ∈ g.ch p := (h.edge hw hpr).2 ⟨j, hj, hp⟩
      rcases ih with ih | ⟨z, hz, hd⟩
      · exact .inr ⟨y, ih, .base he⟩
      · exact .inr ⟨z, hz, (Desc.base he).trans hd⟩
  · rintro (hm | ⟨z, hz, hd⟩)
    · exact .base hm
    · have key : ∀ z, Desc g.ch x z → Up js l z → Up js l x := fun z hd => by
        induction hd with
        | base hm =>
          intro hu
          obtain ⟨j, hj, hp⟩ := (h.edge hw hx).1 hm
          exact .step hu hj hp
        | @step y x' hy hm ih =>
          intro hu
          have hyr := hy.inR hw ⟨by omega, hx.2⟩
          obtain ⟨j, hj, hp⟩ := (h.edge hw hyr).1 hm
          exact ih (.step hu hj hp)
      exact key z hd (.base hz)

theorem jobR_ins {js : List JobD} {k : Nat} {y : JobD} (hs : (insAt js k y).Pairwise fun a b => a.id < b.id) (x : Int) : jobR (insAt js k y) x = if x = y.id then some y else jobR js x := by
  have hsub : js.Pairwise fun a b => a.id < b.id := by
    have : js.Sublist (insAt js k y) := by
      unfold insAt
      conv => lhs; rw [← List.take_append_drop k js]
      exact List.Sublist.append (List.Sublist.refl _) (List.sublist_cons_self _ _)
    exact hs.sublist this
  by_cases e : x = y.id
  · rw [if_pos e]
    exact (jobR_iff hs).2 ⟨(insAt_mem _ _ _ _).2 (.inr rfl), e.symm⟩
  · rw [if_neg e]
    cases hj : jobR js x with
    | none =>
      rw [jobR_none_iff] at hj ⊢
      intro j hm
      rcases (insAt_mem _ _ _ _).1 hm with hm | rfl
      · exact hj j hm
      · exact fun h => e h.symm
    | some j =>
      have := (jobR_iff hsub).1 hj
      exact (jobR_iff hs).2 ⟨(insAt_mem _ _ _ _).2 (.inl this.1), this.2⟩

theorem Sim.add {g g' : G} {js js' : List JobD} {id : Int} {ps : List Int} {ok ok' : Bool} {e e' : Int} (hw : WF g) (h : Sim g js) (ha : AddR g id ps g' ok e) (hb : AddRR js id ps js' ok' e') : ok = ok' ∧ e = e' ∧ Sim g' js' := by
  have hT : inR id = true → (jobR js id = Option.none ↔ g.st id = 0) := fun hi => by
    rw [h.none]; simp [hi]
  have hR : ps.all inR = true → ∀ p, p ∈ ps → 1 ≤ p ∧ p ≤ 100 := fun ha p hp => inR_iff.1 (List.all_eq_true.1 ha p hp)
  have hD : ∀ p, p ∈ dedI (sortI ps) ↔ p ∈ ps := ded_mem ps
  have hC : inR id = true → ps.all inR = true → (Up js ps id ↔ ∃ p, p ∈ dedI (sortI ps) ∧ (p = id ∨ Desc g.ch id p)) := fun hi ha => by
    rw [h.up hw (hR ha) (inR_iff.1 hi)]
    constructor
    · rintro (h1 | ⟨z, h1, h2⟩)
      · exact ⟨id, (hD id).2 h1, .inl rfl⟩
      · exact ⟨z, (hD z).2 h1, .inr h2⟩
    · rintro ⟨p, h1, rfl | h2⟩
      · exact .inl ((hD _).1 h1)
      · exact .inr ⟨p, (hD p).1 h1, h2⟩
  have hC' : (∀ p, p ∈ dedI (sortI ps) → p ≠ id ∧ ¬ Desc g.ch id p) → ¬ ∃ p, p ∈ dedI (sortI ps) ∧ (p = id ∨ Desc g.ch id p) := by
    rintro h1 ⟨p, hp, rfl | h2⟩
    · exact (h1 _ hp).1 rfl
    · exact (h1 p hp).2 h2
  have hS : ps.all inR = true → ∀ p, p ∈ ps → stR js p = g.st p := fun ha p hp => h.st p (hR ha p hp).1 (hR ha p hp).2
  cases ha with
  | range h1 =>
    cases hb with
    | range _ => exact ⟨rfl, rfl, h⟩
    | twice h2 _ => exact absurd h2 h1
    | cycle h2 _ _ => exact absurd h2 h1
    | state h2 _ _ _ => exact absurd h2 h1
    | ok h2 => exact absurd h2 h1
  | twice h1 h2 =>
    cases hb with
    | range h3 => exact absurd h1 h3
    | twice _ _ => exact ⟨rfl, rfl, h⟩
    | cycle _ h3 _ => exact absurd ((hT h1.1).1 h3) h2
    | state _ h3 _ _ => exact absurd ((hT h1.1).1 h3) h2
    | ok _ h3 => exact absurd ((hT h1.1).1 h3) h2
  | cycle h1 h2 h3 =>
    cases hb with
    | range h4 => exact absurd h1 h4
    | twice _ h4 => exact absurd ((hT h1.1).2 h2) h4
    | cycle _ _ _ => exact ⟨rfl, rfl, h⟩
    | state _ _ h4 _ => exact absurd ((hC h1.1 h1.2).2 h3) h4
    | ok _ _ h4 => exact absurd ((hC h1.1 h1.2).2 h3) h4
  | state h1 h2 h3 h4 =>
    cases hb with
    | range h5 => exact absurd h1 h5
    | twice _ h5 => exact absurd ((hT h1.1).2 h2) h5
    | cycle _ _ h5 => exact absurd ((hC h1.1 h1.2).1 h5) (hC' h3)
    | state _ _ _ _ => exact ⟨rfl, rfl, h⟩
    | ok _ _ _ h5 =>
      obtain ⟨p, hp, h6⟩ := h4
      exact absurd ((hS h1.2 p ((hD p).1 hp)).trans h6) (h5 p ((hD p).1 hp))
  | ok h1 h2 h3 h4 =>
    cases hb with
    | range h5 => exact absurd h1 h5
    | twice _ h5 => exact absurd ((hT h1.1).2 h2) h5
    | cycle _ _ h5 => exact absurd ((hC h1.1 h1.2).1 h5) (hC' h3)
    | state _ _ _ h5 =>
      obtain ⟨p, hp, h6⟩ := h5
      exact absurd ((hS h1.2 p hp).symm.trans h6) (h4 p ((hD p).2 hp))
    | ok _ h5 h6 h7 k hk l pv hl hm hs =>
      have hidR := inR_iff.1 h1.1
      have hle : l = dedI (sortI ps) := sorted_eq hl (ded_sorted ps) fun x => (hm x).trans (hD x).symm
      have hsim : Sim (addG g id (dedI (sortI ps))) (insAt js k ⟨id, l, 1, pv⟩) := by
        refine ⟨hs, fun j hj => ?_, fun x hx1 hx2 => ?_, fun j hj => ?_, fun x hx1 hx2 hst => ?_⟩
        · rcases (insAt_mem _ _ _ _).1 hj with hj | rfl
          · exact h.ids j hj
          · exact hidR
        · show stR _ x = upI g.st id 1 x
          unfold stR
          rw [jobR_ins hs]
          by_cases e : x = id
          · subst e; simp [upI_same]
          · rw [if_neg e, upI_other _ _ e]; exact h.st x hx1 hx2
        · rcases (insAt_mem _ _ _ _).1 hj with hj | rfl
          · exact h.nz j hj
          · exact Nat.one_ne_zero
        · change upI g.st id 1 x ≠ 0 at hst
          show parR _ x = upI g.par id (dedI (sortI ps)) x
          unfold parR
          rw [jobR_ins hs]
          by_cases e : x = id
          · subst e; simp [upI_same, hle]
          · rw [if_neg e, upI_other _ _ e]
            rw [upI_other _ _ e] at hst
            exact h.par x hx1 hx2 hst
      have hw' : WF (addG g id (dedI (sortI ps))) := hw.add (.ok h1 h2 h3 h4)
      refine ⟨?_, rfl, hsim⟩
      rw [hsim.free hw']
      unfold isFree
      show _ = (inR id && decide (upI g.st id 1 id = 1) && decide (upI g.pd id _ id = 0))
      rw [upI_same, upI_same, h1.1]
      simp only [decide_true, Bool.true_and]
      exact decide_eq_decide.2 (by omega)

theorem jobR_setS {js : List JobD} (h : js.Pairwise fun a b => a.id < b.id) {k n : Nat} (hk : k < js.length) (x : Int) : (setS js k n).Pairwise (fun a b => a.id < b.id) ∧ stR (setS js k n) x = (if x = js[k].id then n else stR js x) ∧ parR (setS js k n) x = parR js x := by
  have hget : ∀ i (hi : i < js.length), ((setS js k n)[i]'(by rw [setS_len]; exact hi)).id = js[i].id ∧ ((setS js k n)[i]'(by rw [setS_len]; exact hi)).par = js[i].par := fun i hi => by
    rw [setS_get js k n hi]; split <;> exact ⟨rfl, rfl⟩
  have hs : (setS js k n).Pairwise (fun a b => a.id < b.id) := by
    rw [List.pairwise_iff_getElem]
    intro i j hi hj hij
    rw [setS_len] at hi hj
    rw [(hget i hi).1, (hget j hj).1]
    exact (List.pairwise_iff_getElem.1 h) i j hi hj hij
  refine ⟨hs, ?_⟩
  cases hj : jobR js x with
  | none =>
    have hne := jobR_none_iff.1 hj
    have : jobR (setS js k n) x = none := jobR_none_iff.2 fun j hm => by
      obtain ⟨i, hi, rfl⟩ := List.mem_iff_getElem.1 hm
      rw [setS_len] at hi
      rw [(hget i hi).1]; exact hne _ (List.getElem_mem hi)
    rw [if_neg fun e => hne _ (List.getElem_mem hk) e.symm]
    simp [stR, parR, hj, this]
  | some j =>
    obtain ⟨hm, hx⟩ := (jobR_iff h).1 hj
    obtain ⟨i, hi, rfl⟩ := List.mem_iff_getElem.1 hm
    have h2 : jobR (setS js k n) x = some ((setS js k n)[i]'(by rw [setS_len]; exact hi)) := (jobR_iff hs).2 ⟨List.getElem_mem _, by rw [(hget i hi).1]; exact hx⟩
    constructor
    · unfold stR
      simp only [hj, h2]
      rw [setS_get js k n hi]
      by_cases e : k = i
      · subst e; rw [if_pos rfl, if_pos hx.symm]
      · rw [if_neg e, if_neg fun e2 => e (srt_inj h hi hk (hx.trans e2)).symm]
    · unfold parR
      simp only [hj, h2]
      exact (hget i hi).2

theorem sortI_strict {l : List Int} (h : l.Nodup) : (sortI l).Pairwise (· < ·) := by
  have h2 : (sortI l).Nodup := (List.mergeSort_perm l _).symm.nodup h
  exact ((sortI_sorted l).and h2).imp fun ⟨a, b⟩ => by omega

theorem Sim.rel {g g' : G} {js js' : List JobD} {id : Int} {L L' : List Int} {e e' : Int} (hw : WF g) (h : Sim g js) (ha : DoneR g id g' L e) (hb : DoneRR js id js' L' e') : L = L' ∧ e = e' ∧ Sim g' js' := by
  have hf := h.free hw id
  have hn := h.none id
  cases ha with
  | none h1 =>
    cases hb with
    | none _ => exact ⟨rfl, rfl, h⟩
    | state h2 _ => exact absurd (hn.2 h1) h2
    | ok h2 k hk hid =>
      rw [hf, isFree_iff] at h2
      exact absurd ⟨inR_iff.2 h2.1, by omega⟩ h1
  | state h1 h2 =>
    cases hb with
    | none h3 => exact absurd h1 (hn.1 h3)
    | state _ _ => exact ⟨rfl, rfl, h⟩
    | ok h3 => rw [hf, h2] at h3; cases h3
  | ok h1 =>
    cases hb with
    | none h3 =>
      have := isFree_iff.1 h1
      exact absurd ⟨inR_iff.2 this.1, by omega⟩ (hn.1 h3)
    | state _ h3 => rw [hf, h1] at h3; cases h3
    | ok h3 k hk hid =>
      have hi := isFree_iff.1 h1
      have hA : InA id := ⟨by omega, hi.1.2⟩
      have hsim : Sim (relG g id (g.ch id)) (setS js k 2) := by
        refine ⟨(jobR_setS h.srt hk 0).1, fun j hj => ?_, fun x hx1 hx2 => ?_, fun j hj => ?_, fun x hx1 hx2 hst => ?_⟩
        · obtain ⟨j0, hj0, _, _, e⟩ := setS_pv hj
          rw [e]; exact h.ids j0 hj0
        · rw [(jobR_setS h.srt hk x).2.1, hid]
          show _ = upI g.st id 2 x
          by_cases e : x = id
          · subst e; rw [if_pos rfl, upI_same]
          · rw [if_neg e, upI_other _ _ e]; exact h.st x hx1 hx2
        · obtain ⟨i, hi2, rfl⟩ := List.mem_iff_getElem.1 hj
          rw [setS_len] at hi2
          rw [setS_get js k 2 hi2]
          split
          · exact (by omega : (2 : Nat) ≠ 0)
          · exact h.nz _ (List.getElem_mem hi2)
        · rw [(jobR_setS h.srt hk x).2.2]
          refine h.par x hx1 hx2 ?_
          change upI g.st id 2 x ≠ 0 at hst
          by_cases e : x = id
          · subst e; omega
          · rwa [upI_other _ _ e] at hst
      have hw' : WF (relG g id (g.ch id)) := hw.rel h1
      refine ⟨?_, rfl, hsim⟩
      refine sorted_eq (sortI_strict ((hw.chN id hA).filter _)) ?_ fun x => ?_
      · unfold newly
        rw [List.pairwise_map]
        exact h.srt.filter _
      · rw [sortI_mem]
        unfold freed newly
        simp only [List.mem_filter, List.mem_map, Bool.and_eq_true, decide_eq_true_eq, Bool.not_eq_true']
        have st' : ∀ x, (relG g id (g.ch id)).st x = upI g.st id 2 x := fun _ => rfl
        have pd' : ∀ x, (relG g id (g.ch id)).pd x = if x ∈ g.ch id then g.pd x - 1 else g.pd x := fun _ => rfl
        constructor
        · rintro ⟨hx, h4, h5⟩
          have hxr := hw.chR id x hA hx
          obtain ⟨j, hj, rfl, _⟩ := h.ex hxr (by omega)
          refine ⟨j, ⟨hj, ?_, ?_⟩, rfl⟩
          · rw [h.free hw]
            cases hfx : isFree g j.id with
            | false => rfl
            | true => have := (isFree_iff.1 hfx).2.2; omega
          · rw [hsim.free hw', isFree_iff, st', pd', if_pos hx]
            refine ⟨hxr, ?_, h5⟩
            rw [upI_other _ _ fun e => hw.acyc id (.base (by rw [e] at hx; exact hx))]; exact h4
        · rintro ⟨j, ⟨hj, h4, h5⟩, rfl⟩
          rw [h.free hw] at h4
          rw [hsim.free hw', isFree_iff, st', pd'] at h5
          obtain ⟨h6, h7, h8⟩ := h5
          have hne : j.id ≠ id := fun e => by rw [e, upI_same] at h7; omega
          rw [upI_other _ _ hne] at h7
          by_cases hm : j.id ∈ g.ch id
          · rw [if_pos hm] at h8; exact ⟨hm, h7, h8⟩
          · rw [if_neg hm] at h8
            rw [isFree_iff.2 ⟨h6, h7, h8⟩] at h4; cases h4

theorem jobR_mk3 {js : List JobD} (h : js.Pairwise fun a b => a.id < b.id) (id : Int) (O : List Int) (x : Int) : (mk3 js id O).Pairwise (fun a b => a.id < b.id) ∧ (stR js x ≠ 0 → stR (mk3 js id O) x = if x = id ∨ x ∈ O then 3 else stR js x) ∧ (jobR js x = none → jobR (mk3 js id O) x = none) ∧ parR (mk3 js id O) x = parR js x := by
  have hget : ∀ i (hi : i < js.length), ((mk3 js id O)[i]'(by rw [mk3_len]; exact hi)).id = js[i].id ∧ ((mk3 js id O)[i]'(by rw [mk3_len]; exact hi)).par = js[i].par := fun i hi => by
    rw [mk3_get js id O hi]; split <;> exact ⟨rfl, rfl⟩
  have hs : (mk3 js id O).Pairwise (fun a b => a.id < b.id) := by
    rw [List.pairwise_iff_getElem]
    intro i j hi hj hij
    rw [mk3_len] at hi hj
    rw [(hget i hi).1, (hget j hj).1]
    exact (List.pairwise_iff_getElem.1 h) i j hi hj hij
  refine ⟨hs, ?_⟩
  cases hj : jobR js x with
  | none =>
    have hne := jobR_none_iff.1 hj
    have : jobR (mk3 js id O) x = none := jobR_none_iff.2 fun j hm => by
      obtain ⟨i, hi, rfl⟩ := List.mem_iff_getElem.1 hm
      rw [mk3_len] at hi
      rw [(hget i hi).1]; exact hne _ (List.getElem_mem hi)
    simp [stR, parR, hj, this]
  | some j =>
    obtain ⟨hm, hx⟩ := (jobR_iff h).1 hj
    obtain ⟨i, hi, rfl⟩ := List.mem_iff_getElem.1 hm
    have h2 : jobR (mk3 js id O) x = some ((mk3 js id O)[i]'(by rw [mk3_len]; exact hi)) := (jobR_iff hs).2 ⟨List.getElem_mem _, by rw [(hget i hi).1]; exact hx⟩
    refine ⟨fun _ => ?_, fun e => (by cases e), ?_⟩
    · unfold stR
      simp only [hj, h2]
      rw [mk3_get js id O hi, hx]
      split <;> rfl
    · unfold parR
      simp only [hj, h2]
      exact (hget i hi).2

theorem Sim.fails {g g' : G} {js js' : List JobD} {id : Int} {L L' : List Int} {e e' : Int} (hw : WF g) (h : Sim g js) (ha : FailR g id g' L e) (hb : FailRR js id js' L' e') : L = L' ∧ e = e' ∧ Sim g' js' := by
  have hn := h.none id
  have hst : inR id = true → stR js id = g.st id := fun hi => h.st id (inR_iff.1 hi).1 (inR_iff.1 hi).2
  cases ha with
  | none h1 =>
    cases hb with
    | none _ => exact ⟨rfl, rfl, h⟩
    | state h2 _ => exact absurd (hn.2 h1) h2
    | ok h2 p hp => rw [show stR js id = 0 by simp [stR, hn.2 h1]] at h2; omega
  | state h1 h2 =>
    cases hb with
    | none h3 => exact absurd h1 (hn.1 h3)
    | state _ _ => exact ⟨rfl, rfl, h⟩
    | ok h3 => rw [hst h1.1] at h3; exact absurd h3 h2
  | ok h1 B hB =>
    cases hb with
    | none h3 => exact absurd ⟨h1.1, by omega⟩ (hn.1 h3)
    | state _ h3 => rw [hst h1.1] at h3; exact absurd h1.2 h3
    | ok h3 p hp =>
      have hi := inR_iff.1 h1.1
      have hA : InA id := ⟨by omega, hi.2⟩
      have hL : B.filter (fun c => decide (g.st c = 1)) = (js.filter p).map (·.id) := by
        refine sorted_eq (hB.1.filter _) ?_ fun x => ?_
        · rw [List.pairwise_map]
          exact h.srt.filter _
        · simp only [List.mem_filter, List.mem_map, decide_eq_true_eq]
          constructor
          · rintro ⟨hx, h4⟩
            have hd := (hB.2 x).1 hx
            have hxr := hd.inR hw hA
            obtain ⟨j, hj, rfl, _⟩ := h.ex hxr (by omega)
            have hjj := h.job hj
            refine ⟨j, ⟨hj, (hp j hj).2 ⟨fun e => hw.acyc id (by rw [e] at hd; exact hd), by rw [← hjj.2.1]; exact h4, ?_⟩⟩, rfl⟩
            refine (h.up hw ((h.ok hw).par j hj) hi).2 ?_
            cases hd with
            | base hm =>
              have := (hw.link id j.id hA ⟨by omega, hxr.2⟩).1 hm
              exact .inl (by rw [← hjj.2.2.2]; exact this.2)
            | @step y _ hy hm =>
              have hyr := hy.inR hw hA
              have := (hw.link y j.id ⟨by omega, hyr.2⟩ ⟨by omega, hxr.2⟩).1 hm
              exact .inr ⟨y, by rw [← hjj.2.2.2]; exact this.2, hy⟩
          · rintro ⟨j, ⟨hj, hpj⟩, rfl⟩
            obtain ⟨h4, h5, h6⟩ := (hp j hj).1 hpj
            have hjj := h.job hj
            have hjr := h.ids j hj
            refine ⟨(hB.2 _).2 ?_, by rw [hjj.2.1]; exact h5⟩
            have hch : ∀ z, 1 ≤ z ∧ z ≤ 100 → z ∈ j.par → j.id ∈ g.ch z := fun z hz hm => (hw.link z j.id ⟨by omega, hz.2⟩ ⟨by omega, hjr.2⟩).2 ⟨hjj.2.2.1, by rw [hjj.2.2.2]; exact hm⟩
            rcases (h.up hw ((h.ok hw).par j hj) hi).1 h6 with h7 | ⟨z, hz, hd⟩
            · exact .base (hch id hi h7)
            · exact .step hd (hch z ((h.ok hw).par j hj z hz) hz)
      refine ⟨hL, rfl, ?_⟩
      rw [← hL]
      have hOm : ∀ x, x ∈ B.filter (fun c => decide (g.st c = 1)) ↔ x ∈ B ∧ g.st x = 1 := fun x => by simp
      refine ⟨(jobR_mk3 h.srt id _ 0).1, fun j hj => ?_, fun x hx1 hx2 => ?_, fun j hj => ?_, fun x hx1 hx2 hs => ?_⟩
      · obtain ⟨j0, hj0, e, _⟩ := mk3_ids js id _ j hj
        rw [e]; exact h.ids j0 hj0
      · show _ = if x = id ∨ (x ∈ B ∧ g.st x = 1) then 3 else g.st x
        have hm := jobR_mk3 h.srt id (B.filter fun c => decide (g.st c = 1)) x
        have hsx := h.st x hx1 hx2
        by_cases e : g.st x = 0
        · have h0 : jobR js x = Option.none := (h.none x).2 fun h => h.2 e
          have : stR (mk3 js id (B.filter fun c => decide (g.st c = 1))) x = 0 := by simp [stR, hm.2.2.1 h0]
          rw [this, if_neg, e]
          rintro (rfl | ⟨_, h5⟩) <;> omega
        · rw [hm.2.1 (by omega), hsx]
          simp only [hOm]
      · obtain ⟨j0, hj0, rfl⟩ := List.mem_map.1 hj
        split
        · exact (by omega : (3 : Nat) ≠ 0)
        · exact h.nz j0 hj0
      · rw [(jobR_mk3 h.srt id _ x).2.2.2]
        refine h.par x hx1 hx2 fun e => ?_
        change (if x = id ∨ (x ∈ B ∧ g.st x = 1) then 3 else g.st x) ≠ 0 at hs
        rw [if_neg] at hs
        · exact hs e
        · rintro (rfl | ⟨_, h5⟩) <;> omega

end Go.Proofs.Ytopefchiadmpaaa.Dag
