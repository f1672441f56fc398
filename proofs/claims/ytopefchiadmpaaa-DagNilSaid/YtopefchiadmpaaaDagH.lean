/-
  What Add and Done leave is well formed again. No Go in sight.
-/
import Derived.Test.YtopefchiadmpaaaDagF
import Derived.Test.YtopefchiadmpaaaDagE
namespace Go.Proofs.Ytopefchiadmpaaa.Dag
open Go.Proofs.Ytopefchiadmpaaa.V Go.Proofs.Ytopefchiadmpaaa.T
set_option linter.all false
set_option linter.unusedVariables false
set_option linter.unusedSimpArgs false
set_option linter.unnecessarySimpa false

theorem Desc.trans {ch : Int → List Int} {a b c : Int} (h : Desc ch a b) (h' : Desc ch b c) : Desc ch a c := by
  induction h' with
  | base hx => exact .step h hx
  | step _ hx ih => exact .step ih hx

/-- the parents that Add keeps -/
def ded (ps : List Int) : List Int := dedI (sortI ps)
theorem ded_mem (ps : List Int) (x : Int) : x ∈ ded ps ↔ x ∈ ps := by
  unfold ded
  rw [(dedI_spec (sortI_sorted ps)).2.1, sortI_mem]
theorem ded_sorted (ps : List Int) : (ded ps).Pairwise (· < ·) := (dedI_spec (sortI_sorted ps)).1

theorem addG_desc {g : G} {id : Int} {l : List Int} {a x : Int} (h : Desc (addG g id l).ch a x) :
    Desc g.ch a x ∨ ((a ∈ l ∨ ∃ p, p ∈ l ∧ Desc g.ch a p) ∧ (x = id ∨ Desc g.ch id x)) := by
  have key : ∀ y z, z ∈ (addG g id l).ch y → z ∈ g.ch y ∨ (y ∈ l ∧ z = id) := fun y z hz => by
    change z ∈ (if y ∈ l then g.ch y ++ [id] else g.ch y) at hz
    split at hz
    · rename_i hy
      rcases List.mem_append.1 hz with hz | hz
      · exact .inl hz
      · exact .inr ⟨hy, by simpa using hz⟩
    · exact .inl hz
  induction h with
  | base hx =>
    rcases key _ _ hx with hx | ⟨hy, rfl⟩
    · exact .inl (.base hx)
    · exact .inr ⟨.inl hy, .inl rfl⟩
  | step hy hx ih =>
    rcases key _ _ hx with hz | ⟨hyl, rfl⟩
    · rcases ih with ih | ⟨h1, h2 | h2⟩
      · exact .inl (.step ih hz)
      · exact .inr ⟨h1, .inr (.base (h2 ▸ hz))⟩
      · exact .inr ⟨h1, .inr (.step h2 hz)⟩
    · rcases ih with ih | ⟨h1, h2⟩
      · exact .inr ⟨.inr ⟨_, hyl, ih⟩, .inl rfl⟩
      · exact .inr ⟨h1, .inl rfl⟩

theorem WF.add {g g' : G} {id : Int} {ps : List Int} {ok : Bool} {e : Int} (h : WF g) (ha : AddR g id ps g' ok e) : WF g' := by
  cases ha with
  | range _ => exact h
  | twice _ _ => exact h
  | cycle _ _ _ => exact h
  | state _ _ _ _ => exact h
  | ok hr h1 h2 h3 =>
    have hidR := inR_iff.1 hr.1
    have hA : InA id := ⟨by omega, by omega⟩
    have hlR : ∀ p, p ∈ ded ps → 1 ≤ p ∧ p ≤ 100 := fun p hp => inR_iff.1 (List.all_eq_true.1 hr.2 p ((ded_mem ps p).1 hp))
    have h2' : ∀ p, p ∈ ded ps → p ≠ id ∧ ¬ Desc g.ch id p := h2
    have h3' : ∀ p, p ∈ ded ps → g.st p ≠ 3 := h3
    change WF (addG g id (ded ps))
    have hs := ded_sorted ps
    generalize ded ps = l at *
    have hchid : ∀ p, InA p → id ∉ g.ch p := fun p hp hc => ((h.link p id hp hA).1 hc).1 h1
    have hchild : ∀ c, InA c → c ∈ g.ch id → g.st c = 1 ∨ g.st c = 3 := fun c hc hm => by
      have h5 := (h.link id c hA hc).1 hm
      have h6 := h.st3 c
      have h7 : g.st c ≠ 2 := fun e => by have := h.done id c hc e h5.2; omega
      omega
    have stO : ∀ j, j ≠ id → (addG g id l).st j = g.st j := fun j hj => upI_other _ _ hj
    have stI : (addG g id l).st id = 1 := upI_same _ _ _
    have parO : ∀ j, j ≠ id → (addG g id l).par j = g.par j := fun j hj => upI_other _ _ hj
    have parI : (addG g id l).par id = l := upI_same _ _ _
    have st2 : ∀ p, ((addG g id l).st p ≠ 2) ↔ g.st p ≠ 2 := fun p => by
      by_cases e : p = id
      · subst e; rw [stI, h1]; simp
      · rw [stO p e]
    refine ⟨?_, fun i => ?_, fun i c hi hc => ?_, fun i hi => ?_, fun p c hp hc => ?_, fun c hc hst p hp => ?_, fun c hc hst => ?_, fun c hc hst => ?_, fun i hd => ?_, fun p c hp h3p hc => ?_, fun p c hc h2c hp => ?_⟩
    · rw [stO 0 (by omega)]; exact h.st0
    · by_cases e : i = id
      · rw [e, stI]; omega
      · rw [stO i e]; exact h.st3 i
    · change c ∈ (if i ∈ l then g.ch i ++ [id] else g.ch i) at hc
      split at hc
      · rcases List.mem_append.1 hc with hc | hc
        · exact h.chR i c hi hc
        · have : c = id := by simpa using hc
          omega
      · exact h.chR i c hi hc
    · show (if i ∈ l then g.ch i ++ [id] else g.ch i).Nodup
      split
      · rw [List.nodup_append]
        exact ⟨h.chN i hi, by simp, fun a ha b hb e => by
          have : b = id := by simpa using hb
          exact hchid i hi (by rw [← this, ← e]; exact ha)⟩
      · exact h.chN i hi
    · show c ∈ (if p ∈ l then g.ch p ++ [id] else g.ch p) ↔ _
      have hmem : c ∈ (if p ∈ l then g.ch p ++ [id] else g.ch p) ↔ c ∈ g.ch p ∨ (p ∈ l ∧ c = id) := by
        split
        · rename_i hpl; simp [hpl]
        · rename_i hpl; simp [hpl]
      rw [hmem]
      by_cases e : c = id
      · subst e
        rw [stI, parI]
        exact ⟨fun h5 => ⟨by omega, (h5.resolve_left (hchid p hp)).1⟩, fun h5 => .inr ⟨h5.2, rfl⟩⟩
      · rw [stO c e, parO c e, ← h.link p c hp hc]
        exact ⟨fun h5 => h5.resolve_right fun h6 => e h6.2, .inl⟩
    · by_cases e : c = id
      · subst e; rw [parI] at hp; exact hlR p hp
      · rw [stO c e] at hst; rw [parO c e] at hp; exact h.parR c hc hst p hp
    · by_cases e : c = id
      · subst e; rw [parI]; exact hs
      · rw [stO c e] at hst; rw [parO c e]; exact h.parS c hc hst
    · have hf : ∀ L : List Int, (L.filter fun p => decide ((addG g id l).st p ≠ 2)) = L.filter fun p => decide (g.st p ≠ 2) := fun L => List.filter_congr fun p _ => by
        have := st2 p
        simp only [this]
      rw [hf]
      by_cases e : c = id
      · subst e
        rw [parI]
        exact upI_same _ _ _
      · rw [stO c e] at hst; rw [parO c e]
        exact (upI_other _ _ e).trans (h.pd c hc hst)
    · rcases addG_desc hd with hd | ⟨h5, h6⟩
      · exact h.acyc i hd
      · rcases h6 with rfl | h6
        · rcases h5 with h5 | ⟨p, hp, h5⟩
          · exact (h2' _ h5).1 rfl
          · exact (h2' p hp).2 h5
        · rcases h5 with h5 | ⟨p, hp, h5⟩
          · exact (h2' _ h5).2 h6
          · exact (h2' p hp).2 (h6.trans h5)
    · by_cases e : p = id
      · subst e; rw [stI] at h3p; omega
      · rw [stO p e] at h3p
        change c ∈ (if p ∈ l then g.ch p ++ [id] else g.ch p) at hc
        split at hc
        · rename_i hpl; exact absurd h3p (h3' p hpl)
        · have := h.fail p c hp h3p hc
          rw [stO c fun e => by subst e; exact hchid p hp hc]
          exact this
    · by_cases e : c = id
      · subst e; rw [stI] at h2c; omega
      · rw [stO c e] at h2c; rw [parO c e] at hp
        have h5 := h.done p c hc h2c hp
        rw [stO p fun e => by subst e; omega]
        exact h5

theorem cnt_done {st : Int → Nat} {id : Int} (h : st id ≠ 2) : ∀ L : List Int, L.Nodup →
    (L.filter fun p => decide (st p ≠ 2)).length = (L.filter fun p => decide (upI st id 2 p ≠ 2)).length + if id ∈ L then 1 else 0
  | [], _ => rfl
  | a :: L, hn => by
    have ih := cnt_done h L (List.nodup_cons.1 hn).2
    have hna := (List.nodup_cons.1 hn).1
    by_cases e : a = id
    · subst e
      rw [List.filter_cons_of_pos (by simpa using h), List.filter_cons_of_neg (by simp [upI_same])]
      rw [if_neg hna] at ih
      rw [List.length_cons, if_pos (by simp)]
      omega
    · have hm : (id ∈ a :: L) ↔ id ∈ L := by rw [List.mem_cons]; exact ⟨fun h5 => h5.resolve_left fun h6 => e h6.symm, .inr⟩
      simp only [hm]
      by_cases e2 : st a = 2
      · rw [List.filter_cons_of_neg (by simpa using e2), List.filter_cons_of_neg (by simpa [upI_other _ _ e] using e2)]
        exact ih
      · rw [List.filter_cons_of_pos (by simpa using e2), List.filter_cons_of_pos (by simpa [upI_other _ _ e] using e2)]
        simp only [List.length_cons]
        omega

theorem nodup_of_sorted {l : List Int} (h : l.Pairwise (· < ·)) : l.Nodup := h.imp fun h e => by omega

theorem WF.rel {g : G} {id : Int} (h : WF g) (hf : isFree g id = true) : WF (relG g id (g.ch id)) := by
  obtain ⟨hid, hst1, hpd0⟩ := isFree_iff.1 hf
  have hA : InA id := ⟨by omega, by omega⟩
  have stO : ∀ j, j ≠ id → (relG g id (g.ch id)).st j = g.st j := fun j hj => upI_other _ _ hj
  have stI : (relG g id (g.ch id)).st id = 2 := upI_same _ _ _
  have st0 : ∀ j, ((relG g id (g.ch id)).st j ≠ 0) ↔ g.st j ≠ 0 := fun j => by
    by_cases e : j = id
    · subst e; rw [stI]; omega
    · rw [stO j e]
  have hall : ∀ p, p ∈ g.par id → g.st p = 2 := fun p hp => by
    have h5 := h.pd id hA (by omega)
    rw [hpd0] at h5
    have h6 : (g.par id).filter (fun p => decide (g.st p ≠ 2)) = [] := List.eq_nil_of_length_eq_zero (by omega)
    have := List.filter_eq_nil_iff.1 h6 p hp
    simpa using this
  refine ⟨?_, fun i => ?_, h.chR, h.chN, fun p c hp hc => ?_, fun c hc hst => h.parR c hc ((st0 c).1 hst), fun c hc hst => h.parS c hc ((st0 c).1 hst), fun c hc hst => ?_, h.acyc, fun p c hp h3p hc => ?_, fun p c hc h2c hp => ?_⟩
  · rw [stO 0 (by omega)]; exact h.st0
  · by_cases e : i = id
    · rw [e, stI]; omega
    · rw [stO i e]; exact h.st3 i
  · rw [st0 c]; exact h.link p c hp hc
  · have hst' := (st0 c).1 hst
    have h5 := cnt_done (st := g.st) (id := id) (by omega) (g.par c) (nodup_of_sorted (h.parS c hc hst'))
    have h6 := h.pd c hc hst'
    have h7 := h.link id c hA hc
    show (if c ∈ g.ch id then g.pd c - 1 else g.pd c) = _
    change _ = (((g.par c).filter fun p => decide (upI g.st id 2 p ≠ 2)).length : Int)
    by_cases e : c ∈ g.ch id
    · rw [if_pos e, h6]; rw [if_pos (h7.1 e).2] at h5; omega
    · rw [if_neg e, h6]; rw [if_neg fun hm => e (h7.2 ⟨hst', hm⟩)] at h5; omega
  · by_cases e : p = id
    · subst e; rw [stI] at h3p; omega
    · rw [stO p e] at h3p
      have := h.fail p c hp h3p hc
      rw [stO c fun e => by subst e; omega]; exact this
  · by_cases e : p = id
    · rw [e]; exact stI
    · rw [stO p e]
      by_cases e2 : c = id
      · subst e2; exact hall p hp
      · rw [stO c e2] at h2c; exact h.done p c hc h2c hp

theorem WF.doneR {g g' : G} {id e : Int} {L : List Int} (h : WF g) (hd : DoneR g id g' L e) : WF g' := by
  cases hd with
  | none _ => exact h
  | state _ _ => exact h
  | ok hf => exact h.rel hf

/-! ### Fail -/
def failG (g : G) (id : Int) (B : List Int) : G := { g with st := fun j => if j = id ∨ (j ∈ B ∧ g.st j = 1) then 3 else g.st j }

theorem WF.below {g : G} (h : WF g) {id : Int} (hA : InA id) (h2 : g.st id ≠ 2) {x : Int} (hd : Desc g.ch id x) : g.st x = 1 ∨ g.st x = 3 := by
  have key : ∀ y z, InA y → g.st y ≠ 2 → z ∈ g.ch y → g.st z = 1 ∨ g.st z = 3 := fun y z hy hy2 hz => by
    have hzR := h.chR y z hy hz
    have h5 := (h.link y z hy ⟨by omega, by omega⟩).1 hz
    have h6 := h.st3 z
    have h7 : g.st z ≠ 2 := fun e => hy2 (h.done y z ⟨by omega, by omega⟩ e h5.2)
    omega
  induction hd with
  | base hx => exact key _ _ hA h2 hx
  | step hy hx ih =>
    have := hy.inR h hA
    exact key _ _ ⟨by omega, by omega⟩ (by omega) hx

theorem WF.failed {g : G} {id : Int} {B : List Int} (h : WF g) (hid : 1 ≤ id ∧ id ≤ 100) (h1 : g.st id = 1) (hB : ∀ x, x ∈ B ↔ Desc g.ch id x) : WF (failG g id B) := by
  have hA : InA id := ⟨by omega, by omega⟩
  have st0 : ∀ j, ((failG g id B).st j ≠ 0) ↔ g.st j ≠ 0 := fun j => by
    show (if j = id ∨ (j ∈ B ∧ g.st j = 1) then 3 else g.st j) ≠ 0 ↔ _
    split
    · rename_i h5
      rcases h5 with rfl | h5 <;> omega
    · exact Iff.rfl
  have st2 : ∀ j, ((failG g id B).st j = 2) ↔ g.st j = 2 := fun j => by
    show (if j = id ∨ (j ∈ B ∧ g.st j = 1) then 3 else g.st j) = 2 ↔ _
    split
    · rename_i h5
      rcases h5 with rfl | h5 <;> omega
    · exact Iff.rfl
  refine ⟨?_, fun i => ?_, h.chR, h.chN, fun p c hp hc => ?_, fun c hc hst => h.parR c hc ((st0 c).1 hst), fun c hc hst => h.parS c hc ((st0 c).1 hst), fun c hc hst => ?_, h.acyc, fun p c hp h3p hc => ?_, fun p c hc h2c hp => ?_⟩
  · exact Decidable.byContradiction fun hc => (st0 0).1 hc h.st0
  · show (if i = id ∨ (i ∈ B ∧ g.st i = 1) then 3 else g.st i) ≤ 3
    split
    · exact Nat.le_refl _
    · exact h.st3 i
  · rw [st0 c]; exact h.link p c hp hc
  · have hf : ((g.par c).filter fun p => decide ((failG g id B).st p ≠ 2)) = (g.par c).filter fun p => decide (g.st p ≠ 2) := List.filter_congr fun p _ => by
      have := st2 p
      simp only [ne_eq, this]
    show g.pd c = (((g.par c).filter fun p => decide ((failG g id B).st p ≠ 2)).length : Int)
    rw [hf]
    exact h.pd c hc ((st0 c).1 hst)
  · change (if p = id ∨ (p ∈ B ∧ g.st p = 1) then 3 else g.st p) = 3 at h3p
    show (if c = id ∨ (c ∈ B ∧ g.st c = 1) then 3 else g.st c) = 3
    have hcd : (p = id ∨ p ∈ B) → Desc g.ch id c := fun h5 => by
      rcases h5 with rfl | h5
      · exact .base hc
      · exact .step ((hB p).1 h5) hc
    have fin : (p = id ∨ p ∈ B) → (if c = id ∨ (c ∈ B ∧ g.st c = 1) then 3 else g.st c) = 3 := fun h5 => by
      have h6 := hcd h5
      split
      · rfl
      · rename_i h7
        rcases h.below hA (by omega) h6 with h8 | h8
        · exact absurd (.inr ⟨(hB c).2 h6, h8⟩) h7
        · exact h8
    split at h3p
    · rename_i h5
      exact fin (h5.imp (fun h => h) fun h => h.1)
    · rw [h.fail p c hp h3p hc]; simp
  · exact (st2 p).2 (h.done p c hc ((st2 c).1 h2c) hp)

inductive FailR (g : G) (id : Int) : G → List Int → Int → Prop
  | none (h : ¬ (inR id = true ∧ g.st id ≠ 0)) : FailR g id g [] 3
  | state (h : inR id = true ∧ g.st id ≠ 0) (h1 : g.st id ≠ 1) : FailR g id g [] 10
  | ok (h1 : inR id = true ∧ g.st id = 1) (B : List Int) (hB : IsBelow g.ch id B) : FailR g id (failG g id B) (B.filter fun c => decide (g.st c = 1)) 0
theorem WF.failR {g g' : G} {id e : Int} {L : List Int} (h : WF g) (hd : FailR g id g' L e) : WF g' := by
  cases hd with
  | none _ => exact h
  | state _ _ => exact h
  | ok h1 B hB => exact h.failed (inR_iff.1 h1.1) h1.2 hB.2

end Go.Proofs.Ytopefchiadmpaaa.Dag
