/-
  DagOrder: the plain law and the walk.
-/
import Derived.Test.YtopefchiadmpaaaDagJ
namespace Go.Proofs.Ytopefchiadmpaaa.Dag
open Go.Proofs.Ytopefchiadmpaaa.V Go.Proofs.Ytopefchiadmpaaa.T
set_option linter.all false
set_option linter.unusedVariables false
set_option linter.unusedSimpArgs false
set_option linter.unnecessarySimpa false

/-! ### the plain law -/
/-- T: the jobs that are there, in the order in which they came. -/
def TG (g : G) (T : List Int) : Prop := T.Nodup ∧ ∀ x, x ∈ T ↔ (1 ≤ x ∧ x ≤ 100) ∧ g.st x ≠ 0
theorem TG.nil : TG G0 [] := ⟨List.nodup_nil, fun x => ⟨fun h => (by cases h), fun h => absurd rfl h.2⟩⟩
theorem TG.len {g : G} {T : List Int} (h : TG g T) : T.length ≤ 100 := by
  have := len_of_sub (m := upto 100) h.1 fun x hx => upto_mem.2 ((h.2 x).1 hx).1
  rwa [upto_len] at this
theorem TG.add {g g' : G} {T ps : List Int} {id e : Int} {ok : Bool} (h : TG g T) (ha : AddR g id ps g' ok e) : (e = 0 → TG g' (T ++ [id])) ∧ (e ≠ 0 → g' = g) := by
  cases ha with
  | range _ => exact ⟨fun h => by omega, fun _ => rfl⟩
  | twice _ _ => exact ⟨fun h => by omega, fun _ => rfl⟩
  | cycle _ _ _ => exact ⟨fun h => by omega, fun _ => rfl⟩
  | state _ _ _ _ => exact ⟨fun h => by omega, fun _ => rfl⟩
  | ok hr h1 h2 h3 =>
    refine ⟨fun _ => ⟨?_, fun x => ?_⟩, fun h => absurd rfl h⟩
    · rw [List.nodup_append]
      exact ⟨h.1, by simp, fun a ha b hb e => by
        have : b = id := by simpa using hb
        subst this; subst e
        exact ((h.2 _).1 ha).2 h1⟩
    · have hid := inR_iff.1 hr.1
      rw [List.mem_append, List.mem_singleton, h.2]
      show _ ↔ _ ∧ upI g.st id 1 x ≠ 0
      by_cases e : x = id
      · subst e; rw [upI_same]; exact ⟨fun _ => ⟨hid, by omega⟩, fun _ => .inr rfl⟩
      · rw [upI_other _ _ e]; exact ⟨fun h => h.resolve_right e, .inl⟩

def okO (T out par : List Int) (x : Int) : Bool := (!decide (x ∈ out)) && par.all fun p => decide (p ∈ out) || !decide (p ∈ T)
def stepO (g : G) (T : List Int) (out : List Int) (x : Int) : List Int := if okO T out (g.par x) x then out ++ [x] else out
def Sub (T out : List Int) : Prop := out.Nodup ∧ ∀ x, x ∈ out → x ∈ T

theorem stepO_sub {g : G} {T out : List Int} {x : Int} (hx : x ∈ T) (h : Sub T out) : Sub T (stepO g T out x) := by
  unfold stepO
  split
  · rename_i hok
    have hn : x ∉ out := by
      unfold okO at hok
      rw [Bool.and_eq_true] at hok
      simpa using hok.1
    refine ⟨?_, fun y hy => ?_⟩
    · rw [List.nodup_append]
      exact ⟨h.1, by simp, fun a ha b hb e => by
        have : b = x := by simpa using hb
        subst this; subst e; exact hn ha⟩
    · rcases List.mem_append.1 hy with hy | hy
      · exact h.2 y hy
      · have : y = x := by simpa using hy
        exact this ▸ hx
  · exact h
theorem fold_sub {g : G} {T : List Int} : ∀ (L out : List Int), (∀ x, x ∈ L → x ∈ T) → Sub T out → Sub T (L.foldl (stepO g T) out)
  | [], out, _, h => h
  | x :: L, out, hL, h => fold_sub L _ (fun y hy => hL y (by simp [hy])) (stepO_sub (hL x (by simp)) h)
theorem stepO_keeps {g : G} {T out : List Int} {x y : Int} (h : y ∈ out) : y ∈ stepO g T out x := by
  unfold stepO
  split
  · exact List.mem_append_left _ h
  · exact h
theorem fold_keeps {g : G} {T : List Int} {y : Int} : ∀ (L out : List Int), y ∈ out → y ∈ L.foldl (stepO g T) out
  | [], _, h => h
  | x :: L, _, h => fold_keeps L _ (stepO_keeps h)
/-- the one whose parents are there gets in -/
theorem fold_takes {g : G} {T : List Int} {z : Int} : ∀ (L out : List Int), z ∈ L → (∀ p, p ∈ g.par z → p ∈ T → p ∈ out) → z ∈ L.foldl (stepO g T) out
  | [], _, h, _ => by cases h
  | x :: L, out, h, hp => by
    show z ∈ L.foldl (stepO g T) (stepO g T out x)
    by_cases e : x = z
    · subst e
      apply fold_keeps
      unfold stepO
      split
      · simp
      · rename_i hno
        apply Decidable.byContradiction
        intro hz
        apply hno
        unfold okO
        rw [Bool.and_eq_true, List.all_eq_true]
        refine ⟨by simpa using hz, fun p hpp => ?_⟩
        by_cases ht : p ∈ T
        · simp [hp p hpp ht]
        · simp [ht]
    · refine fold_takes L _ ?_ fun p h1 h2 => stepO_keeps (hp p h1 h2)
      cases h with
      | head => exact absurd rfl e
      | tail _ h => exact h

/-- among jobs that aren't taken there is one none of whose parents is among them -/
theorem minimal {g : G} (h : WF g) {S : List Int} (hS : ∀ x, x ∈ S → (1 ≤ x ∧ x ≤ 100) ∧ g.st x ≠ 0) (hne : S ≠ []) : ∃ z, z ∈ S ∧ ∀ p, p ∈ g.par z → p ∉ S := by
  apply Classical.byContradiction
  intro hno
  have hno' : ∀ z, z ∈ S → ∃ p, p ∈ g.par z ∧ p ∈ S := fun z hz => Classical.byContradiction fun h2 => hno ⟨z, hz, fun p hp hpS => h2 ⟨p, hp, hpS⟩⟩
  have hd : ∀ z p, z ∈ S → p ∈ g.par z → p ∈ S → Desc g.ch p z := fun z p hz hp hpS => by
    have h1 := hS z hz
    have h2 := hS p hpS
    exact .base ((h.link p z ⟨by omega, by omega⟩ ⟨by omega, by omega⟩).2 ⟨h1.2, hp⟩)
  -- chains of every length, all distinct
  have chain : ∀ n : Nat, ∃ L : List Int, L.length = n + 1 ∧ (∀ x, x ∈ L → x ∈ S) ∧ L.Pairwise (fun a b => Desc g.ch a b) := by
    intro n
    induction n with
    | zero =>
      obtain ⟨z, hz⟩ := List.exists_mem_of_ne_nil S hne
      exact ⟨[z], rfl, fun x hx => by simp at hx; exact hx ▸ hz, by simp⟩
    | succ n ih =>
      obtain ⟨L, hL, hin, hpw⟩ := ih
      match L, hL, hin, hpw with
      | a :: L, hL, hin, hpw =>
        obtain ⟨p, hp, hpS⟩ := hno' a (hin a (by simp))
        have hpa := hd a p (hin a (by simp)) hp hpS
        refine ⟨p :: a :: L, by simp at hL ⊢; omega, fun x hx => ?_, List.pairwise_cons.2 ⟨fun y hy => ?_, hpw⟩⟩
        · rcases List.mem_cons.1 hx with rfl | hx
          · exact hpS
          · exact hin x hx
        · rcases List.mem_cons.1 hy with rfl | hy
          · exact hpa
          · exact hpa.trans ((List.pairwise_cons.1 hpw).1 y hy)
  obtain ⟨L, hL, hin, hpw⟩ := chain S.length
  have hnd : L.Nodup := hpw.imp fun {a b} hab (e : a = b) => by subst e; exact h.acyc _ hab
  have := len_of_sub hnd hin
  omega

def Good (T : List Int) (t : Nat) (out : List Int) : Prop := Sub T out ∧ min t T.length ≤ out.length
theorem Good.turn {g : G} {T out : List Int} {t : Nat} (h : WF g) (hT : TG g T) (hg : Good T t out) : Good T (t + 1) (T.foldl (stepO g T) out) := by
  have hs := fold_sub (g := g) T out (fun x hx => hx) hg.1
  refine ⟨hs, ?_⟩
  have hk : ∀ y, y ∈ out → y ∈ T.foldl (stepO g T) out := fun y hy => fold_keeps T out hy
  have h1 := len_of_sub hg.1.1 hk
  have h2 := hg.2
  by_cases hfull : T.length ≤ out.length
  · omega
  · have hrest : (T.filter fun x => !decide (x ∈ out)) ≠ [] := fun e => by
      have h3 : ∀ x, x ∈ T → x ∈ out := fun x hx => Decidable.byContradiction fun hc => by
        have := List.filter_eq_nil_iff.1 e x hx
        simp [hc] at this
      have := len_of_sub hT.1 h3
      omega
    obtain ⟨z, hz, hzp⟩ := minimal h (S := T.filter fun x => !decide (x ∈ out)) (fun x hx => (hT.2 x).1 (List.mem_filter.1 hx).1) hrest
    have hzT := (List.mem_filter.1 hz).1
    have hzo : z ∉ out := by simpa using (List.mem_filter.1 hz).2
    have hin : z ∈ T.foldl (stepO g T) out := fold_takes T out hzT fun p hp hpT => Decidable.byContradiction fun hc => hzp p hp (List.mem_filter.2 ⟨hpT, by simpa using hc⟩)
    have h3 := len_of_sub (l := z :: out) (m := T.foldl (stepO g T) out) (List.nodup_cons.2 ⟨hzo, hg.1.1⟩) fun x hx => by
      rcases List.mem_cons.1 hx with rfl | hx
      · exact hin
      · exact hk x hx
    simp only [List.length_cons] at h3
    omega
theorem Good.zero (T : List Int) : Good T 0 [] := ⟨⟨List.nodup_nil, fun x h => by cases h⟩, by simp⟩
theorem Good.full {T out : List Int} (hT : T.Nodup) (h : Good T (T.length + 1) out) : out.length = T.length := by
  have h1 := len_of_sub h.1.1 h.1.2
  have h2 := h.2
  omega

end Go.Proofs.Ytopefchiadmpaaa.Dag
