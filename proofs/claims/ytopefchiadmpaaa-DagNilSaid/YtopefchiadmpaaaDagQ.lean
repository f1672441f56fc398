/-
  Graphs that are built in order of their numbers: the plain laws of DagReleases and DagFails.
-/
import Derived.Test.YtopefchiadmpaaaDagJ
import Derived.Test.YtopefchiadmpaaaVOpen
namespace Go.Proofs.Ytopefchiadmpaaa.Dag
open Go.Proofs.Ytopefchiadmpaaa.V Go.Proofs.Ytopefchiadmpaaa.T
set_option linter.all false
set_option linter.unusedVariables false
set_option linter.unusedSimpArgs false
set_option linter.unnecessarySimpa false

/-- after n jobs, each with parents of lesser numbers -/
structure LG (g : G) (n : Nat) : Prop where
  wf : WF g
  st : ∀ j : Int, 1 ≤ j → j ≤ 100 → g.st j = if j ≤ n then 1 else 0
  par : ∀ j : Int, 1 ≤ j → j ≤ n → ∀ p, p ∈ g.par j → p < j

theorem LG.zero : LG G0 0 := ⟨WF0, fun j h1 _ => by rw [if_neg (by omega)]; rfl, fun j h1 h2 => by omega⟩

theorem LG.add {g g' : G} {n : Nat} {ps : List Int} {ok : Bool} {e : Int} (h : LG g n) (hn : n < 100) (hps : ∀ p, p ∈ ps → 1 ≤ p ∧ p ≤ n) (ha : AddR g ((n : Int) + 1) ps g' ok e) :
    e = 0 ∧ ok = decide (ps.length = 0) ∧ LG g' (n + 1) ∧ ∀ x, isFree g' x = if x = (n : Int) + 1 then ok else isFree g x := by
  have hwf := h.wf.add ha
  have hidA : InA ((n : Int) + 1) := ⟨by omega, by omega⟩
  have hid : inR ((n : Int) + 1) = true := inR_iff.2 (by omega)
  have hst : g.st ((n : Int) + 1) = 0 := by rw [h.st _ (by omega) (by omega), if_neg (by omega)]
  have hall : ps.all inR = true := List.all_eq_true.2 fun p hp => inR_iff.2 (by have := hps p hp; omega)
  have hch : g.ch ((n : Int) + 1) = [] := List.eq_nil_iff_forall_not_mem.2 fun c hc => by
    have hr := h.wf.chR _ c hidA hc
    have hl := (h.wf.link _ c hidA ⟨by omega, by omega⟩).1 hc
    have hs := h.st c hr.1 hr.2
    have hcn : c ≤ n := by
      apply Decidable.byContradiction
      intro hgt
      rw [if_neg hgt] at hs
      exact hl.1 hs
    have := h.par c hr.1 hcn _ hl.2
    omega
  have hnd : ∀ x, ¬ Desc g.ch ((n : Int) + 1) x := fun x hd => by
    have : ∀ a y, Desc g.ch a y → g.ch a ≠ [] := by
      intro a y hd
      induction hd with
      | base hx => exact fun e => by rw [e] at hx; cases hx
      | step _ _ ih => exact ih
    exact this _ _ hd hch
  have hps' : ∀ p, p ∈ ded ps → 1 ≤ p ∧ p ≤ n := fun p hp => hps p ((ded_mem ps p).1 hp)
  have hst1 : ∀ p, p ∈ ded ps → g.st p = 1 := fun p hp => by
    have := hps' p hp
    rw [h.st p this.1 (by omega), if_pos this.2]
  cases ha with
  | range hr => exact absurd ⟨hid, hall⟩ hr
  | twice _ hr => exact absurd hst hr
  | cycle _ _ hc =>
    obtain ⟨p, hp, hc⟩ := hc
    have := hps' p hp
    rcases hc with hc | hc
    · omega
    · exact absurd hc (hnd p)
  | state _ _ _ hc =>
    obtain ⟨p, hp, hc⟩ := hc
    have := hst1 p hp
    omega
  | ok _ _ _ _ =>
    have hfil : ((dedI (sortI ps)).filter fun p => decide (g.st p ≠ 2)).length = (ded ps).length := by
      show ((ded ps).filter _).length = _
      rw [List.filter_eq_self.2 fun p hp => by have := hst1 p hp; simp [this]]
    have hlen : (ded ps).length = 0 ↔ ps.length = 0 := by
      constructor
      · intro h0
        have h1 := List.eq_nil_of_length_eq_zero h0
        have : ps = [] := List.eq_nil_iff_forall_not_mem.2 fun x hx => by
          have := (ded_mem ps x).2 hx
          rw [h1] at this; cases this
        rw [this]; rfl
      · intro h0
        have h1 := List.eq_nil_of_length_eq_zero h0
        have : ded ps = [] := List.eq_nil_iff_forall_not_mem.2 fun x hx => by
          have := (ded_mem ps x).1 hx
          rw [h1] at this; cases this
        rw [this]; rfl
    have hok : decide (((dedI (sortI ps)).filter fun p => decide (g.st p ≠ 2)).length = 0) = decide (ps.length = 0) := by
      rw [hfil]; exact decide_eq_decide.2 hlen
    refine ⟨rfl, hok, ⟨hwf, fun j h1 h2 => ?_, fun j h1 h2 p hp => ?_⟩, fun x => ?_⟩
    · show upI g.st ((n : Int) + 1) 1 j = _
      by_cases e : j = (n : Int) + 1
      · subst e; rw [upI_same, if_pos (by omega)]
      · rw [upI_other _ _ e, h.st j h1 h2]
        by_cases hj : j ≤ n
        · rw [if_pos hj, if_pos (by omega)]
        · rw [if_neg hj, if_neg (by omega)]
    · change p ∈ upI g.par ((n : Int) + 1) (ded ps) j at hp
      by_cases e : j = (n : Int) + 1
      · subst e; rw [upI_same] at hp; have := hps' p hp; omega
      · rw [upI_other _ _ e] at hp; exact h.par j h1 (by omega) p hp
    · by_cases e : x = (n : Int) + 1
      · subst e
        rw [if_pos rfl]
        unfold isFree
        rw [hid]
        show (true && decide (upI g.st _ 1 _ = 1) && decide (upI g.pd _ _ _ = 0)) = _
        rw [upI_same, upI_same]
        simp only [decide_true, Bool.true_and]
        exact decide_eq_decide.2 (by omega)
      · rw [if_neg e]
        unfold isFree
        show (inR x && decide (upI g.st _ 1 x = 1) && decide (upI g.pd _ _ x = 0)) = _
        rw [upI_other _ _ e, upI_other _ _ e]

/-! ### DagReleases -/
/-- i of the free ones are done -/
structure RL (g : G) (n i : Nat) (free : List Int) : Prop where
  wf : WF g
  nd : free.Nodup
  ile : i ≤ free.length
  inn : ∀ x, x ∈ free → 1 ≤ x ∧ x ≤ n
  st : ∀ j : Int, 1 ≤ j → j ≤ n → g.st j = 1 ∨ g.st j = 2
  out : ∀ j : Int, 1 ≤ j → j ≤ 100 → (n : Int) < j → g.st j = 0
  dn : ∀ x : Int, 1 ≤ x → x ≤ n → (g.st x = 2 ↔ x ∈ free.take i)
  fr : ∀ x, isFree g x = true ↔ x ∈ free.drop i
  par : ∀ j : Int, 1 ≤ j → j ≤ n → ∀ p, p ∈ g.par j → p < j

theorem RL.start {g : G} {n : Nat} {free : List Int} (h : LG g n) (hn : n ≤ 100) (hnd : free.Nodup) (hf : ∀ x, isFree g x = true ↔ x ∈ free) : RL g n 0 free := by
  refine ⟨h.wf, hnd, Nat.zero_le _, fun x hx => ?_, fun j h1 h2 => ?_, fun j h1 h2 h3 => ?_, fun x h1 h2 => ?_, fun x => by rw [List.drop_zero]; exact hf x, h.par⟩
  · obtain ⟨h1, h2, _⟩ := isFree_iff.1 ((hf x).2 hx)
    have := h.st x h1.1 h1.2
    by_cases hx : x ≤ n
    · exact ⟨h1.1, hx⟩
    · rw [if_neg hx] at this; omega
  · left; rw [h.st j h1 (by omega), if_pos h2]
  · rw [h.st j h1 h2, if_neg (by omega)]
  · rw [h.st x h1 (by omega), if_pos h2]; simp

theorem RL.step {g g' : G} {n i : Nat} {free L : List Int} {e : Int} (h : RL g n i free) (hn : n ≤ 100) (hi : i < free.length) (hd : DoneR g free[i] g' L e) :
    e = 0 ∧ L.Nodup ∧ (∀ c, c ∈ L → c ∉ free ∧ isFree g' c = true) ∧ RL g' n (i + 1) (free ++ L) := by
  have hmem : free[i] ∈ free.drop i := by
    rw [List.drop_eq_getElem_cons hi]; exact List.mem_cons_self
  have hfree := (h.fr _).2 hmem
  have hwf' := h.wf.doneR hd
  have htk : free.take (i + 1) = free.take i ++ [free[i]] := List.take_succ_eq_append_getElem hi
  have hdr : free.drop i = free[i] :: free.drop (i + 1) := List.drop_eq_getElem_cons hi
  have hnd2 : (free.take i ++ free.drop i).Nodup := by rw [List.take_append_drop]; exact h.nd
  rw [hdr] at hnd2 hmem
  generalize hx : free[i] = id at *
  obtain ⟨hid, hst1, hpd0⟩ := isFree_iff.1 hfree
  have hA : InA id := ⟨by omega, by omega⟩
  cases hd with
  | none hno => exact absurd ⟨inR_iff.2 hid, by omega⟩ hno
  | state _ hno => rw [hfree] at hno; cases hno
  | ok _ =>
    have hL : ∀ c, c ∈ sortI (freed g (g.ch id)) ↔ c ∈ g.ch id ∧ g.st c = 1 ∧ g.pd c = 1 := fun c => by
      rw [sortI_mem]
      unfold freed
      rw [List.mem_filter]
      simp only [Bool.and_eq_true, decide_eq_true_eq]
      exact ⟨fun ⟨a, b, c⟩ => ⟨a, b, by omega⟩, fun ⟨a, b, c⟩ => ⟨a, b, by omega⟩⟩
    have hLnd : (sortI (freed g (g.ch id))).Nodup := by
      have h1 : (freed g (g.ch id)).Nodup := (h.wf.chN id hA).sublist List.filter_sublist
      exact (List.mergeSort_perm _ _).symm.nodup h1
    generalize sortI (freed g (g.ch id)) = L at *
    have hpR : ∀ c, c ∈ g.ch id → 1 ≤ c ∧ c ≤ 100 := fun c hc => h.wf.chR id c hA hc
    have hcid : ∀ c, c ∈ g.ch id → c ≠ id := fun c hc e => by subst e; exact h.wf.acyc _ (.base hc)
    have stI : (relG g id (g.ch id)).st id = 2 := upI_same _ _ _
    have stO : ∀ j, j ≠ id → (relG g id (g.ch id)).st j = g.st j := fun j hj => upI_other _ _ hj
    have pdC : ∀ c, c ∈ g.ch id → (relG g id (g.ch id)).pd c = g.pd c - 1 := fun c hc => if_pos hc
    have pdO : ∀ c, c ∉ g.ch id → (relG g id (g.ch id)).pd c = g.pd c := fun c hc => if_neg hc
    have hLn : ∀ c, c ∈ L → c ∉ free := fun c hc hcf => by
      obtain ⟨h1, h2, h3⟩ := (hL c).1 hc
      have hcr := h.inn c hcf
      rw [← List.take_append_drop i free] at hcf
      rcases List.mem_append.1 hcf with hcf | hcf
      · have := (h.dn c hcr.1 hcr.2).2 hcf; omega
      · have := (isFree_iff.1 ((h.fr c).2 hcf)).2.2; omega
    have hLf : ∀ c, c ∈ L → isFree (relG g id (g.ch id)) c = true := fun c hc => by
      obtain ⟨h1, h2, h3⟩ := (hL c).1 hc
      exact isFree_iff.2 ⟨hpR c h1, by rw [stO c (hcid c h1)]; exact h2, by rw [pdC c h1]; omega⟩
    have hnin : id ∉ free.take i ∧ id ∉ free.drop (i + 1) := by
      rw [List.nodup_append] at hnd2
      obtain ⟨_, h2, h3⟩ := hnd2
      exact ⟨fun hm => h3 id hm id (by simp) rfl, (List.nodup_cons.1 h2).1⟩
    have hidn := h.inn id (by rw [← hx]; exact List.getElem_mem hi)
    refine ⟨rfl, hLnd, fun c hc => ⟨hLn c hc, hLf c hc⟩, ⟨hwf', ?_, by simp; omega, fun x hx => ?_, fun j h1 h2 => ?_, fun j h1 h2 h3 => ?_, fun x h1 h2 => ?_, fun x => ?_, h.par⟩⟩
    · rw [List.nodup_append]
      exact ⟨h.nd, hLnd, fun a ha b hb e => hLn b hb (e ▸ ha)⟩
    · rcases List.mem_append.1 hx with hx | hx
      · exact h.inn x hx
      · obtain ⟨h1, h2, _⟩ := (hL x).1 hx
        have h3 := hpR x h1
        by_cases hxn : x ≤ n
        · exact ⟨h3.1, hxn⟩
        · have := h.out x h3.1 h3.2 (by omega); omega
    · by_cases e : j = id
      · subst e; exact .inr stI
      · rw [stO j e]; exact h.st j h1 h2
    · rw [stO j (by omega)]; exact h.out j h1 h2 h3
    · rw [List.take_append_of_le_length (by omega), htk, List.mem_append, List.mem_singleton]
      by_cases e : x = id
      · subst e; exact ⟨fun _ => .inr rfl, fun _ => stI⟩
      · rw [stO x e, h.dn x h1 h2]
        exact ⟨.inl, fun h => h.resolve_right e⟩
    · rw [List.drop_append_of_le_length (by omega), List.mem_append]
      constructor
      · intro hf
        obtain ⟨h1, h2, h3⟩ := isFree_iff.1 hf
        have hxi : x ≠ id := fun e => by subst e; rw [stI] at h2; omega
        rw [stO x hxi] at h2
        by_cases hc : x ∈ g.ch id
        · rw [pdC x hc] at h3
          exact .inr ((hL x).2 ⟨hc, h2, by omega⟩)
        · rw [pdO x hc] at h3
          have := (h.fr x).1 (isFree_iff.2 ⟨h1, h2, h3⟩)
          rw [hdr] at this
          exact .inl ((List.mem_cons.1 this).resolve_left hxi)
      · rintro (hm | hm)
        · have hxi : x ≠ id := fun e => by subst e; exact hnin.2 hm
          obtain ⟨h1, h2, h3⟩ := isFree_iff.1 ((h.fr x).2 (by rw [hdr]; exact List.mem_cons_of_mem _ hm))
          have hc : x ∉ g.ch id := fun hc => by
            have hxA : InA x := ⟨by omega, by omega⟩
            have h5 := h.wf.pd x hxA (by omega)
            have h6 := ((h.wf.link id x hA hxA).1 hc).2
            have h7 : id ∈ (g.par x).filter fun p => decide (g.st p ≠ 2) := List.mem_filter.2 ⟨h6, by simp [hst1]⟩
            have := List.length_pos_of_mem h7
            omega
          exact isFree_iff.2 ⟨h1, by rw [stO x hxi]; exact h2, by rw [pdO x hc]; exact h3⟩
        · exact hLf x hm

theorem RL.fin {g : G} {n : Nat} {free : List Int} (h : RL g n free.length free) (hn : n ≤ 100) : free.length = n := by
  have hnofree : ∀ x, isFree g x ≠ true := fun x hx => by
    have := (h.fr x).1 hx
    rw [List.drop_length] at this; cases this
  have hall : ∀ m : Nat, ∀ x : Int, 1 ≤ x → x ≤ n → x ≤ m → g.st x = 2 := by
    intro m
    induction m with
    | zero => intro x h1 _ h3; omega
    | succ m ih =>
      intro x h1 h2 h3
      rcases h.st x h1 h2 with h4 | h4
      · exfalso
        have hA : InA x := ⟨by omega, by omega⟩
        have h5 := h.wf.pd x hA (by omega)
        have h6 : (g.par x).filter (fun p => decide (g.st p ≠ 2)) = [] := List.filter_eq_nil_iff.2 fun p hp => by
          have h7 := h.par x h1 h2 p hp
          have h8 := h.wf.parR x hA (by omega) p hp
          have := ih p h8.1 (by omega) (by omega)
          simp [this]
        rw [h6] at h5
        exact hnofree x (isFree_iff.2 ⟨⟨h1, by omega⟩, h4, by simpa using h5⟩)
      · exact h4
  have h1 := len_of_sub (l := free) (m := upto n) h.nd fun x hx => upto_mem.2 (h.inn x hx)
  have h2 := len_of_sub (l := upto n) (m := free) (by
    have : (upto n).Pairwise (· < ·) := by
      unfold upto
      rw [List.pairwise_map]
      exact List.pairwise_lt_range.imp fun h => by omega
    exact nodup_of_sorted this) fun x hx => by
    have hx := upto_mem.1 hx
    have := (h.dn x hx.1 hx.2).1 (hall n x hx.1 hx.2 hx.2)
    rwa [List.take_length] at this
  rw [upto_len] at h1 h2
  omega

end Go.Proofs.Ytopefchiadmpaaa.Dag
