/-
  A ring of jobs: the plain law. No Go in sight but what Add does to a graph.
-/
import Derived.Test.YtopefchiadmpaaaDagF
namespace Go.Proofs.Ytopefchiadmpaaa.Dag
open Go.Proofs.Ytopefchiadmpaaa.V Go.Proofs.Ytopefchiadmpaaa.T
set_option linter.all false
set_option linter.unusedVariables false
set_option linter.unusedSimpArgs false
set_option linter.unnecessarySimpa false

/-! ### numbers -/
theorem dvd_small {k d : Int} (h : k ∣ d) (h1 : -k < d) (h2 : d < k) : d = 0 := by
  obtain ⟨q, rfl⟩ := h
  have hk : 0 < k := by omega
  have h3 : q < 1 := by
    apply Int.lt_of_not_ge
    intro hq
    have := Int.mul_le_mul_of_nonneg_left hq (Int.le_of_lt hk)
    omega
  have h4 : -1 < q := by
    apply Int.lt_of_not_ge
    intro hq
    have := Int.mul_le_mul_of_nonneg_left (show (1 : Int) ≤ -q by omega) (Int.le_of_lt hk)
    rw [Int.mul_neg] at this
    omega
  obtain rfl : q = 0 := by omega
  simp

theorem inv7 : ∀ k, k < 61 → 0 < k → k % 7 ≠ 0 → ∃ m, m < 60 ∧ (7 * m) % k = 1 % k := by decide +kernel

/-- the multiplier -/
def cc (k : Int) : Int := if k % 7 = 0 then 1 else 7
theorem cc_inv {k : Int} (h1 : 1 ≤ k) (h2 : k ≤ 60) : ∃ m : Int, k ∣ cc k * m - 1 := by
  unfold cc
  by_cases h : k % 7 = 0
  · rw [if_pos h]; exact ⟨1, by simp⟩
  · rw [if_neg h]
    obtain ⟨n, rfl⟩ : ∃ n : Nat, k = n := ⟨k.toNat, by omega⟩
    obtain ⟨m, _, hm⟩ := inv7 n (by omega) (by omega) (by omega)
    refine ⟨m, ?_⟩
    apply Int.dvd_of_emod_eq_zero
    rw [← Int.emod_eq_emod_iff_emod_sub_eq_zero]
    exact_mod_cast hm

def at7 (k t i : Int) : Int := (cc k * i + t) % k
theorem at7_lo {k t i : Int} (h : 1 ≤ k) : 0 ≤ at7 k t i := Int.emod_nonneg _ (by omega)
theorem at7_hi {k t i : Int} (h : 1 ≤ k) : at7 k t i < k := Int.emod_lt_of_pos _ (by omega)
theorem at7_inj {k t i j : Int} (h1 : 1 ≤ k) (h2 : k ≤ 60) (hi : 0 ≤ i) (hik : i < k) (hj : 0 ≤ j) (hjk : j < k) (h : at7 k t i = at7 k t j) : i = j := by
  obtain ⟨m, hm⟩ := cc_inv h1 h2
  have h3 : k ∣ cc k * (i - j) := by
    have := Int.dvd_of_emod_eq_zero (Int.emod_eq_emod_iff_emod_sub_eq_zero.1 h)
    rwa [show cc k * i + t - (cc k * j + t) = cc k * (i - j) by rw [Int.mul_sub]; omega] at this
  have h4 : k ∣ i - j := by
    have h5 : i - j = m * (cc k * (i - j)) - (cc k * m - 1) * (i - j) := by
      rw [Int.sub_mul, ← Int.mul_assoc, Int.mul_comm m]; omega
    rw [h5]
    exact Int.dvd_sub (Int.dvd_mul_of_dvd_right h3) (Int.dvd_mul_of_dvd_left hm)
  have := dvd_small h4 (by omega) (by omega)
  omega
theorem at7_sur {k t a : Int} (h1 : 1 ≤ k) (h2 : k ≤ 60) (ha : 0 ≤ a) (hak : a < k) : ∃ j, 0 ≤ j ∧ j < k ∧ at7 k t j = a := by
  obtain ⟨m, hm⟩ := cc_inv h1 h2
  refine ⟨(m * (a - t)) % k, Int.emod_nonneg _ (by omega), Int.emod_lt_of_pos _ (by omega), ?_⟩
  have h3 : k ∣ cc k * ((m * (a - t)) % k) + t - a := by
    have e := Int.mul_ediv_add_emod (m * (a - t)) k
    have h5 : cc k * ((m * (a - t)) % k) + t - a = (cc k * m - 1) * (a - t) - k * (cc k * ((m * (a - t)) / k)) := by
      have : (m * (a - t)) % k = m * (a - t) - k * ((m * (a - t)) / k) := by omega
      rw [this, Int.mul_sub, Int.sub_mul, ← Int.mul_assoc, ← Int.mul_assoc, ← Int.mul_assoc, Int.mul_comm k (cc k)]
      omega
    rw [h5]
    exact Int.dvd_sub (Int.dvd_mul_of_dvd_left hm) (Int.dvd_mul_right _ _)
  have := Int.emod_eq_emod_iff_emod_sub_eq_zero.2 (Int.emod_eq_zero_of_dvd h3)
  unfold at7
  rw [this, Int.emod_eq_of_lt ha hak]

/-! ### the ring -/
def nx (k a : Int) : Int := if a + 1 = k then 0 else a + 1
theorem nx_mod {k a : Int} (h0 : 0 ≤ a) (h1 : a < k) : (a + 1) % k = nx k a := by
  unfold nx
  by_cases h : a + 1 = k
  · rw [if_pos h, h, Int.emod_self]
  · rw [if_neg h, Int.emod_eq_of_lt (by omega) (by omega)]
def sb (k x d : Int) : Int := if 0 ≤ x - d then x - d else x - d + k

/-- the jobs that are in after i turns -/
def In7 (k t i a : Int) : Prop := ∃ j, 0 ≤ j ∧ j < i ∧ at7 k t j = a
theorem In7.range {k t i a : Int} (h1 : 1 ≤ k) (h : In7 k t i a) : 0 ≤ a ∧ a < k := by
  obtain ⟨j, _, _, rfl⟩ := h
  exact ⟨at7_lo h1, at7_hi h1⟩

structure Ring (k t : Int) (i : Nat) (g : G) : Prop where
  len : ∀ j, (g.ch j).length ≤ i
  st : ∀ a, 0 ≤ a → a < k → (g.st (1 + a) ≠ 0 ↔ In7 k t i a)
  st1 : ∀ j, g.st j ≤ 1
  ch : ∀ p c, c ∈ g.ch p ↔ ∃ a, In7 k t i a ∧ c = 1 + a ∧ p = 1 + nx k a

theorem Ring.zero (k t : Int) : Ring k t 0 G0 := by
  have no : ∀ a, ¬ In7 k t 0 a := fun a ⟨j, h1, h2, _⟩ => by omega
  refine ⟨fun j => Nat.le_refl _, fun a _ _ => ⟨fun h => absurd rfl h, fun h => absurd h (no a)⟩, fun j => Nat.zero_le _, fun p c => ⟨fun h => absurd h (by simp [G0]), fun ⟨a, h, _⟩ => absurd h (no a)⟩⟩

theorem Ring.path {k t : Int} {i : Nat} {g : G} (h : Ring k t i g) (h1 : 1 ≤ k) {x : Int} (hx0 : 0 ≤ x) (hxk : x < k) (hx : ¬ In7 k t i x) {q : Int} (hd : Desc g.ch (1 + x) q) :
    ∃ d, 1 ≤ d ∧ d ≤ k - 1 ∧ q = 1 + sb k x d ∧ ∀ d', 1 ≤ d' → d' ≤ d → In7 k t i (sb k x d') := by
  induction hd with
  | base hm =>
    obtain ⟨a, ha, rfl, he⟩ := (h.ch _ _).1 hm
    obtain ⟨ha0, hak⟩ := ha.range h1
    have hax : a ≠ x := fun e => hx (e ▸ ha)
    have e : a = sb k x 1 := by unfold sb; unfold nx at he; split <;> split at he <;> omega
    refine ⟨1, by omega, by omega, by rw [← e], fun d' h2 h3 => ?_⟩
    obtain rfl : d' = 1 := by omega
    rw [← e]; exact ha
  | step hy hm ih =>
    obtain ⟨d, hd1, hd2, rfl, hall⟩ := ih
    obtain ⟨a, ha, rfl, he⟩ := (h.ch _ _).1 hm
    obtain ⟨ha0, hak⟩ := ha.range h1
    have hax : a ≠ x := fun e => hx (e ▸ ha)
    have e : a = sb k x (d + 1) := by unfold sb at he ⊢; unfold nx at he; split <;> split at he <;> split at he <;> omega
    refine ⟨d + 1, by omega, ?_, by rw [← e], fun d' h2 h3 => ?_⟩
    · apply Int.le_of_not_gt
      intro hgt
      obtain rfl : d = k - 1 := by omega
      exact hax (by rw [e]; unfold sb; split <;> omega)
    · by_cases e2 : d' = d + 1
      · rw [e2, ← e]; exact ha
      · exact hall d' h2 (by omega)

/-- where all others are in, the job ahead descends from x -/
theorem Ring.full {k t : Int} {i : Nat} {g : G} (h : Ring k t i g) (h1 : 1 ≤ k) {x : Int} (hx0 : 0 ≤ x) (hxk : x < k) (hall : ∀ a, 0 ≤ a → a < k → a ≠ x → In7 k t i a) :
    ∀ n : Nat, 1 ≤ n → (n : Int) ≤ k - 1 → Desc g.ch (1 + x) (1 + sb k x n) := by
  intro n
  induction n with
  | zero => intro h; omega
  | succ n ih =>
    intro _ hn
    have hin : In7 k t i (sb k x ((n + 1 : Nat) : Int)) := hall _ (by unfold sb; split <;> omega) (by unfold sb; split <;> omega) (by unfold sb; split <;> omega)
    by_cases e : n = 0
    · subst e
      exact .base ((h.ch _ _).2 ⟨_, hin, rfl, by unfold nx sb; split <;> split <;> omega⟩)
    · refine .step (ih (by omega) (by omega)) ((h.ch _ _).2 ⟨_, hin, rfl, ?_⟩)
      unfold nx sb
      split <;> split <;> split <;> omega

theorem ded_one (p : Int) : dedI (sortI [p]) = [p] := by
  have h1 : sortI [p] = [p] := by simp [sortI]
  have := dedI_spec (l := sortI [p]) (by rw [h1]; simp)
  obtain ⟨hs, hm, hl⟩ := this
  rw [h1] at hm hl hs ⊢
  have hmem : p ∈ dedI [p] := (hm p).2 (by simp)
  match hd : dedI [p], hmem, hl with
  | [y], hmem, _ => simp at hmem; rw [hmem]

theorem Ring.add {k t : Int} {i : Nat} {g g' : G} {ok : Bool} {e : Int} (h : Ring k t i g) (h1 : 1 ≤ k) (h2 : k ≤ 60) (hi : (i : Int) < k) (ha : AddR g (1 + at7 k t i) [1 + nx k (at7 k t i)] g' ok e) :
    (e = 8 ∧ (i : Int) = k - 1) ∨ (e = 0 ∧ (i : Int) ≠ k - 1 ∧ Ring k t (i + 1) g') := by
  have hx0 : 0 ≤ at7 k t i := at7_lo h1
  have hxk : at7 k t i < k := at7_hi h1
  have hnin : ¬ In7 k t i (at7 k t i) := fun ⟨j, hj0, hji, he⟩ => by
    have := at7_inj h1 h2 hj0 (by omega) (by omega) hi he
    omega
  have hsucc : ∀ a, In7 k t (i + 1 : Nat) a ↔ In7 k t i a ∨ a = at7 k t i := fun a => by
    constructor
    · rintro ⟨j, hj0, hji, rfl⟩
      by_cases e : j = i
      · subst e; exact .inr rfl
      · exact .inl ⟨j, hj0, by omega, rfl⟩
    · rintro (⟨j, hj0, hji, rfl⟩ | rfl)
      · exact ⟨j, hj0, by omega, rfl⟩
      · exact ⟨i, by omega, by omega, rfl⟩
  generalize hX : at7 k t i = x at *
  have hn0 : 0 ≤ nx k x := by unfold nx; split <;> omega
  have hnk : nx k x < k := by unfold nx; split <;> omega
  have hst0 : g.st (1 + x) = 0 := Decidable.byContradiction fun hc => hnin ((h.st x hx0 hxk).1 hc)
  have r1 : inR (1 + x) = true := inR_iff.2 (by omega)
  have r2 : [1 + nx k x].all inR = true := by simp [inR_iff]; omega
  cases ha with
  | range hr => exact absurd ⟨r1, r2⟩ hr
  | twice _ hr => exact absurd hst0 hr
  | cycle _ _ hp =>
    left
    refine ⟨rfl, ?_⟩
    obtain ⟨p, hp, hpd⟩ := hp
    rw [ded_one] at hp
    obtain rfl : p = 1 + nx k x := by simpa using hp
    rcases hpd with hpd | hpd
    · unfold nx at hpd
      split at hpd <;> omega
    · obtain ⟨d, hd1, hd2, he, hall⟩ := h.path h1 hx0 hxk hnin hpd
      have hdk : d = k - 1 := by unfold nx sb at he; split at he <;> split at he <;> omega
      subst hdk
      apply Decidable.byContradiction
      intro hne
      have hin : In7 k t i (at7 k t (k - 1)) := by
        have hl := at7_lo (k := k) (t := t) (i := k - 1) h1
        have hh := at7_hi (k := k) (t := t) (i := k - 1) h1
        have hnx : at7 k t (k - 1) ≠ x := fun e => hne (at7_inj h1 h2 (by omega) hi (by omega) (by omega) (hX.trans e.symm))
        by_cases hlt : at7 k t (k - 1) < x
        · have := hall (x - at7 k t (k - 1)) (by omega) (by omega)
          rwa [show sb k x (x - at7 k t (k - 1)) = at7 k t (k - 1) by unfold sb; split <;> omega] at this
        · have := hall (x - at7 k t (k - 1) + k) (by omega) (by omega)
          rwa [show sb k x (x - at7 k t (k - 1) + k) = at7 k t (k - 1) by unfold sb; split <;> omega] at this
      obtain ⟨j, hj0, hji, he2⟩ := hin
      have := at7_inj h1 h2 hj0 (by omega) (by omega) (by omega) he2
      omega
  | state _ _ _ hs =>
    obtain ⟨p, _, hp⟩ := hs
    have := h.st1 p
    omega
  | ok _ _ hc _ =>
    right
    rw [ded_one] at hc ⊢
    obtain ⟨hc1, hc2⟩ := hc (1 + nx k x) (by simp)
    refine ⟨rfl, fun he => ?_, ?_⟩
    · have hall : ∀ a, 0 ≤ a → a < k → a ≠ x → In7 k t i a := fun a h3 h4 h5 => by
        obtain ⟨j, hj0, hjk, rfl⟩ := at7_sur (t := t) h1 h2 h3 h4
        exact ⟨j, hj0, by
          have : j ≠ i := fun e => h5 (by rw [e, hX])
          omega, rfl⟩
      by_cases hk1 : k = 1
      · exact hc1 (by unfold nx; split <;> omega)
      · have := h.full h1 hx0 hxk hall (k - 1).toNat (by omega) (by omega)
        rw [show sb k x ((k - 1).toNat : Nat) = nx k x by unfold nx sb; split <;> split <;> omega] at this
        exact hc2 this
    · refine ⟨fun j => ?_, fun a h3 h4 => ?_, fun j => ?_, fun p c => ?_⟩
      · show (if j ∈ [1 + nx k x] then g.ch j ++ [1 + x] else g.ch j).length ≤ i + 1
        have := h.len j
        split
        · simp; omega
        · omega
      · show upI g.st (1 + x) 1 (1 + a) ≠ 0 ↔ _
        rw [hsucc]
        by_cases e : a = x
        · subst e; rw [upI_same]; simp
        · rw [upI_other _ _ (by omega), h.st a h3 h4]
          exact ⟨.inl, fun h => h.resolve_right e⟩
      · show upI g.st (1 + x) 1 j ≤ 1
        by_cases e : j = 1 + x
        · subst e; rw [upI_same]; exact Nat.le_refl _
        · rw [upI_other _ _ e]; exact h.st1 j
      · show c ∈ (if p ∈ [1 + nx k x] then g.ch p ++ [1 + x] else g.ch p) ↔ _
        constructor
        · intro hm
          by_cases e : p = 1 + nx k x
          · rw [if_pos (by simp [e])] at hm
            rcases List.mem_append.1 hm with hm | hm
            · obtain ⟨a, ha, h3, h4⟩ := (h.ch _ _).1 hm
              exact ⟨a, (hsucc a).2 (.inl ha), h3, h4⟩
            · exact ⟨x, (hsucc x).2 (.inr rfl), by simpa using hm, e⟩
          · rw [if_neg (by simp [e])] at hm
            obtain ⟨a, ha, h3, h4⟩ := (h.ch _ _).1 hm
            exact ⟨a, (hsucc a).2 (.inl ha), h3, h4⟩
        · rintro ⟨a, ha, rfl, rfl⟩
          rcases (hsucc a).1 ha with ha | rfl
          · have := (h.ch (1 + nx k a) (1 + a)).2 ⟨a, ha, rfl, rfl⟩
            split
            · exact List.mem_append_left _ this
            · exact this
          · rw [if_pos (by simp)]
            exact List.mem_append_right _ (by simp)

end Go.Proofs.Ytopefchiadmpaaa.Dag
