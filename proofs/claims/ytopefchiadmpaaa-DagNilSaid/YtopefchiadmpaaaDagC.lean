/-
  slices.Compact and slices.BinarySearch at []int64, by the shelf's contracts, in the words used here.
-/
import Derived.Test.YtopefchiadmpaaaDagB
namespace Go.Proofs.Ytopefchiadmpaaa.Dag
open Go.Proofs.Ytopefchiadmpaaa.V Go.Proofs.Ytopefchiadmpaaa.T
set_option linter.all false
set_option linter.unusedVariables false
set_option linter.unusedSimpArgs false
set_option linter.unnecessarySimpa false

theorem compactUpTo_spec {d : Array Int} {n : Nat} (hs : ∀ i j, i < j → j < n → d[i]! ≤ d[j]!) : ∀ m, m ≤ n →
    (Lib.compactUpTo d m).Pairwise (· < ·) ∧ (∀ x, x ∈ Lib.compactUpTo d m ↔ ∃ j, j < m ∧ d[j]! = x) ∧ (Lib.compactUpTo d m).length ≤ m
  | 0, _ => by simp [Lib.compactUpTo]
  | m + 1, hm => by
    obtain ⟨h1, h2, h3⟩ := compactUpTo_spec hs m (by omega)
    rw [Lib.compactUpTo_succ]
    have hmem : ∀ x, (∃ j, j < m + 1 ∧ d[j]! = x) ↔ ((∃ j, j < m ∧ d[j]! = x) ∨ d[m]! = x) := fun x => by
      constructor
      · rintro ⟨j, hj, rfl⟩
        by_cases e : j = m
        · subst e; exact .inr rfl
        · exact .inl ⟨j, by omega, rfl⟩
      · rintro (⟨j, hj, rfl⟩ | rfl)
        · exact ⟨j, by omega, rfl⟩
        · exact ⟨m, by omega, rfl⟩
    cases hk : Lib.keeps d m with
    | true =>
      simp only [if_true]
      refine ⟨?_, fun x => ?_, by simp; omega⟩
      · rw [List.pairwise_append]
        refine ⟨h1, by simp, fun x hx y hy => ?_⟩
        rw [List.mem_singleton] at hy
        subst hy
        obtain ⟨j, hj, rfl⟩ := (h2 x).1 hx
        have hne : d[m]! ≠ d[m - 1]! := by
          have : m ≠ 0 := by omega
          simpa [Lib.keeps, this] using hk
        have hle := hs (m - 1) m (by omega) (by omega)
        by_cases e : j = m - 1
        · subst e; omega
        · have := hs j (m - 1) (by omega) (by omega); omega
      · rw [List.mem_append, List.mem_singleton, h2, hmem, eq_comm (a := x)]
    | false =>
      simp only [Bool.false_eq_true, if_false, List.append_nil]
      refine ⟨h1, fun x => ?_, by omega⟩
      rw [h2, hmem]
      refine ⟨.inl, fun h => h.elim id fun e => ?_⟩
      have h0 : m ≠ 0 := fun e => by subst e; simp [Lib.keeps] at hk
      have he : d[m]! = d[m - 1]! := by simpa [Lib.keeps, h0] using hk
      exact ⟨m - 1, by omega, by rw [← he]; exact e⟩

def dedI (l : List Int) : List Int := Lib.compact l
theorem dedI_spec {l : List Int} (hs : l.Pairwise (· ≤ ·)) : (dedI l).Pairwise (· < ·) ∧ (∀ x, x ∈ dedI l ↔ x ∈ l) ∧ (dedI l).length ≤ l.length := by
  have h : ∀ i j, i < j → j < l.length → l.toArray[i]! ≤ l.toArray[j]! := fun i j hij hj => by
    have := (List.pairwise_iff_getElem.1 hs) i j (by omega) hj hij
    rw [getElem!_pos _ i (by simp; omega), getElem!_pos _ j (by simpa using hj)]
    simpa using this
  obtain ⟨h1, h2, h3⟩ := compactUpTo_spec h l.length (Nat.le_refl _)
  refine ⟨h1, fun x => ?_, h3⟩
  rw [show dedI l = Lib.compactUpTo l.toArray l.length from rfl, h2, List.mem_iff_getElem]
  constructor
  · rintro ⟨j, hj, rfl⟩; exact ⟨j, hj, by rw [getElem!_pos _ j (by simpa using hj)]; simp⟩
  · rintro ⟨j, hj, rfl⟩; exact ⟨j, hj, by rw [getElem!_pos _ j (by simpa using hj)]; simp⟩

theorem sortI_sorted (l : List Int) : (sortI l).Pairwise (· ≤ ·) := by
  have := List.pairwise_mergeSort (le := fun x y : Int => decide (x ≤ y)) (fun a b c h1 h2 => by simp at *; omega) (fun a b => by simp; omega) l
  exact this.imp fun h => by simpa using h
theorem sortI_mem (l : List Int) (x : Int) : x ∈ sortI l ↔ x ∈ l := List.mem_mergeSort

theorem compact_len (l : List Int) : (Lib.compact l).length ≤ l.length := by
  unfold Lib.compact Lib.compactUpTo
  rw [List.length_map]
  exact Nat.le_trans (List.length_filter_le _ _) (by simp)

theorem Compact_ok {w : World} {v : Value} {l : List Int} (h : Own w 2 1 v l.length (enc l)) (hn : l.length ≤ 9223372036854775807) :
    Ret PR 26 #[v] w (fun r w' => Own w' 2 1 r (dedI l).length (enc (dedI l)) ∧ r.ownBlock = v.ownBlock ∧ Ext (inB v) w w') := by
  by_cases h0 : l.length = 0
  · have hl : l = [] := List.eq_nil_of_length_eq_zero h0
    subst hl
    obtain ⟨p, cap, hv⟩ : ∃ p cap, v = .slice p 0 cap := by
      rcases h.2 with ⟨hv, _⟩ | ⟨g, cap, cur, hv, _⟩
      · exact ⟨_, _, hv⟩
      · exact ⟨_, _, hv⟩
    subst hv
    refine (Ret.of_calls (Try.slices_Compact_int_empty p cap w)).mono ?_
    rintro r w' ⟨rfl, rfl⟩
    exact ⟨h, rfl, Ext.refl _ _⟩
  · rcases h.2 with ⟨hv, hn0⟩ | ⟨g, cap, cur, hv, _, hg, hc, hm, hcs, ht⟩
    · exact (h0 hn0).elim
    · subst hv
      have hH : Go.Sort.Holds (Value.int .i64) w g 0 l.toArray := holds_of_blockI hg (by rw [Nat.mul_one] at ht; exact ht)
      refine (Ret.of_calls (Try.slices_Compact_int g 0 cap l w hH hn hc)).mono ?_
      rintro r w' ⟨rfl, q, rfl⟩
      have hle : (Lib.compact l).length ≤ l.length := compact_len l
      have hlen : (Lib.compact l ++ List.replicate (l.length - (Lib.compact l).length) 0).length = l.length := by simp; omega
      have ho := ownsRow_sortedI (w := w) (base := 0) (g := g) (cap := cap) (n := q) (e := 2) (os := #[]) (cur := cur) (ss := l) hlen (Nat.zero_le _) hg hc hm hcs
      rw [Go.Sort.grow_empty] at ho
      obtain ⟨hl1, hl2⟩ := ho
      refine ⟨⟨by simp [enc, dedI], .inr ?_⟩, rfl, ?_⟩
      · rcases hl2 with ⟨hv, _⟩ | ⟨g', cap', cur', hv, h0', hg', hc', hm', hcs', ht'⟩
        · cases hv
        · cases hv
          refine ⟨g, cap, cur', rfl, h0', hg', Nat.le_trans hle hc', hm', hcs', ?_⟩
          have := congrArg (List.take (Lib.compact l).length) ht'
          rw [List.take_take, Nat.mul_one, Nat.min_eq_left hle, List.map_append, List.take_left' (by simp)] at this
          simpa [dedI, enc] using this
      · have := grownBy_sortedI (w := w) (g := g) (n := q) (os := #[]) (Lib.compact l ++ List.replicate (l.length - (Lib.compact l).length) 0).toArray
        rw [Go.Sort.grow_empty] at this
        refine (Ext.of_grown this).mono fun k _ hk => ?_
        subst hk; rfl

theorem drewN_ext {w : World} (q : Nat) : Ext No w (w.drewN q) := ⟨rfl, rfl, rfl, Nat.le_refl _, fun _ _ _ => rfl⟩

theorem Search_ok {w : World} {v : Value} {l : List Int} {x : Int} (h : Sl w 1 v l.length (enc l)) (hs : l.Pairwise (· < ·)) (hn : l.length < 4611686018427387904) :
    Ret PR 28 #[v, .int .i64 x] w (fun r w' => (∃ i : Int, r = .tuple #[.int .i64 i, .bool (decide (x ∈ l))]) ∧ Ext No w w') := by
  rcases h.2.2 with ⟨rfl, h0⟩ | ⟨b, o, cap, rfl, hc, hb, hx⟩ | ⟨a, cap, rfl, h0⟩
  rotate_left 2
  · have hl : l = [] := List.eq_nil_of_length_eq_zero h0
    subst hl
    refine f28_ret ?_
    unfold f28
    simp only [vs]
    refine ⟨fun y w' => y = (.int .i64 0, .int .i64 0) ∧ w' = w, fun _ _ => 0, ⟨rfl, rfl⟩, ?_⟩
    rintro _ w' ⟨rfl, rfl⟩ _
    simp only [ar, vs, Int.natCast_zero, Int.lt_irrefl, decide_false]
    exact ⟨⟨0, by simp⟩, Ext.refl _ _⟩
  · have hl : l = [] := List.eq_nil_of_length_eq_zero h0
    subst hl
    refine f28_ret ?_
    unfold f28
    simp only [vs]
    refine ⟨fun y w' => y = (.int .i64 0, .int .i64 0) ∧ w' = w, fun _ _ => 0, ⟨rfl, rfl⟩, ?_⟩
    rintro _ w' ⟨rfl, rfl⟩ _
    simp only [ar, vs, Int.natCast_zero, Int.lt_irrefl, decide_false]
    exact ⟨⟨0, by simp⟩, Ext.refl _ _⟩
  · refine (Ret.of_calls (Try.slices_BinarySearch_int b o l.length cap l x w (Nat.le_refl _) hn (fun j hj => ?_) ?_)).mono ?_
    · refine hx j _ ?_
      rw [enc_get]; simp [hj]
    · rw [List.take_length]; exact hs.imp fun h => by omega
    · rintro r w' ⟨rfl, q, rfl⟩
      refine ⟨⟨(((l.take l.length).countP (· < x) : Nat) : Int), ?_⟩, drewN_ext q⟩
      have : (l.take l.length).contains x = decide (x ∈ l) := by
        rw [List.take_length, Bool.eq_iff_iff]; simp
      rw [this]

end Go.Proofs.Ytopefchiadmpaaa.Dag
