/-
  share: strings in order; contracts of slices.Sort, Clone, Compact, BinarySearch, Contains at []string, of Same and place.
-/
import Derived.Test.YthhpdcegkbfijaaFibU
import Derived.Test.YthhpdcegkbfijaaShelf
import Derived.Sort.OwnSorted
namespace Go.Proofs.Ythhpdcegkbfijaa.Sh
open Go.Proofs.Ythhpdcegkbfijaa.V Go.Proofs.Ythhpdcegkbfijaa.T
set_option linter.all false
set_option maxRecDepth 100000
set_option linter.unusedVariables false
set_option linter.unusedSimpArgs false
set_option linter.unnecessarySimpa false

abbrev Str := List UInt8
def str (s : Str) : Value := .string ⟨s.toArray⟩
def encS (l : List Str) : List Value := l.map str
theorem encS_len (l : List Str) : (encS l).length = l.length := by simp [encS]
theorem encS_get (l : List Str) (i : Nat) : (encS l)[i]? = (l[i]?).map str := by simp [encS]
theorem encS_app (l m : List Str) : encS (l ++ m) = encS l ++ encS m := by simp [encS]
theorem encS_one (l : List Str) : ∀ u ∈ encS l, u.oneCell' = true := by
  intro u hu
  simp only [encS, List.mem_map] at hu
  obtain ⟨n, _, rfl⟩ := hu
  rfl
theorem encS_at (l : List Str) {k : Nat} (hk : k < l.length) : (encS l)[((k : Int)).toNat]? = some (str l[k]) := by
  have : ((k : Int)).toNat = k := by omega
  rw [this, encS_get, List.getElem?_eq_getElem hk]; rfl
theorem toList_mk : ∀ (s : Str), (⟨s.toArray⟩ : ByteArray).toList = s := by
  intro s
  rw [ByteArray.toList_eq]
theorem str_eq (a b : Str) : eqlO (str a) (str b) = some (decide (a = b)) := by
  unfold eqlO str
  simp only [toList_mk]
  congr 1
  by_cases h : a = b <;> simp [h]
theorem str_inj {a b : Str} (h : str a = str b) : a = b := by
  unfold str at h
  have := Value.string.inj h
  have h2 := congrArg (fun (s : ByteArray) => s.data.toList) this
  simpa using h2
theorem str_lt (a b : Str) : arithO .lss (str a) (str b) = some (.bool (decide (a < b))) := by
  unfold arithO str
  simp only [toList_mk, bytesLess_eq]
theorem E26 : ElemT PR 26 9 1 16 := .of (z := .string ⟨#[]⟩) (by kernel_rfl) (by kernel_rfl) rfl (by omega)

/-! ### the order of strings -/
theorem s_irrefl (a : Str) : ¬ a < a := List.lt_irrefl a
theorem s_trans {a b c : Str} (h : a < b) (h' : b < c) : a < c := List.lt_trans h h'
theorem s_tot {a b : Str} (h : a ≠ b) : a < b ∨ b < a := by
  by_cases h1 : a < b
  · exact .inl h1
  · by_cases h2 : b < a
    · exact .inr h2
    · exact absurd (List.le_antisymm (List.not_lt.1 h2) (List.not_lt.1 h1)) h

def sortS (l : List Str) : List Str := l.mergeSort fun x y => decide (x ≤ y)
theorem sortS_perm (l : List Str) : (sortS l).Perm l := List.mergeSort_perm l _
theorem sortS_sorted (l : List Str) : (sortS l).Pairwise (fun a b => a ≤ b) := by
  have := List.pairwise_mergeSort (le := fun x y : Str => decide (x ≤ y)) (fun a b c h1 h2 => by simp at *; exact List.le_trans h1 h2) (fun a b => by simp; exact List.le_total a b) l
  exact this.imp fun h => by simpa using h
theorem sortS_strict {l : List Str} (h : l.Nodup) : (sortS l).Pairwise (fun a b => a < b) := by
  have h2 : (sortS l).Nodup := (sortS_perm l).symm.nodup h
  refine ((sortS_sorted l).and h2).imp fun {a b} ⟨h3, h4⟩ => ?_
  rcases s_tot h4 with h5 | h5
  · exact h5
  · exact absurd h5 (List.not_lt.2 h3)

theorem Ret.of_calls {P : Program} {f : FuncId} {args : Array Value} {w : World} {v : Value} {Q : World → Prop} (h : Calls P f args w fun e w' => e = .returned v ∧ Q w') : Ret P f args w (fun r w' => r = v ∧ Q w') :=
  Calls.mono h fun e w' ⟨h1, h2⟩ => ⟨v, h1, rfl, h2⟩
theorem Ext.of_grown {w w' : World} {g : Nat} (h : w.grownBy w' (some g)) : Ext (fun k => k = g) w w' :=
  ⟨h.os, h.tape, h.output, h.size, fun k hk hn => h.block k hk fun e => hn (by cases e; rfl)⟩

theorem SortS_ok {w : World} {v : Value} {l : List Str} (h : Own w 9 1 v l.length (encS l)) (hn : l.length < 4611686018427387904) :
    Ret PR 18 #[v] w (fun r w' => r = .tuple #[] ∧ Own w' 9 1 v (sortS l).length (encS (sortS l)) ∧ Ext (inB v) w w') := by
  by_cases h0 : l.length = 0
  · have hl : l = [] := List.eq_nil_of_length_eq_zero h0
    subst hl
    obtain ⟨p, cap, hv⟩ : ∃ p cap, v = .slice p 0 cap := by
      rcases h.2 with ⟨hv, _⟩ | ⟨g, cap, cur, hv, _⟩
      · exact ⟨_, _, hv⟩
      · exact ⟨_, _, hv⟩
    subst hv
    refine (Ret.of_calls (Try.slices_Sort_string_none p cap w)).mono ?_
    rintro r w' ⟨rfl, rfl⟩
    exact ⟨rfl, by simpa [sortS] using h, Ext.refl _ _⟩
  · rcases h.2 with ⟨hv, hn0⟩ | ⟨g, cap, cur, hv, _, hg, hc, hm, hcs, ht⟩
    · exact (h0 hn0).elim
    · subst hv
      have hH : Go.Sort.Holds encStr w g 0 l.toArray := holds_of_block hg (by rw [Nat.mul_one] at ht; exact ht)
      refine (Ret.of_calls (Try.slices_Sort_string g 0 cap l w hH (Array.getElem?_eq_some_iff.1 hg).1 hn)).mono ?_
      rintro r w' ⟨rfl, n, os, rfl⟩
      have hlen : (sortS l).length = l.length := (sortS_perm l).length_eq
      refine ⟨rfl, ?_, ?_⟩
      · rw [hlen]
        exact ownsRow_sorted (ss := l) (ts := sortS l) hlen (Nat.zero_le _) hg hc hm hcs
      · refine (Ext.of_grown (grownBy_sorted (sortS l).toArray)).mono fun k _ hk => ?_
        subst hk; rfl

/-! ### Compact -/
theorem compact_all {l : List Str} : (Lib.compact l).length = l.length ↔ ∀ j, j < l.length → Lib.keeps l.toArray j = true := by
  unfold Lib.compact Lib.compactUpTo
  rw [List.length_map]
  constructor
  · intro h j hj
    have h1 : ((List.range l.length).filter (Lib.keeps l.toArray)).length = (List.range l.length).length := by rw [h]; simp
    have := List.length_filter_eq_length_iff.1 h1 j (List.mem_range.2 hj)
    exact this
  · intro h
    have := (List.length_filter_eq_length_iff (l := List.range l.length) (p := Lib.keeps l.toArray)).2 fun j hj => h j (List.mem_range.1 hj)
    rw [this]; simp
theorem compact_le (l : List Str) : (Lib.compact l).length ≤ l.length := by
  unfold Lib.compact Lib.compactUpTo
  rw [List.length_map]
  exact Nat.le_trans (List.length_filter_le _ _) (by simp)
theorem keeps_at {l : List Str} {j : Nat} (hj : j + 1 < l.length) : Lib.keeps l.toArray (j + 1) = decide (l[j + 1] ≠ l[j]) := by
  unfold Lib.keeps
  rw [getElem!_pos l.toArray (j + 1) (by simpa using hj), getElem!_pos l.toArray (j + 1 - 1) (by simp; omega)]
  simp
theorem compact_lt {l : List Str} (hs : l.Pairwise fun a b => a ≤ b) : (Lib.compact l).length < l.length ↔ ¬ l.Nodup := by
  have hle := compact_le l
  constructor
  · intro h hn
    have : (Lib.compact l).length = l.length := compact_all.2 fun j hj => by
      cases j with
      | zero => simp [Lib.keeps]
      | succ j =>
        rw [keeps_at hj]
        have := (List.pairwise_iff_getElem.1 hn) j (j + 1) (by omega) hj (by omega)
        simpa using fun e => this e.symm
    omega
  · intro h
    apply Decidable.byContradiction
    intro hlt
    have hk := compact_all.1 (show (Lib.compact l).length = l.length by omega)
    refine h (List.pairwise_iff_getElem.2 fun i j hi hj hij => ?_)
    obtain ⟨m, rfl⟩ : ∃ m, j = m + 1 := ⟨j - 1, by omega⟩
    have h1 := hk (m + 1) hj
    rw [keeps_at hj] at h1
    have h2 : l[m + 1] ≠ l[m] := by simpa using h1
    have h3 : l[m] ≤ l[m + 1] := (List.pairwise_iff_getElem.1 hs) m (m + 1) (by omega) hj (by omega)
    have h4 : l[i] ≤ l[m] := by
      by_cases e : i = m
      · subst e; exact List.le_refl _
      · exact (List.pairwise_iff_getElem.1 hs) i m hi (by omega) (by omega)
    intro e
    rw [e] at h4
    exact h2 (List.le_antisymm h4 h3)

theorem CompactS_ok {w : World} {v : Value} {l : List Str} (h : Own w 9 1 v l.length (encS l)) (hn : l.length ≤ 9223372036854775807) :
    Ret PR 19 #[v] w (fun r w' => lenO r = some (.int .i64 ((Lib.compact l).length : Int)) ∧ Ext (inB v) w w') := by
  by_cases h0 : l.length = 0
  · have hl : l = [] := List.eq_nil_of_length_eq_zero h0
    subst hl
    obtain ⟨p, cap, hv⟩ : ∃ p cap, v = .slice p 0 cap := by
      rcases h.2 with ⟨hv, _⟩ | ⟨g, cap, cur, hv, _⟩
      · exact ⟨_, _, hv⟩
      · exact ⟨_, _, hv⟩
    subst hv
    refine (Ret.of_calls (Try.slices_Compact_string_empty p cap w)).mono ?_
    rintro r w' ⟨rfl, rfl⟩
    exact ⟨rfl, Ext.refl _ _⟩
  · rcases h.2 with ⟨hv, hn0⟩ | ⟨g, cap, cur, hv, _, hg, hc, hm, hcs, ht⟩
    · exact (h0 hn0).elim
    · subst hv
      have hH : Go.Sort.Holds encStr w g 0 l.toArray := holds_of_block hg (by rw [Nat.mul_one] at ht; exact ht)
      refine (Ret.of_calls (Try.slices_Compact_string g 0 cap l w hH hn hc)).mono ?_
      rintro r w' ⟨rfl, q, rfl⟩
      refine ⟨rfl, ?_⟩
      have := grownBy_sorted (w := w) (g := g) (n := q) (os := #[]) (Lib.compact l ++ List.replicate (l.length - (Lib.compact l).length) []).toArray
      rw [Go.Sort.grow_empty] at this
      refine (Ext.of_grown this).mono fun k _ hk => ?_
      subst hk; rfl

/-- slices.Clone -/
theorem CloneS_ok {w : World} {v : Value} {l : List Str} (h : Sl w 1 v l.length (encS l)) (hb : l.length * 16 ≤ 140737488355328) :
    Ret PR 20 #[v] w (fun r w' => Own w' 9 1 r l.length (encS l) ∧ Ext No w w' ∧ (∀ k, inB r k → w.heap.size ≤ k)) := by
  suffices hs : ∀ R : Kv, (∀ r w', Own w' 9 1 r l.length (encS l) → Ext No w w' → (∀ k, inB r k → w.heap.size ≤ k) → R r w') → f20 v w R from f20_ret (hs _ fun _ _ h1 h2 h3 => ⟨h1, h2, h3⟩)
  intro R hR
  unfold f20
  have fin : sv PR (Instr.buildSlice 26 0 #[]) w fun v5 w6 => sv PR (Builtin.append_ #[26, 26] 26 #[v5, v]) w6 fun v7 w8 => R v7 w8 := by
    refine bs0 E26 fun v' w' ho he hk hnn hsz => ?_
    refine append_own E26 ho (h.ext he (fun k _ hf => hf)) (encS_one l) (by have := h.2.1; omega) (by omega) fun v2 w2 ho2 he2 hk2 _ => ?_
    rw [Nat.zero_add, List.nil_append] at ho2
    refine hR _ _ ho2 (he.trans he2 fun k hlt hin => ?_) fun k hin => ?_
    · have := hk k hin; omega
    · rcases hk2 k hin with h1 | h1
      · have := hk k h1; omega
      · omega
  rcases h.2.2 with ⟨rfl, hn⟩ | ⟨b, o, cap, rfl, hc, hbl, hx⟩ | ⟨a, cap, rfl, hn⟩
  · simp only [vs]
    have : l = [] := List.eq_nil_of_length_eq_zero hn
    subst this
    exact hR _ _ (Own.nil _ _ _) (Ext.refl _ _) (fun k hk => by simp [inB, Value.ownBlock] at hk)
  · simp only [vs]
    exact fin
  · simp only [vs]
    exact fin

/-! ### looking for a name -/
theorem nan36 (s : Str) (w : World) : Ret PR 36 #[str s] w (fun r w' => r = .bool false ∧ w' = w) := by
  refine f36_ret ?_
  unfold f36
  simp only [str_eq, decide_true, vs]
  exact ⟨by trivial, by trivial⟩
theorem nan59 (s : Str) (w : World) : Ret PR 59 #[str s] w (fun r w' => r = .bool false ∧ w' = w) := by
  refine f59_ret ?_
  unfold f59
  simp only [str_eq, decide_true, vs]
  exact ⟨by trivial, by trivial⟩
theorem less35 (a b : Str) (w : World) : Ret PR 35 #[str a, str b] w (fun r w' => r = .bool (decide (a < b)) ∧ w' = w) := by
  refine f35_ret ?_
  unfold f35
  refine (nan59 a w).mono ?_
  rintro _ w1 ⟨rfl, rfl⟩
  simp only [vs, str_lt]
  exact ⟨by trivial, by trivial⟩
theorem half (n : Nat) : arithO .shr (u64 n) (.int .u64 1) = some (u64 (n / 2)) := by
  unfold u64
  simp only [arithO]
  rw [if_pos (by omega)]
  congr 2
  show (n : Int).fdiv (2 ^ 1) = _
  rw [Int.fdiv_eq_ediv_of_nonneg _ (by omega)]
  rfl
theorem cvii {n : Nat} (h : n ≤ 9223372036854775807) : cviO .i64 (u64 n) = some (.int .i64 (n : Int)) := by
  unfold u64
  simp only [cviO, wrap64' (show (-9223372036854775808 : Int) ≤ (n : Int) by omega) (show (n : Int) ≤ 9223372036854775807 by omega)]

set_option maxHeartbeats 1000000 in
theorem Search_ok {w : World} {v : Value} {l : List Str} {x : Str} (h : Sl w 1 v l.length (encS l)) (hs : l.Pairwise fun a b => a < b) (hn : l.length < 4611686018427387904) :
    Ret PR 22 #[v, str x] w (fun r w' => ∃ i : Nat, ∃ f, r = .tuple #[.int .i64 (i : Int), f] ∧ (x ∈ l → ∃ hi : i < l.length, l[i] = x) ∧ w' = w) := by
  refine f22_ret ?_
  unfold f22
  simp only [h.len, vs]
  refine loopG (Γ := Nat × Nat) (fun γ y w' => y = (.int .i64 (γ.1 : Int), .int .i64 (γ.2 : Int)) ∧ γ.1 ≤ γ.2 ∧ γ.2 ≤ l.length ∧ w' = w ∧ (∀ k (hk : k < l.length), k < γ.1 → l[k] < x) ∧ ∀ k (hk : k < l.length), γ.2 ≤ k → ¬ l[k] < x) (fun γ => γ.2 - γ.1) (0, l.length)
    ⟨rfl, Nat.zero_le _, Nat.le_refl _, rfl, fun k _ h => by simp only at h; omega, fun k hk h => by simp only at h; omega⟩ ?_
  rintro ⟨i, j⟩ _ wa ⟨rfl, hij, hjl, rfl, hlo, hhi⟩ K hK _
  simp only at hij hjl hlo hhi
  simp only [ar]
  by_cases hlt : i < j
  · rw [show decide ((i : Int) < j) = true from decide_eq_true (by omega)]
    simp (disch := omega) only [vs, ar]
    rw [show (i : Int) + (j : Int) = ((i + j : Nat) : Int) by omega]
    have hm : (i + j) / 2 < l.length := by omega
    simp only [cviu (k := .i64) (show i + j < 18446744073709551616 by omega), vs, half, cvii (show (i + j) / 2 ≤ 9223372036854775807 by omega)]
    rw [h.get (by omega) (by omega) (encS_at l hm)]
    refine (less35 _ _ wa).mono ?_
    rintro _ wb ⟨rfl, rfl⟩
    by_cases hx : l[(i + j) / 2] < x
    · simp (disch := omega) only [hx, decide_true, vs, ar]
      refine hK ((i + j) / 2 + 1, j) _ _ ⟨by simp, by simp only; omega, hjl, rfl, fun k hk hki => ?_, hhi⟩ (by simp only; omega)
      simp only at hki
      by_cases e : k = (i + j) / 2
      · subst e; exact hx
      · exact s_trans ((List.pairwise_iff_getElem.1 hs) k _ hk hm (by omega)) hx
    · simp only [hx, decide_false, vs]
      refine hK (i, (i + j) / 2) _ _ ⟨rfl, by simp only; omega, by simp only; omega, rfl, hlo, fun k hk hki => ?_⟩ (by simp only; omega)
      simp only at hki
      by_cases e : k = (i + j) / 2
      · subst e; exact hx
      · exact fun h5 => hx (s_trans ((List.pairwise_iff_getElem.1 hs) _ k hm hk (by omega)) h5)
  · rw [show decide ((i : Int) < j) = false from decide_eq_false (by omega)]
    have hfound : x ∈ l → ∃ hi : i < l.length, l[i] = x := fun hx => by
      obtain ⟨m, hm, rfl⟩ := List.mem_iff_getElem.1 hx
      by_cases e1 : m < i
      · exact absurd (hlo m hm e1) (s_irrefl _)
      · by_cases e2 : i < m
        · exact absurd ((List.pairwise_iff_getElem.1 hs) i m (by omega) hm e2) (hhi i (by omega) (by omega))
        · have : i = m := by omega
          subst this; exact ⟨hm, rfl⟩
    simp only [vs, ar]
    by_cases hil : i < l.length
    · rw [show decide ((i : Int) < l.length) = true from decide_eq_true (by omega)]
      simp only [vs]
      rw [h.get (by omega) (by omega) (encS_at l hil)]
      simp only [str_eq, vs]
      by_cases he : l[i] = x
      · simp only [he, decide_true, vs]
        exact ⟨i, _, rfl, hfound, by trivial⟩
      · simp only [he, decide_false, vs]
        rw [h.get (by omega) (by omega) (encS_at l hil)]
        refine (nan36 _ wa).mono ?_
        rintro _ wb ⟨rfl, rfl⟩
        simp only [vs]
        exact ⟨i, _, rfl, hfound, by trivial⟩
    · rw [show decide ((i : Int) < l.length) = false from decide_eq_false (by omega)]
      simp only [vs]
      exact ⟨i, _, rfl, hfound, by trivial⟩

theorem Index_ok {w : World} {v : Value} {l : List Str} {x : Str} (h : Sl w 1 v l.length (encS l)) : Ret PR 44 #[v, str x] w (fun r w' => (∃ n : Int, r = .int .i64 n ∧ (0 ≤ n ↔ x ∈ l)) ∧ w' = w) := by
  refine f44_ret ?_
  unfold f44
  simp only [h.len, vs]
  refine for1 h.2.1 (fun k w' => w' = w ∧ x ∉ l.take k) ⟨rfl, by simp⟩ ?_ ?_
  · rintro k wa hk ⟨rfl, hno⟩ K hK
    rw [h.get (by omega) (by omega) (encS_at l hk)]
    simp only [str_eq, vs]
    by_cases he : x = l[k]
    · simp only [he, decide_true, vs]
      exact ⟨⟨_, rfl, ⟨fun _ => List.getElem_mem hk, fun _ => by omega⟩⟩, by trivial⟩
    · simp only [he, decide_false, vs]
      have := h.2.1
      simp (disch := omega) only [ar, vs]
      refine hK _ ⟨rfl, ?_⟩
      rw [List.take_succ_eq_append_getElem hk]
      simp only [List.mem_append, List.mem_singleton, not_or]
      exact ⟨hno, he⟩
  · rintro wa ⟨rfl, hno⟩
    rw [List.take_length] at hno
    exact ⟨⟨_, rfl, ⟨fun h => by omega, fun h => absurd h hno⟩⟩, by trivial⟩
theorem Contains_ok {w : World} {v : Value} {l : List Str} {x : Str} (h : Sl w 1 v l.length (encS l)) : Ret PR 29 #[v, str x] w (fun r w' => r = .bool (decide (x ∈ l)) ∧ w' = w) := by
  refine f29_ret ?_
  unfold f29
  refine (Index_ok h).mono ?_
  rintro _ wb ⟨⟨n, rfl, hn⟩, rfl⟩
  simp only [ar, vs]
  refine ⟨?_, by trivial⟩
  congr 1
  exact decide_eq_decide.2 hn

/-- place: the first place of a name -/
theorem place_ok {w : World} {v : Value} {l : List Str} {x : Str} (h : Sl w 1 v l.length (encS l)) :
    Ret PR 13 #[v, str x] w (fun r w' => ((x ∉ l ∧ r = .int .i64 (-1)) ∨ ∃ k : Nat, ∃ hk : k < l.length, l[k] = x ∧ x ∉ l.take k ∧ r = .int .i64 (k : Int)) ∧ w' = w) := by
  refine f13_ret ?_
  unfold f13
  simp only [h.len, vs]
  refine for1 h.2.1 (fun k w' => w' = w ∧ x ∉ l.take k) ⟨rfl, by simp⟩ ?_ ?_
  · rintro k wa hk ⟨rfl, hno⟩ K hK
    rw [h.get (by omega) (by omega) (encS_at l hk)]
    simp only [str_eq, vs]
    by_cases he : l[k] = x
    · simp only [he, decide_true, vs]
      exact ⟨.inr ⟨k, hk, he, hno, by trivial⟩, by trivial⟩
    · simp only [he, decide_false, vs]
      have := h.2.1
      simp (disch := omega) only [ar, vs]
      refine hK _ ⟨rfl, ?_⟩
      rw [List.take_succ_eq_append_getElem hk]
      simp only [List.mem_append, List.mem_singleton, not_or]
      exact ⟨hno, fun e => he e.symm⟩
  · rintro wa ⟨rfl, hno⟩
    rw [List.take_length] at hno
    exact ⟨.inl ⟨hno, by trivial⟩, by trivial⟩

theorem sameS_ok {w : World} {v1 v2 : Value} {l1 l2 : List Str} (h1 : Sl w 1 v1 l1.length (encS l1)) (h2 : Sl w 1 v2 l2.length (encS l2)) : Ret PR 12 #[v1, v2] w (fun r w' => r = .bool (decide (l1 = l2)) ∧ Ext No w w') := by
  suffices hs : ∀ R : Kv, (∀ w', Ext No w w' → R (.bool (decide (l1 = l2))) w') → f12 v1 v2 w R from f12_ret (hs _ fun w' he => ⟨rfl, he⟩)
  intro R hR
  unfold f12
  have hb1 := h1.2.1
  simp only [h1.len, h2.len, vs, beq_dec]
  by_cases hl : l1.length = l2.length
  case neg =>
    rw [show decide ((l1.length : Int) = l2.length) = false from decide_eq_false (by omega)]
    simp only [vs]
    have : decide (l1 = l2) = false := decide_eq_false fun e => hl (by rw [e])
    rw [this] at hR
    exact hR _ (Ext.refl _ _)
  rw [show decide ((l1.length : Int) = l2.length) = true from decide_eq_true (by omega)]
  simp only [vs]
  refine for1 h1.2.1 (fun i w' => Ext No w w' ∧ ∀ j (hj : j < l1.length) (hj2 : j < l2.length), j < i → l1[j] = l2[j]) ⟨Ext.refl _ _, fun j _ _ h => by omega⟩ ?_ ?_
  · rintro i wa hi ⟨he, hall⟩ K hK
    have s1 := h1.ext he.drew fun _ _ h => h
    have s2 := h2.ext he.drew fun _ _ h => h
    have hi2 : i < l2.length := by omega
    obtain ⟨b1, o1, _, _, e1, g1⟩ := s1.at (k := .i64) (i := i) (by omega) (by omega)
    obtain ⟨b2, o2, _, _, e2, g2⟩ := s2.at (k := .i64) (i := i) (by omega) (by omega)
    have c1 := g1 0 (str l1[i]) (by omega) (by rw [Nat.mul_one, Nat.add_zero]; exact encS_at l1 hi)
    have c2 := g2 0 (str l2[i]) (by omega) (by rw [Nat.mul_one, Nat.add_zero]; exact encS_at l2 hi2)
    rw [Nat.add_zero] at c1 c2
    simp only [e1, e2, vs, l1_eq c1, l1_eq c2, str_eq]
    by_cases heq : l1[i] = l2[i]
    · simp (disch := omega) only [heq, decide_true, vs, ar]
      refine hK _ ⟨he.drew, fun j hj hj2 hji => ?_⟩
      by_cases e : j = i
      · subst e; exact heq
      · exact hall j hj hj2 (by omega)
    · simp only [heq, decide_false, vs]
      have : decide (l1 = l2) = false := decide_eq_false fun e => by subst e; exact heq rfl
      rw [this] at hR
      exact hR _ he.drew
  · rintro wa ⟨he, hall⟩
    have : decide (l1 = l2) = true := decide_eq_true (List.ext_getElem hl fun j hj hj2 => hall j hj hj2 hj)
    rw [this] at hR
    exact hR _ he

end Go.Proofs.Ythhpdcegkbfijaa.Sh
