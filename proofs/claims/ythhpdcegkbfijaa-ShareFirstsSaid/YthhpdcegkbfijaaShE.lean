/-
  share: usages as plain data; what an order is; reading usages in memory.
-/
import Derived.Test.YthhpdcegkbfijaaShD
namespace Go.Proofs.Ythhpdcegkbfijaa.Sh
open Go.Proofs.Ythhpdcegkbfijaa.V Go.Proofs.Ythhpdcegkbfijaa.T
set_option linter.all false
set_option maxRecDepth 100000
set_option linter.unusedVariables false
set_option linter.unusedSimpArgs false
set_option linter.unnecessarySimpa false

structure Us where
  nm : Str
  wt : Int
  u0 : Int
  u1 : Int
  u2 : Int
  u3 : Int
def Us.us (u : Us) : List Int := [u.u0, u.u1, u.u2, u.u3]
def uC (u : Us) : List Value := [str u.nm, .int .i64 u.wt, .int .i64 u.u0, .int .i64 u.u1, .int .i64 u.u2, .int .i64 u.u3]
theorem uC_len (u : Us) : (uC u).length = 6 := rfl
def UsL (w : World) (v : Value) (l : List Us) : Prop := Sl w 6 v l.length (l.flatMap uC)
theorem UsL.at {w : World} {v : Value} {l : List Us} (h : UsL w v l) {i : Nat} (hi : i < l.length) :
    ∃ g o, inB v g ∧ ixsO 6 v (.int .i64 (i : Int)) = some (.pointer (some ⟨g, o, none⟩)) ∧ ∀ j, j < 6 → w.cell? ⟨g, o + j, none⟩ = (uC l[i])[j]? := by
  obtain ⟨b, o, h1, h2, h3, h4⟩ := Sl.at h (k := .i64) (i := i) (by omega) (by omega)
  refine ⟨b, o, h1, h3, fun j hj => ?_⟩
  have hlen : j < (uC l[i]).length := hj
  rw [List.getElem?_eq_getElem hlen]
  refine h4 j _ hj ?_
  have := flat_at uC uC_len hj l i hi
  rw [Int.toNat_natCast, this, List.getElem?_eq_getElem hlen]
theorem UsL.ext {S : Nat → Prop} {w w' : World} {v : Value} {l : List Us} (h : UsL w v l) (he : Ext S w w') (hn : ∀ k, inB v k → ¬ S k) : UsL w' v l := Sl.ext h he hn

/-- the greatest share, by going through -/
def stepV (wt : Nat) (best : Nat × Nat) (n a : Nat) : Nat × Nat := if a = 0 then best else if best.1 * (a * wt) < n * best.2 then (n, a * wt) else best
def bestK (v all : List Int) (wt : Int) : Nat → Nat × Nat
  | 0 => (0, 1)
  | k + 1 => stepV wt.toNat (bestK v all wt k) (v.getD k 0).toNat (all.getD k 0).toNat
theorem natL_getD (l : List Nat) {k : Nat} (hk : k < l.length) : ((natL l).getD k 0).toNat = l[k] := by
  unfold natL
  rw [List.getD_eq_getElem?_getD, List.getElem?_map, List.getElem?_eq_getElem hk]; rfl
theorem bestK_is {vn an : List Nat} {wn : Nat} (hv : vn.length = 4) (ha : an.length = 4) (hw : 0 < wn) : ∀ k, k ≤ 4 → IsShare vn an wn k (bestK (natL vn) (natL an) (wn : Int) k).1 (bestK (natL vn) (natL an) (wn : Int) k).2
  | 0, _ => ⟨by show 0 < 1; omega, fun i _ _ h => by omega, .inl rfl⟩
  | k + 1, hk => by
    have ih := bestK_is hv ha hw k (by omega)
    have hkv : k < vn.length := by omega
    have hka : k < an.length := by omega
    unfold bestK stepV
    rw [natL_getD vn hkv, natL_getD an hka, Int.toNat_natCast]
    generalize bestK (natL vn) (natL an) (wn : Int) k = p at *
    by_cases h0 : an[k] = 0
    · rw [if_pos h0]; exact ih.skip hka h0
    · rw [if_neg h0]
      by_cases h1 : p.1 * (an[k] * wn) < vn[k] * p.2
      · rw [if_pos h1]
        exact ih.take hkv hka h0 (Nat.mul_pos (by omega) hw) rfl (Nat.le_of_lt h1)
      · rw [if_neg h1]
        exact ih.keep hkv hka (by omega)
def shareV (whole : List Int) (u : Us) : Nat × Nat := bestK u.us whole u.wt 4
def ltU (whole : List Int) (a b : Us) : Prop := (shareV whole a).1 * (shareV whole b).2 < (shareV whole b).1 * (shareV whole a).2 ∨ ((shareV whole a).1 * (shareV whole b).2 = (shareV whole b).1 * (shareV whole a).2 ∧ a.nm < b.nm)
def okU (whole : List Int) (u : Us) : Prop := errS u.us whole u.wt = 0

theorem errS_zero {v all : List Int} {wt : Int} (h : errS v all wt = 0) : formed v = true ∧ formed all = true ∧ 1 ≤ wt ∧ wt ≤ 1000 := by
  unfold errS at h
  split at h
  · rename_i h1
    rw [Bool.and_eq_true] at h1
    split at h
    · rename_i h2; exact ⟨h1.1, h1.2, h2.1, h2.2⟩
    · omega
  · omega
theorem shareV_is {whole : List Int} (hw : whole.length = 4) {u : Us} (h : okU whole u) : ∃ vn an, ∃ wn : Nat, u.us = natL vn ∧ whole = natL an ∧ u.wt = wn ∧ 0 < wn ∧ IsShare vn an wn 4 (shareV whole u).1 (shareV whole u).2 := by
  obtain ⟨h1, h2, h3, h4⟩ := errS_zero h
  obtain ⟨vn, hv, _⟩ := formed_nat h1
  obtain ⟨an, ha, _⟩ := formed_nat h2
  obtain ⟨wn, hwn⟩ : ∃ wn : Nat, u.wt = wn := ⟨u.wt.toNat, by omega⟩
  have hvl : vn.length = 4 := by rw [← natL_len, ← hv]; rfl
  have hal : an.length = 4 := by rw [← natL_len, ← ha]; exact hw
  refine ⟨vn, an, wn, hv, ha, hwn, by omega, ?_⟩
  unfold shareV
  rw [hv, ha, hwn]
  exact bestK_is hvl hal (by omega) 4 (by omega)
theorem shareV_pos {whole : List Int} (hw : whole.length = 4) {u : Us} (h : okU whole u) : 0 < (shareV whole u).2 := by
  obtain ⟨_, _, _, _, _, _, _, h1⟩ := shareV_is hw h; exact h1.pos
theorem natL_inj : ∀ {a b : List Nat}, natL a = natL b → a = b
  | [], [], _ => rfl
  | [], _ :: _, h => by simp [natL] at h
  | _ :: _, [], h => by simp [natL] at h
  | a :: l, b :: m, h => by
    unfold natL at h
    rw [List.map_cons, List.map_cons, List.cons.injEq] at h
    rw [natL_inj (a := l) (b := m) h.2, show a = b by omega]
/-- any other that is the greatest share has the same value -/
theorem shareV_uniq {whole : List Int} (hw : whole.length = 4) {u : Us} (h : okU whole u) {vn an : List Nat} {wn N D : Nat} (h1 : u.us = natL vn) (h2 : whole = natL an) (h3 : u.wt = wn) (hs : IsShare vn an wn 4 N D) : N * (shareV whole u).2 = (shareV whole u).1 * D := by
  obtain ⟨vn', an', wn', g1, g2, g3, g4, g5⟩ := shareV_is hw h
  have e1 := natL_inj (h1.symm.trans g1)
  have e2 := natL_inj (h2.symm.trans g2)
  have e3 : wn = wn' := by omega
  subst e1; subst e2; subst e3
  exact IsShare.uniq g4 hs g5

theorem cross_le {a b c d a' b' c' d' : Nat} (hb : 0 < b) (hd : 0 < d) (h1 : a * b' = a' * b) (h2 : c * d' = c' * d) (h : a * d ≤ c * b) : a' * d' ≤ c' * b' :=
  frac_le (N := c) (D := d) hd (frac_le (N := a) (D := b) hb (Nat.le_of_eq h1.symm) h) (Nat.le_of_eq h2)
theorem cross_iff {a b c d a' b' c' d' : Nat} (hb : 0 < b) (hd : 0 < d) (hb' : 0 < b') (hd' : 0 < d') (h1 : a * b' = a' * b) (h2 : c * d' = c' * d) : (a * d < c * b ↔ a' * d' < c' * b') ∧ (a * d = c * b ↔ a' * d' = c' * b') := by
  have p1 : a * d ≤ c * b ↔ a' * d' ≤ c' * b' := ⟨cross_le hb hd h1 h2, cross_le hb' hd' h1.symm h2.symm⟩
  have p2 : c * b ≤ a * d ↔ c' * b' ≤ a' * d' := ⟨cross_le hd hb h2 h1, cross_le hd' hb' h2.symm h1.symm⟩
  constructor
  · constructor
    · intro h; have := mt p2.2 (by omega : ¬ c * b ≤ a * d); omega
    · intro h; have := mt p2.1 (by omega : ¬ c' * b' ≤ a' * d'); omega
  · constructor
    · intro h; have := p1.1 (by omega); have := p2.1 (by omega); omega
    · intro h; have := p1.2 (by omega); have := p2.2 (by omega); omega

inductive OrdR (whole : List Int) (l : List Us) : List Str → Int → Prop
  | err (i : Nat) (hi : i < l.length) (h0 : ∀ j (hj : j < l.length), j < i → okU whole l[j]) (h1 : errS l[i].us whole l[i].wt ≠ 0) : OrdR whole l [] (errS l[i].us whole l[i].wt)
  | dup (h : ∀ u, u ∈ l → okU whole u) (h1 : ¬ (l.map (·.nm)).Nodup) : OrdR whole l [] 5
  | ok (h : ∀ u, u ∈ l → okU whole u) (h1 : (l.map (·.nm)).Nodup) (p : List Us) (hp : p.Perm l) (hs : p.Pairwise (ltU whole)) : OrdR whole l (p.map (·.nm)) 0

/-! ### the order is one -/
theorem ltU_irrefl (whole : List Int) (a : Us) : ¬ ltU whole a a := by
  rintro (h | ⟨_, h⟩)
  · omega
  · exact s_irrefl _ h
theorem ltU_trans {whole : List Int} {a b c : Us} (ha : 0 < (shareV whole a).2) (hb : 0 < (shareV whole b).2) (hc : 0 < (shareV whole c).2) (h1 : ltU whole a b) (h2 : ltU whole b c) : ltU whole a c := by
  rcases h1 with h1 | ⟨h1, h3⟩
  · refine .inl ?_
    rcases h2 with h2 | ⟨h2, _⟩
    · exact frac_lt hb ha hc h1 (Nat.le_of_lt h2)
    · exact frac_lt hb ha hc h1 (Nat.le_of_eq h2)
  · rcases h2 with h2 | ⟨h2, h4⟩
    · exact .inl (frac_lt' hb ha (Nat.le_of_eq h1) h2)
    · exact .inr ⟨frac_eq hb h1 h2, s_trans h3 h4⟩
theorem ltU_tot {whole : List Int} {a b : Us} (h : a.nm ≠ b.nm) : ltU whole a b ∨ ltU whole b a := by
  unfold ltU
  rcases Nat.lt_trichotomy ((shareV whole a).1 * (shareV whole b).2) ((shareV whole b).1 * (shareV whole a).2) with h1 | h1 | h1
  · exact .inl (.inl h1)
  · rcases s_tot h with h2 | h2
    · exact .inl (.inr ⟨h1, h2⟩)
    · exact .inr (.inr ⟨h1.symm, h2⟩)
  · exact .inr (.inl h1)

/-- two sorted lists of the same are one -/
theorem sorted_uniq {α : Type} {lt : α → α → Prop} (hi : ∀ a, ¬ lt a a) (has : ∀ a b, lt a b → lt b a → False) : ∀ {l m : List α}, l.Pairwise lt → m.Pairwise lt → l.Perm m → l = m
  | [], m, _, _, h => (List.Perm.nil_eq h)
  | a :: l, [], _, _, h => absurd h.length_eq (by simp)
  | a :: l, b :: m, h1, h2, h => by
    obtain ⟨a1, a2⟩ := List.pairwise_cons.1 h1
    obtain ⟨b1, b2⟩ := List.pairwise_cons.1 h2
    have hab : a = b := by
      rcases List.mem_cons.1 (h.mem_iff.1 (List.mem_cons_self .. : a ∈ a :: l)) with e | e
      · exact e
      · rcases List.mem_cons.1 (h.mem_iff.2 (List.mem_cons_self .. : b ∈ b :: m)) with e' | e'
        · exact e'.symm
        · exact (has _ _ (a1 b e') (b1 a e)).elim
    subst hab
    rw [sorted_uniq hi has a2 b2 (List.Perm.cons_inv h)]

end Go.Proofs.Ythhpdcegkbfijaa.Sh
