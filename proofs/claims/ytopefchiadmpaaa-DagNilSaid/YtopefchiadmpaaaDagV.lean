/-
  The reference: SameInts, Parents, Put.
-/
import Derived.Test.YtopefchiadmpaaaDagU
namespace Go.Proofs.Ytopefchiadmpaaa.Dag
open Go.Proofs.Ytopefchiadmpaaa.V Go.Proofs.Ytopefchiadmpaaa.T
set_option linter.all false
set_option linter.unusedVariables false
set_option linter.unusedSimpArgs false
set_option linter.unnecessarySimpa false

theorem same_ok {w : World} {v1 v2 : Value} {l1 l2 : List Int} (h1 : Sl w 1 v1 l1.length (enc l1)) (h2 : Sl w 1 v2 l2.length (enc l2)) : Ret PR 21 #[v1, v2] w (fun r w' => r = .bool (decide (l1 = l2)) ∧ Ext No w w') := by
  suffices hs : ∀ R : Kv, (∀ w', Ext No w w' → R (.bool (decide (l1 = l2))) w') → f21 v1 v2 w R from f21_ret (hs _ fun w' he => ⟨rfl, he⟩)
  intro R hR
  unfold f21
  have hb1 := h1.2.1
  simp only [h1.len, h2.len, vs, beq_dec]
  by_cases hl : l1.length = l2.length
  case neg =>
    rw [show decide ((l1.length : Int) = l2.length) = false from decide_eq_false (by omega)]
    simp only [vs]
    have : decide (l1 = l2) = false := decide_eq_false fun e => hl (by rw [e])
    rw [this] at hR
    exact hR _ (Ext.refl _ _)
  rw [show decide ((l1.length : Int) = l2.length) = true from decide_eq_true (by omega)]
  simp only [vs]
  refine for1 h1.2.1 (fun i w' => Ext No w w' ∧ ∀ j (hj : j < l1.length) (hj2 : j < l2.length), j < i → l1[j] = l2[j]) ⟨Ext.refl _ _, fun j _ _ h => by omega⟩ ?_ ?_
  · rintro i wa hi ⟨he, hall⟩ K hK
    have s1 : Sl wa.drew 1 v1 l1.length (l1.map (Value.int .i64)) := h1.ext he.drew fun _ _ h => h
    have s2 : Sl wa.drew 1 v2 l2.length (l2.map (Value.int .i64)) := h2.ext he.drew fun _ _ h => h
    obtain ⟨p1, e1, g1⟩ := s1.at1 hi
    obtain ⟨p2, e2, g2⟩ := s2.at1 (i := i) (by omega)
    simp only [e1, e2, vs, g1, g2, beq_dec]
    by_cases heq : l1[i] = l2[i]
    · rw [show decide (l1[i] = l2[i]) = true from decide_eq_true heq]
      simp (disch := omega) only [vs, ar]
      refine hK _ ⟨he.drew, fun j hj hj2 hji => ?_⟩
      by_cases e : j = i
      · subst e; exact heq
      · exact hall j hj hj2 (by omega)
    · rw [show decide (l1[i] = l2[i]) = false from decide_eq_false heq]
      simp only [vs]
      have : decide (l1 = l2) = false := decide_eq_false fun e => by subst e; exact heq rfl
      rw [this] at hR
      exact hR _ he.drew
  · rintro wa ⟨he, hall⟩
    have : decide (l1 = l2) = true := decide_eq_true (List.ext_getElem hl fun j hj hj2 => hall j hj hj2 hj)
    rw [this] at hR
    exact hR _ he

theorem parentsR_ok {w : World} {c : Nat} {js : List JobD} {lv : Value} (h : RefV w c js lv) (x : Int) :
    Ret PR 22 #[ptr c, .int .i64 x] w (fun r w' => w' = w ∧ ((∃ j, j ∈ js ∧ jobR js x = some j ∧ r = .tuple #[j.pv, .int .i64 0]) ∨ (jobR js x = none ∧ r = .tuple #[.slice none 0 0, .int .i64 3]))) := by
  refine f22_ret ?_
  unfold f22
  refine (find_ok h x).mono ?_
  rintro _ wx ⟨rfl, ⟨i, hi, rfl, hid, hjob⟩ | ⟨rfl, hno, hjob⟩⟩
  · obtain ⟨b, o, h1, c0, c1, c2⟩ := h.at hi
    simp only [ar]
    rw [show decide ((i : Int) < 0) = false from decide_eq_false (by omega)]
    simp only [ptr, vs, Nat.add_zero, l1_eq h.cell, h1, l1_eq c1]
    exact ⟨by trivial, .inl ⟨js[i], List.getElem_mem hi, hjob, by trivial⟩⟩
  · simp only [ar, vs, show decide ((-1 : Int) < 0) = true from rfl]
    exact ⟨by trivial, .inr ⟨hjob, by trivial⟩⟩

/-- a number put into a rising list -/
def insAt {α : Type} (l : List α) (k : Nat) (x : α) : List α := l.take k ++ x :: l.drop k
theorem insAt_len {α : Type} (l : List α) {k : Nat} (hk : k ≤ l.length) (x : α) : (insAt l k x).length = l.length + 1 := by simp [insAt]; omega
theorem insAt_mem {α : Type} (l : List α) (k : Nat) (x y : α) : y ∈ insAt l k x ↔ y ∈ l ∨ y = x := by
  unfold insAt
  conv => rhs; rw [← List.take_append_drop k l]
  simp only [List.mem_append, List.mem_cons]
  constructor
  · rintro (h | rfl | h)
    · exact .inl (.inl h)
    · exact .inr rfl
    · exact .inl (.inr h)
  · rintro ((h | h) | rfl)
    · exact .inl h
    · exact .inr (.inr h)
    · exact .inr (.inl rfl)
theorem insAt_sorted' {α : Type} (key : α → Int) {l : List α} (hs : l.Pairwise fun a b => key a < key b) {k : Nat} {x : α} (h1 : ∀ j (hj : j < l.length), j < k → key l[j] < key x) (h2 : ∀ j (hj : j < l.length), k ≤ j → key x < key l[j]) : (insAt l k x).Pairwise fun a b => key a < key b := by
  unfold insAt
  rw [List.pairwise_append]
  refine ⟨hs.sublist (List.take_sublist _ _), ?_, ?_⟩
  · rw [List.pairwise_cons]
    refine ⟨fun y hy => ?_, hs.sublist (List.drop_sublist _ _)⟩
    obtain ⟨j, hj, rfl⟩ := List.mem_drop_iff_getElem.1 hy
    exact h2 _ (by omega) (by omega)
  · intro a ha b hb
    obtain ⟨j, hj, rfl⟩ := List.mem_take_iff_getElem.1 ha
    have haj := h1 j (by omega) (by omega)
    rcases List.mem_cons.1 hb with rfl | hb
    · exact haj
    · obtain ⟨m, hm, rfl⟩ := List.mem_drop_iff_getElem.1 hb
      have := h2 (k + m) (by omega) (by omega)
      omega

theorem insAt_sorted {l : List Int} (hs : l.Pairwise (· < ·)) {k : Nat} {x : Int} (h1 : ∀ j (hj : j < l.length), j < k → l[j] < x) (h2 : ∀ j (hj : j < l.length), k ≤ j → x < l[j]) : (insAt l k x).Pairwise (· < ·) :=
  insAt_sorted' (fun a => a) hs h1 h2

theorem ins_shift {α : Type} {l : List α} {k : Nat} (hk : 0 < k) (hkl : k ≤ l.length) (y : α) : (insAt l k y).set k (l[k - 1]'(by omega)) = insAt l k (l[k - 1]'(by omega)) := by
  unfold insAt
  rw [List.set_append_right _ _ (by simp; omega)]
  simp [Nat.min_eq_left hkl]
theorem ins_same {α : Type} {l : List α} {k : Nat} (hk : 0 < k) (hkl : k ≤ l.length) : insAt l k (l[k - 1]'(by omega)) = insAt l (k - 1) (l[k - 1]'(by omega)) := by
  unfold insAt
  obtain ⟨m, rfl⟩ : ∃ m, k = m + 1 := ⟨k - 1, by omega⟩
  simp only [Nat.add_sub_cancel]
  rw [List.take_succ_eq_append_getElem (by omega), List.append_assoc, List.drop_eq_getElem_cons (i := m) (by omega)]
  rfl
theorem ins_get {α : Type} {l : List α} {k j : Nat} (hj : j < k) (hkl : k ≤ l.length) (y : α) : (insAt l k y)[j]? = some (l[j]'(by omega)) := by
  unfold insAt
  rw [List.getElem?_append_left (by simp; omega), List.getElem?_take, if_pos hj, List.getElem?_eq_getElem (by omega)]
theorem ins_set {α : Type} {l : List α} {k : Nat} (hkl : k ≤ l.length) (x y : α) : (insAt l k y).set k x = insAt l k x := by
  unfold insAt
  rw [List.set_append_right _ _ (by simp; omega)]
  simp [Nat.min_eq_left hkl]
theorem enc_set (l : List Int) (k : Nat) (x : Int) : (enc l).set k (.int .i64 x) = enc (l.set k x) := by simp [enc, List.map_set]

theorem put_ok {w : World} {v : Value} {l : List Int} {x : Int} (h : Own w 2 1 v l.length (enc l)) (hl : l.length ≤ 100000) (hs : l.Pairwise (· < ·)) :
    Ret PR 33 #[v, .int .i64 x] w (fun r w' => ∃ l', Own w' 2 1 r l'.length (enc l') ∧ l'.Pairwise (· < ·) ∧ (∀ y, y ∈ l' ↔ y ∈ l ∨ y = x) ∧ Ext (inB v) w w' ∧ ∀ m, inB r m → inB v m ∨ w.heap.size ≤ m) := by
  suffices hq : ∀ R : Kv, (∀ r w' l', Own w' 2 1 r l'.length (enc l') → l'.Pairwise (· < ·) → (∀ y, y ∈ l' ↔ y ∈ l ∨ y = x) → Ext (inB v) w w' → (∀ m, inB r m → inB v m ∨ w.heap.size ≤ m) → R r w') → f33 v (.int .i64 x) w R from
    f33_ret (hq _ fun r w' l' h1 h2 h3 h4 h5 => ⟨l', h1, h2, h3, h4, h5⟩)
  intro R hR
  unfold f33
  refine (In_ok (h.sl (by omega))).mono ?_
  rintro _ w' ⟨rfl, rfl⟩
  by_cases hin : x ∈ l
  · simp only [hin, decide_true, vs]
    exact hR _ _ l h hs (fun y => ⟨.inl, fun h => h.elim id fun e => e ▸ hin⟩) (Ext.refl _ _) fun m hm => .inl hm
  simp only [hin, decide_false, vs]
  refine push_ok h (by omega) fun v2 w2 ho2 he2 hv2 => ?_
  have hsl2 : Sl w2 1 v2 (l ++ [x]).length (enc (l ++ [x])) := ho2.sl (by simp; omega)
  have hlen : (l ++ [x]).length = l.length + 1 := by simp
  rw [hlen] at ho2 hsl2
  simp (disch := omega) only [hsl2.len, vs, ar]
  rw [show (((l.length + 1 : Nat) : Int) - 1) = (l.length : Int) by omega]
  have h0 : insAt l l.length x = l ++ [x] := by simp [insAt]
  -- k: the hole; what lies behind it is greater than x
  refine loopG (Γ := Nat × Int) (fun γ y w' => y = .int .i64 γ.1 ∧ γ.1 ≤ l.length ∧ Own w' 2 1 v2 (l.length + 1) (enc (insAt l γ.1 γ.2)) ∧ Ext (inB v2) w2 w' ∧ ∀ j (hj : j < l.length), γ.1 ≤ j → x < l[j]) (fun γ => γ.1) (l.length, x) ⟨rfl, Nat.le_refl _, by simp only [h0]; exact ho2, Ext.refl _ _, fun j hj h => by simp only at h; omega⟩ ?_
  rintro ⟨k, y⟩ _ wa ⟨rfl, hk, hoa, hea, hgt⟩ K hK _
  simp only at hk hoa hgt
  have hE : Ext (inB v) w' wa := he2.trans hea fun m hm hv => (hv2 m hv).resolve_right (by omega)
  have hslA : Sl wa 1 v2 (l.length + 1) (enc (insAt l k y)) := hoa.sl (by omega)
  -- the last store
  have fin : (∀ j (hj : j < l.length), j < k → l[j] < x) → pO (ixsO 1 v2 (.int .i64 (k : Int))) (fun v155 => stW 1 v155 (.int .i64 x) wa fun w156 => R v2 w156) := fun hlt => by
    refine hoa.putInt (by omega) fun wb hob heb hszb => ?_
    rw [enc_set, ins_set hk] at hob
    refine hR _ _ (insAt l k x) (by rw [insAt_len l hk]; exact hob) (insAt_sorted hs hlt hgt) (fun z => insAt_mem l k x z) (hE.trans heb fun m hm hv => (hv2 m hv).resolve_right (by omega)) hv2
  simp only [ar, vs]
  by_cases hk0 : k = 0
  · subst hk0
    rw [show decide (((0 : Nat) : Int) > 0) = false from rfl]
    simp only [vs]
    exact fin fun j hj h => by omega
  rw [show decide ((k : Int) > 0) = true from decide_eq_true (by omega)]
  have hk1 : ((k : Int)) - 1 = ((k - 1 : Nat) : Int) := by omega
  have hgk : (enc (insAt l k y))[(((k - 1 : Nat) : Int)).toNat]? = some (.int .i64 (l[k - 1]'(by omega))) := by
    rw [Int.toNat_natCast, enc_get, ins_get (by omega) hk]; rfl
  simp (disch := omega) only [vs, ar]
  rw [hk1, hslA.get (by omega) (by omega) hgk]
  simp only [vs, ar]
  by_cases hgtk : (l[k - 1]'(by omega)) > x
  · rw [show decide ((l[k - 1]'(by omega)) > x) = true from decide_eq_true hgtk]
    simp (disch := omega) only [vs, ar]
    rw [hslA.get (by omega) (by omega) hgk]
    refine hoa.putInt (by omega) fun wb hob heb hszb => ?_
    rw [enc_set, ins_set hk, ins_same (by omega) hk] at hob
    try simp (disch := omega) only [vs, ar]
    try rw [hk1]
    refine hK (k - 1, l[k - 1]'(by omega)) _ _ ⟨rfl, by simp only; omega, hob, hea.trans heb fun m hm h => h, fun j hj hjk => ?_⟩ (by simp only; omega)
    simp only at hjk
    by_cases e : j = k - 1
    · subst e; exact hgtk
    · exact hgt j hj (by omega)
  · rw [show decide ((l[k - 1]'(by omega)) > x) = false from decide_eq_false hgtk]
    simp only [vs]
    refine fin fun j hj hjk => ?_
    have hne : (l[k - 1]'(by omega)) ≠ x := fun e => hin (e ▸ List.getElem_mem _)
    by_cases e : j = k - 1
    · subst e; omega
    · have := (List.pairwise_iff_getElem.1 hs) j (k - 1) hj (by omega) (by omega)
      omega

end Go.Proofs.Ytopefchiadmpaaa.Dag
