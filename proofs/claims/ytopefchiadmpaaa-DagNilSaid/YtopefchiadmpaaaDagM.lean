/-
  The graph as plain data, and how it lies in memory.
-/
import Derived.Test.YtopefchiadmpaaaDagA
import Derived.Test.YtopefchiadmpaaaDagP
namespace Go.Proofs.Ytopefchiadmpaaa.Dag
open Go.Proofs.Ytopefchiadmpaaa.V Go.Proofs.Ytopefchiadmpaaa.T
set_option linter.all false
set_option linter.unusedVariables false
set_option linter.unusedSimpArgs false
set_option linter.unnecessarySimpa false

structure RepV (w : World) (b : Nat) (g : G) (pv cv : Int → Value) : Prop where
  lt : b < w.heap.size
  c0 : ∀ i, InA i → w.cell? ⟨b, 4 * i.toNat, none⟩ = some (.int .i64 (g.st i))
  c1 : ∀ i, InA i → w.cell? ⟨b, 4 * i.toNat + 1, none⟩ = some (pv i)
  c2 : ∀ i, InA i → w.cell? ⟨b, 4 * i.toNat + 2, none⟩ = some (cv i)
  c3 : ∀ i, InA i → w.cell? ⟨b, 4 * i.toNat + 3, none⟩ = some (.int .i64 (g.pd i))
  fz : ∀ j, w.frozen? ⟨b, j, none⟩ = false
  par : ∀ i, InA i → Own w 2 1 (pv i) (g.par i).length (enc (g.par i))
  parB : ∀ i, InA i → ¬ inB (pv i) b
  ch : ∀ i, InA i → Own w 2 1 (cv i) (g.ch i).length (enc (g.ch i))
  chB : ∀ i, InA i → ¬ inB (cv i) b
  dis : ∀ i j k, InA i → InA j → i ≠ j → inB (cv i) k → ¬ inB (cv j) k
  dpc : ∀ i j k, InA i → InA j → inB (cv i) k → ¬ inB (pv j) k

def foot (b : Nat) (pv cv : Int → Value) : Nat → Prop := fun k => k = b ∨ ∃ i, InA i ∧ (inB (pv i) k ∨ inB (cv i) k)

theorem RepV.foot_lt {w : World} {b : Nat} {g : G} {pv cv : Int → Value} (h : RepV w b g pv cv) {k : Nat} (hk : foot b pv cv k) : k < w.heap.size := by
  rcases hk with rfl | ⟨i, hi, hk | hk⟩
  · exact h.lt
  · exact (h.par i hi).lt hk
  · exact (h.ch i hi).lt hk

theorem RepV.ext {S : Nat → Prop} {w w' : World} {b : Nat} {g : G} {pv cv : Int → Value} (h : RepV w b g pv cv) (he : Ext S w w') (hn : ∀ k, foot b pv cv k → ¬ S k) : RepV w' b g pv cv := by
  have hb : ¬ S b := hn b (.inl rfl)
  have hblk : w'.heap[b]? = w.heap[b]? := he.block b h.lt hb
  refine ⟨Nat.lt_of_lt_of_le h.lt he.size, fun i hi => he.cell (h.c0 i hi) hb, fun i hi => he.cell (h.c1 i hi) hb, fun i hi => he.cell (h.c2 i hi) hb, fun i hi => he.cell (h.c3 i hi) hb, fun j => ?_, ?_, h.parB, ?_, h.chB, h.dis, h.dpc⟩
  · rw [World.frozen?_of_block (w := w) (w' := w') hblk]; exact h.fz j
  · exact fun i hi => (h.par i hi).ext he fun k hk => hn k (.inr ⟨i, hi, .inl hk⟩)
  · exact fun i hi => (h.ch i hi).ext he fun k hk => hn k (.inr ⟨i, hi, .inr hk⟩)

theorem cell_set {w : World} {b o o' : Nat} {v u x : Value} (h : w.cell? ⟨b, o, none⟩ = some u) (h' : w.cell? ⟨b, o', none⟩ = some x) : (w.setCell ⟨b, o, none⟩ v).cell? ⟨b, o', none⟩ = some (if o' = o then v else x) := by
  by_cases e : o' = o
  · subst e
    rw [if_pos rfl]; exact World.cell?_setCell_same w _ _ h
  · rw [if_neg e, World.cell?_setCell_other _ _ _ _ (by simpa using fun h => e h.symm)]; exact h'

theorem set_ext (w : World) (b o : Nat) (v : Value) : Ext (fun k => k = b) w (w.setCell ⟨b, o, none⟩ v) := Ext.setCell (S := fun k => k = b) (Ext.refl _ w) (fun _ => rfl) v

/-- What is written into the graph's own block. -/
theorem RepV.write {w : World} {b : Nat} {g : G} {pv cv : Int → Value} (h : RepV w b g pv cv) {o : Nat} {v u : Value} (hu : w.cell? ⟨b, o, none⟩ = some u) :
    (∀ i, InA i → Own (w.setCell ⟨b, o, none⟩ v) 2 1 (pv i) (g.par i).length (enc (g.par i))) ∧ (∀ i, InA i → Own (w.setCell ⟨b, o, none⟩ v) 2 1 (cv i) (g.ch i).length (enc (g.ch i))) ∧
    (∀ j, (w.setCell ⟨b, o, none⟩ v).frozen? ⟨b, j, none⟩ = false) ∧ b < (w.setCell ⟨b, o, none⟩ v).heap.size :=
  ⟨fun i hi => (h.par i hi).ext (set_ext w b o v) fun k hk e => h.parB i hi (e ▸ hk), fun i hi => (h.ch i hi).ext (set_ext w b o v) fun k hk e => h.chB i hi (e ▸ hk), fun j => by simp [h.fz j], by simpa using h.lt⟩

theorem RepV.setSt {w : World} {b : Nat} {g : G} {pv cv : Int → Value} (h : RepV w b g pv cv) {i : Int} (hi : InA i) (n : Nat) :
    RepV (w.setCell ⟨b, 4 * i.toNat, none⟩ (.int .i64 n)) b { g with st := upI g.st i n } pv cv := by
  obtain ⟨a1, a2, a3, a4⟩ := h.write (v := .int .i64 n) (h.c0 i hi)
  refine ⟨a4, fun j hj => ?_, fun j hj => ?_, fun j hj => ?_, fun j hj => ?_, a3, a1, h.parB, a2, h.chB, h.dis, h.dpc⟩
  · rw [cell_set (h.c0 i hi) (h.c0 j hj)]
    unfold InA at hi hj
    by_cases e : j = i
    · subst e; simp [upI_same]
    · rw [if_neg (by omega)]; simp [upI_other _ _ e]
  · unfold InA at hi hj; rw [cell_set (h.c0 i hi) (h.c1 j hj), if_neg (by omega)]
  · unfold InA at hi hj; rw [cell_set (h.c0 i hi) (h.c2 j hj), if_neg (by omega)]
  · unfold InA at hi hj; rw [cell_set (h.c0 i hi) (h.c3 j hj), if_neg (by omega)]

theorem RepV.setPd {w : World} {b : Nat} {g : G} {pv cv : Int → Value} (h : RepV w b g pv cv) {i : Int} (hi : InA i) (n : Int) :
    RepV (w.setCell ⟨b, 4 * i.toNat + 3, none⟩ (.int .i64 n)) b { g with pd := upI g.pd i n } pv cv := by
  obtain ⟨a1, a2, a3, a4⟩ := h.write (v := .int .i64 n) (h.c3 i hi)
  refine ⟨a4, fun j hj => ?_, fun j hj => ?_, fun j hj => ?_, fun j hj => ?_, a3, a1, h.parB, a2, h.chB, h.dis, h.dpc⟩
  · unfold InA at hi hj; rw [cell_set (h.c3 i hi) (h.c0 j hj), if_neg (by omega)]
  · unfold InA at hi hj; rw [cell_set (h.c3 i hi) (h.c1 j hj), if_neg (by omega)]
  · unfold InA at hi hj; rw [cell_set (h.c3 i hi) (h.c2 j hj), if_neg (by omega)]
  · rw [cell_set (h.c3 i hi) (h.c3 j hj)]
    unfold InA at hi hj
    by_cases e : j = i
    · subst e; simp [upI_same]
    · rw [if_neg (by omega)]; simp [upI_other _ _ e]

/-- A new row of children, already in memory, is written into its cell. -/
theorem RepV.setCh {w : World} {b : Nat} {g : G} {pv cv : Int → Value} {i : Int} (hi : InA i) {v : Value} {l : List Int} (hlt : b < w.heap.size)
    (c0 : ∀ i, InA i → w.cell? ⟨b, 4 * i.toNat, none⟩ = some (.int .i64 (g.st i))) (c1 : ∀ i, InA i → w.cell? ⟨b, 4 * i.toNat + 1, none⟩ = some (pv i)) (c2 : ∀ i, InA i → w.cell? ⟨b, 4 * i.toNat + 2, none⟩ = some (cv i))
    (c3 : ∀ i, InA i → w.cell? ⟨b, 4 * i.toNat + 3, none⟩ = some (.int .i64 (g.pd i))) (fz : ∀ j, w.frozen? ⟨b, j, none⟩ = false)
    (par : ∀ j, InA j → Own w 2 1 (pv j) (g.par j).length (enc (g.par j))) (parB : ∀ j, InA j → ¬ inB (pv j) b)
    (ch : ∀ j, InA j → j ≠ i → Own w 2 1 (cv j) (g.ch j).length (enc (g.ch j))) (chB : ∀ j, InA j → j ≠ i → ¬ inB (cv j) b)
    (dis : ∀ j k m, InA j → InA k → j ≠ i → k ≠ i → j ≠ k → inB (cv j) m → ¬ inB (cv k) m) (dpc : ∀ j k m, InA j → InA k → j ≠ i → inB (cv j) m → ¬ inB (pv k) m)
    (own : Own w 2 1 v l.length (enc l)) (vB : ¬ inB v b) (vdis : ∀ j m, InA j → j ≠ i → inB v m → ¬ inB (cv j) m) (vdpc : ∀ j m, InA j → inB v m → ¬ inB (pv j) m) :
    RepV (w.setCell ⟨b, 4 * i.toNat + 2, none⟩ v) b { g with ch := upI g.ch i l } pv (upI cv i v) := by
  have hx := set_ext w b (4 * i.toNat + 2) v
  refine ⟨by simpa using hlt, fun j hj => ?_, fun j hj => ?_, fun j hj => ?_, fun j hj => ?_, fun j => by simpa using fz j, fun j hj => (par j hj).ext hx fun k hk e => parB j hj (e ▸ hk), parB, fun j hj => ?_, fun j hj => ?_, ?_, ?_⟩
  · unfold InA at hi hj; rw [cell_set (c2 i hi) (c0 j hj), if_neg (by omega)]
  · unfold InA at hi hj; rw [cell_set (c2 i hi) (c1 j hj), if_neg (by omega)]
  · rw [cell_set (c2 i hi) (c2 j hj)]
    unfold InA at hi hj
    by_cases e : j = i
    · subst e; simp [upI_same]
    · rw [if_neg (by omega)]; simp [upI_other _ _ e]
  · unfold InA at hi hj; rw [cell_set (c2 i hi) (c3 j hj), if_neg (by omega)]
  · by_cases e : j = i
    · subst e; simp only [upI_same]; exact own.ext hx fun k hk e => vB (e ▸ hk)
    · simp only [upI_other _ _ e]; exact (ch j hj e).ext hx fun k hk e' => chB j hj e (e' ▸ hk)
  · by_cases e : j = i
    · subst e; simpa only [upI_same] using vB
    · simpa only [upI_other _ _ e] using chB j hj e
  · intro j k m hj hk hne hm
    by_cases e : j = i
    · subst e
      rw [upI_same] at hm
      rw [upI_other _ _ (fun h => hne h.symm)]
      exact vdis k m hk (fun h => hne h.symm) hm
    · rw [upI_other _ _ e] at hm
      by_cases e2 : k = i
      · subst e2; rw [upI_same]; exact fun h2 => vdis j m hj e h2 hm
      · rw [upI_other _ _ e2]; exact dis j k m hj hk e e2 hne hm
  · intro j k m hj hk hm
    by_cases e : j = i
    · subst e; rw [upI_same] at hm; exact vdpc k m hk hm
    · rw [upI_other _ _ e] at hm; exact dpc j k m hj hk e hm

/-- The graph at block b; F is all that belongs to it. -/
def Rep (w : World) (b : Nat) (g : G) (F : Nat → Prop) : Prop := ∃ pv cv, RepV w b g pv cv ∧ ∀ k, F k ↔ foot b pv cv k
theorem Rep.lt {w : World} {b : Nat} {g : G} {F : Nat → Prop} (h : Rep w b g F) {k : Nat} (hk : F k) : k < w.heap.size := by
  obtain ⟨pv, cv, hr, hF⟩ := h; exact hr.foot_lt ((hF k).1 hk)
theorem Rep.own {w : World} {b : Nat} {g : G} {F : Nat → Prop} (h : Rep w b g F) : F b := by
  obtain ⟨pv, cv, hr, hF⟩ := h; exact (hF b).2 (.inl rfl)
theorem Rep.ext {S F : Nat → Prop} {w w' : World} {b : Nat} {g : G} (h : Rep w b g F) (he : Ext S w w') (hn : ∀ k, F k → ¬ S k) : Rep w' b g F := by
  obtain ⟨pv, cv, hr, hF⟩ := h
  exact ⟨pv, cv, hr.ext he fun k hk => hn k ((hF k).2 hk), hF⟩

def ptr (b : Nat) : Value := .pointer (some ⟨b, 0, none⟩)

/-- at: the node's address, or nil. -/
theorem at_ok {w : World} {b : Nat} {g : G} {F : Nat → Prop} (h : Rep w b g F) (id : Int) :
    Ret PR 29 #[ptr b, .int .i64 id] w (fun r w' => r = (if inR id ∧ g.st id ≠ 0 then .pointer (some ⟨b, 4 * id.toNat, none⟩) else .pointer none) ∧ Ext No w w') := by
  obtain ⟨pv, cv, hr, hF⟩ := h
  suffices hs : ∀ R : Kv, (∀ w', Ext No w w' → R (if inR id ∧ g.st id ≠ 0 then .pointer (some ⟨b, 4 * id.toNat, none⟩) else .pointer none) w') → f29 (ptr b) (.int .i64 id) w R from
    f29_ret (hs _ fun w' he => ⟨rfl, he⟩)
  intro R hR
  unfold f29 ptr
  simp only [vs]
  refine bs1 E31 (by omega) rfl fun v' w1 ho he hk hsz => ?_
  have hsl : Sl w1 1 v' [id].length (enc [id]) := ho.sl (by omega)
  refine (right_ok hsl).mono ?_
  rintro _ w1 ⟨rfl, rfl⟩
  have hr1 := hr.ext he (fun k _ hf => hf)
  by_cases hin : inR id = true
  · have hA : InA id := by have := inR_iff.1 hin; exact ⟨by omega, by omega⟩
    have h2 := hA.2
    have h0 := hA.1
    have hix : ixaO 101 4 (.pointer (some ⟨b, 0 + 0, none⟩)) (.int .i64 id) = some (.pointer (some ⟨b, 4 * id.toNat, none⟩)) := by
      simp only [ixaO]
      rw [if_pos ⟨h0, by omega⟩, add_lit]
      congr 4; omega
    simp only [List.all_cons, List.all_nil, hin, Bool.and_true, vs, hix, Nat.add_zero, l1_eq (hr1.c0 id hA)]
    by_cases hst : g.st id = 0
    · simp only [hst, Int.natCast_zero, beq_self_eq_true, vs]
      have := hR w1 he
      rw [if_neg (by simp [hst])] at this
      exact this
    · have hb : (((g.st id : Nat) : Int) == 0) = false := by simpa using hst
      simp only [hb, vs]
      have := hR w1 he
      rw [if_pos ⟨hin, hst⟩] at this
      exact this
  · have hin' : inR id = false := by simpa using hin
    simp only [List.all_cons, List.all_nil, hin', Bool.false_and, vs]
    have := hR w1 he
    rw [if_neg (by simp [hin'])] at this
    exact this

end Go.Proofs.Ytopefchiadmpaaa.Dag
