/-
  The reference's graph in memory; contracts: find, Free, Parents, SameInts.
-/
import Derived.Test.YtopefchiadmpaaaDagT
import Derived.Test.YtopefchiadmpaaaVRow
namespace Go.Proofs.Ytopefchiadmpaaa.Dag
open Go.Proofs.Ytopefchiadmpaaa.V Go.Proofs.Ytopefchiadmpaaa.T
set_option linter.all false
set_option linter.unusedVariables false
set_option linter.unusedSimpArgs false
set_option linter.unnecessarySimpa false

structure JobD where
  id : Int
  par : List Int
  st : Nat
  pv : Value
def jC (j : JobD) : List Value := [.int .i64 j.id, j.pv, .int .i64 j.st]
theorem jC_get : ∀ (js : List JobD) (i : Nat) (hi : i < js.length), (js.flatMap jC)[i * 3]? = some (.int .i64 js[i].id) ∧ (js.flatMap jC)[i * 3 + 1]? = some js[i].pv ∧ (js.flatMap jC)[i * 3 + 2]? = some (.int .i64 js[i].st)
  | o :: js, 0, _ => ⟨rfl, rfl, rfl⟩
  | o :: js, i + 1, h => by
    have := jC_get js i (by simpa using h)
    rw [show (i + 1) * 3 = i * 3 + 3 by omega]
    exact this

theorem E43 : ElemT PR 43 65 3 40 := .of (z := .agg #[.int .i64 0, .slice none 0 0, .int .i64 0]) (by kernel_rfl) (by kernel_rfl) rfl (by omega)

structure RefV (w : World) (c : Nat) (js : List JobD) (lv : Value) : Prop where
  lt : c < w.heap.size
  cell : w.cell? ⟨c, 0, none⟩ = some lv
  fz : ∀ j, w.frozen? ⟨c, j, none⟩ = false
  own : Own w 65 3 lv js.length (js.flatMap jC)
  par : ∀ j, j ∈ js → Own w 2 1 j.pv j.par.length (enc j.par)
  lvc : ¬ inB lv c
  pvc : ∀ j, j ∈ js → ¬ inB j.pv c
  dis : ∀ j, j ∈ js → ∀ k, inB j.pv k → ¬ inB lv k
  few : js.length ≤ 1000000
def footR (c : Nat) (js : List JobD) (lv : Value) : Nat → Prop := fun k => k = c ∨ inB lv k ∨ ∃ j, j ∈ js ∧ inB j.pv k

theorem RefV.ext {S : Nat → Prop} {w w' : World} {c : Nat} {js : List JobD} {lv : Value} (h : RefV w c js lv) (he : Ext S w w') (hn : ∀ k, footR c js lv k → ¬ S k) : RefV w' c js lv :=
  ⟨Nat.lt_of_lt_of_le h.lt he.size, he.cell h.cell (hn c (.inl rfl)), fun j => by rw [World.frozen?_of_block (w := w) (w' := w') (he.block c h.lt (hn c (.inl rfl)))]; exact h.fz j,
    h.own.ext he fun k hk => hn k (.inr (.inl hk)), fun j hj => (h.par j hj).ext he fun k hk => hn k (.inr (.inr ⟨j, hj, hk⟩)), h.lvc, h.pvc, h.dis, h.few⟩
theorem RefV.foot_lt {w : World} {c : Nat} {js : List JobD} {lv : Value} (h : RefV w c js lv) {k : Nat} (hk : footR c js lv k) : k < w.heap.size := by
  rcases hk with rfl | hk | ⟨j, hj, hk⟩
  · exact h.lt
  · exact h.own.lt hk
  · exact (h.par j hj).lt hk
theorem RefV.at {w : World} {c : Nat} {js : List JobD} {lv : Value} (h : RefV w c js lv) {i : Nat} (hi : i < js.length) :
    ∃ b o, ixsO 3 lv (.int .i64 i) = some (.pointer (some ⟨b, o, none⟩)) ∧ w.cell? ⟨b, o, none⟩ = some (.int .i64 js[i].id) ∧ w.cell? ⟨b, o + 1, none⟩ = some js[i].pv ∧ w.cell? ⟨b, o + 2, none⟩ = some (.int .i64 js[i].st) := by
  have hf := h.few
  obtain ⟨b, o, _, _, h1, h2⟩ := (h.own.sl (by omega)).at (k := .i64) (i := i) (by omega) (by omega)
  obtain ⟨c0, c1, c2⟩ := jC_get js i hi
  exact ⟨b, o, h1, h2 0 _ (by omega) (by simpa using c0), h2 1 _ (by omega) (by simpa using c1), h2 2 _ (by omega) (by simpa using c2)⟩

/-! ### the list as plain data -/
def jobR (js : List JobD) (x : Int) : Option JobD := js.find? fun j => decide (j.id = x)
def stR (js : List JobD) (x : Int) : Nat := match jobR js x with | some j => j.st | none => 0
def parR (js : List JobD) (x : Int) : List Int := match jobR js x with | some j => j.par | none => []
def freeR (js : List JobD) (x : Int) : Bool := decide (stR js x = 1) && (parR js x).all fun p => decide (stR js p = 2)

theorem jobR_at {js : List JobD} {x : Int} {i : Nat} (hi : i < js.length) (h1 : js[i].id = x) (h2 : ∀ j (hj : j < js.length), j < i → js[j].id ≠ x) : jobR js x = some js[i] := by
  unfold jobR
  rw [List.find?_eq_some_iff_getElem]
  refine ⟨by simpa using h1, i, hi, rfl, fun j hj => ?_⟩
  simpa using h2 j (by omega) hj
theorem jobR_none {js : List JobD} {x : Int} (h : ∀ j, j ∈ js → j.id ≠ x) : jobR js x = none := by
  unfold jobR
  rw [List.find?_eq_none]
  intro j hj
  simpa using h j hj

theorem find_ok {w : World} {c : Nat} {js : List JobD} {lv : Value} (h : RefV w c js lv) (x : Int) :
    Ret PR 32 #[ptr c, .int .i64 x] w (fun r w' => w' = w ∧ ((∃ i : Nat, ∃ hi : i < js.length, r = .int .i64 i ∧ js[i].id = x ∧ jobR js x = some js[i]) ∨ (r = .int .i64 (-1) ∧ (∀ j, j ∈ js → j.id ≠ x) ∧ jobR js x = none))) := by
  refine f32_ret ?_
  unfold f32 ptr
  have hf := h.few
  have hsl : Sl w 3 lv js.length (js.flatMap jC) := h.own.sl (by omega)
  refine loopG (Γ := Nat) (fun i y w' => y = .int .i64 i ∧ i ≤ js.length ∧ w' = w ∧ ∀ j (hj : j < js.length), j < i → js[j].id ≠ x) (fun i => js.length - i) 0 ⟨rfl, Nat.zero_le _, rfl, fun j _ h => by omega⟩ ?_
  rintro i _ _ ⟨rfl, hi, rfl, hall⟩ K hK _
  simp only [vs, Nat.add_zero, l1_eq h.cell, hsl.len, ar]
  by_cases hlt : i < js.length
  · rw [show decide ((i : Int) < js.length) = true from decide_eq_true (by omega)]
    obtain ⟨b, o, h1, c0, c1, c2⟩ := h.at hlt
    simp only [vs, h1, Nat.add_zero, l1_eq c0, beq_dec]
    by_cases he : js[i].id = x
    · simp only [he, decide_true, vs]
      exact ⟨by trivial, .inl ⟨i, hlt, rfl, he, jobR_at hlt he hall⟩⟩
    · simp only [he, decide_false, vs]
      simp (disch := omega) only [ar, vs]
      refine hK (i + 1) _ _ ⟨by simp, hlt, rfl, fun j hj hji => ?_⟩ (by omega)
      by_cases e : j = i
      · subst e; exact he
      · exact hall j hj (by omega)
  · rw [show decide ((i : Int) < js.length) = false from decide_eq_false (by omega)]
    simp only [vs]
    have hno : ∀ j, j ∈ js → j.id ≠ x := fun j hj => by
      obtain ⟨m, hm, rfl⟩ := List.mem_iff_getElem.1 hj
      exact hall m hm (by omega)
    exact ⟨by trivial, .inr ⟨by trivial, hno, jobR_none hno⟩⟩

theorem freeR_ok {w : World} {c : Nat} {js : List JobD} {lv : Value} (h : RefV w c js lv) (x : Int) : Ret PR 19 #[ptr c, .int .i64 x] w (fun r w' => r = .bool (freeR js x) ∧ w' = w) := by
  suffices hs : ∀ R : Kv, R (.bool (freeR js x)) w → f19 (ptr c) (.int .i64 x) w R from f19_ret (hs _ ⟨rfl, rfl⟩)
  intro R hR
  unfold f19
  refine (find_ok h x).mono ?_
  rintro _ wx ⟨rfl, ⟨i, hi, rfl, hid, hjob⟩ | ⟨rfl, hno, hjob⟩⟩
  case inr =>
    have : freeR js x = false := by simp [freeR, stR, hjob]
    rw [this] at hR
    simp only [ar, vs, show decide ((-1 : Int) < 0) = true from rfl]
    exact hR
  have hst : stR js x = js[i].st := by simp [stR, hjob]
  have hpar : parR js x = js[i].par := by simp [parR, hjob]
  obtain ⟨b, o, h1, c0, c1, c2⟩ := h.at hi
  have hmem := List.getElem_mem hi
  simp only [ar]
  rw [show decide ((i : Int) < 0) = false from decide_eq_false (by omega)]
  simp only [ptr, vs, Nat.add_zero, l1_eq h.cell, h1, l1_eq c2, beq_dec]
  by_cases h11 : js[i].st = 1
  case neg =>
    have hf : freeR js x = false := by simp [freeR, hst, h11]
    rw [hf] at hR
    rw [show decide ((js[i].st : Int) = 1) = false from decide_eq_false (by omega)]
    simp only [vs]
    exact hR
  rw [show decide ((js[i].st : Int) = 1) = true from decide_eq_true (by omega)]
  have hfr : freeR js x = js[i].par.all fun p => decide (stR js p = 2) := by simp [freeR, hst, h11, hpar]
  have hop := h.par _ hmem
  have hbig : js[i].par.length ≤ 9223372036854775807 := hop.le
  have hsp : Sl wx 1 js[i].pv js[i].par.length (enc js[i].par) := hop.sl hbig
  simp only [vs]
  refine loopG (Γ := Nat) (fun k y w' => y = .int .i64 k ∧ k ≤ js[i].par.length ∧ w' = wx ∧ (js[i].par.take k).all (fun p => decide (stR js p = 2)) = true) (fun k => js[i].par.length - k) 0 ⟨rfl, Nat.zero_le _, rfl, by simp⟩ ?_
  rintro k _ w2 ⟨rfl, hkl, rfl, hall⟩ K hK _
  simp only [l1_eq h.cell, h1, vs, l1_eq c1, hsp.len, ar]
  by_cases hk : k < js[i].par.length
  · rw [show decide ((k : Int) < js[i].par.length) = true from decide_eq_true (by omega)]
    simp only [vs]
    have hgk : (enc js[i].par)[((k : Int)).toNat]? = some (.int .i64 js[i].par[k]) := by simp [enc_get, hk]
    rw [hsp.get (by omega) (by omega) hgk]
    have no : stR js js[i].par[k] ≠ 2 → R (.bool false) w2 := fun hne => by
      have : freeR js x = false := by
        rw [hfr, List.all_eq_false]
        exact ⟨_, List.getElem_mem hk, by simpa using hne⟩
      rwa [this] at hR
    refine (find_ok h js[i].par[k]).mono ?_
    rintro _ _ ⟨rfl, ⟨q, hq, rfl, hqid, hqjob⟩ | ⟨rfl, hqno, hqjob⟩⟩
    case inr =>
      simp only [ar, vs, show decide ((-1 : Int) < 0) = true from rfl]
      exact no (by simp [stR, hqjob])
    have hqst : stR js js[i].par[k] = js[q].st := by simp [stR, hqjob]
    obtain ⟨b', o', h1', c0', c1', c2'⟩ := h.at hq
    simp only [ar]
    rw [show decide ((q : Int) < 0) = false from decide_eq_false (by omega)]
    simp only [vs, l1_eq h.cell, h1', l1_eq c2', beq_dec]
    by_cases h2 : js[q].st = 2
    · rw [show decide ((js[q].st : Int) = 2) = true from decide_eq_true (by omega)]
      simp (disch := omega) only [ar, vs]
      refine hK (k + 1) _ _ ⟨by simp, hk, rfl, ?_⟩ (by omega)
      rw [List.take_succ_eq_append_getElem hk, List.all_append, hall]
      simp [hqst, h2]
    · rw [show decide ((js[q].st : Int) = 2) = false from decide_eq_false (by omega)]
      simp only [vs]
      exact no (by rw [hqst]; exact h2)
  · rw [show decide ((k : Int) < js[i].par.length) = false from decide_eq_false (by omega)]
    simp only [vs]
    rw [List.take_of_length_le (by omega)] at hall
    rw [hfr, hall] at hR
    exact hR

end Go.Proofs.Ytopefchiadmpaaa.Dag
