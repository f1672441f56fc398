/-
  The laws' arguments, and what all of them do: scripts, few, lists that grow.
-/
import Derived.Test.YtopefchiadmpaaaDagI
namespace Go.Proofs.Ytopefchiadmpaaa.Dag
open Go.Proofs.Ytopefchiadmpaaa.V Go.Proofs.Ytopefchiadmpaaa.T
set_option linter.all false
set_option linter.unusedVariables false
set_option linter.unusedSimpArgs false
set_option linter.unnecessarySimpa false

theorem beq_dec (a b : Int) : (a == b) = decide (a = b) := by
  by_cases h : a = b <;> simp [h]

/-! ### lengths -/
theorem len_of_sub : ∀ {l m : List Int}, l.Nodup → (∀ x, x ∈ l → x ∈ m) → l.length ≤ m.length
  | [], m, _, _ => Nat.zero_le _
  | a :: l, m, hn, hs => by
    obtain ⟨h1, h2⟩ := List.nodup_cons.1 hn
    have ha := hs a (by simp)
    have := len_of_sub (m := m.erase a) h2 fun x hx => (List.mem_erase_of_ne fun e => by subst e; exact h1 hx).2 (hs x (by simp [hx]))
    rw [List.length_erase_of_mem ha] at this
    have : 0 < m.length := List.length_pos_of_mem ha
    simp only [List.length_cons]
    omega

/-- 1 .. n -/
def upto (n : Nat) : List Int := (List.range n).map (fun (k : Nat) => (k : Int) + 1)
theorem upto_len (n : Nat) : (upto n).length = n := by simp [upto]
theorem upto_mem {n : Nat} {x : Int} : x ∈ upto n ↔ 1 ≤ x ∧ x ≤ n := by
  simp only [upto, List.mem_map, List.mem_range]
  constructor
  · rintro ⟨k, hk, rfl⟩; omega
  · rintro ⟨h1, h2⟩; exact ⟨(x - 1).toNat, by omega, by omega⟩

theorem WF.chLen {g : G} (h : WF g) {i : Int} (hi : InA i) : (g.ch i).length ≤ 99 := by
  by_cases h0 : i = 0
  · subst h0
    have : g.ch 0 = [] := List.eq_nil_iff_forall_not_mem.2 fun c hc => by
      have hr := h.chR 0 c hi hc
      have hl := (h.link 0 c hi ⟨by omega, by omega⟩).1 hc
      have := h.parR c ⟨by omega, by omega⟩ hl.1 0 hl.2
      omega
    rw [this]; exact Nat.zero_le _
  · have hi1 : 1 ≤ i ∧ i ≤ 100 := by have := hi.1; have := hi.2; omega
    have := len_of_sub (m := (upto 100).erase i) (h.chN i hi) fun x hx => (List.mem_erase_of_ne fun e => by
      subst e; exact h.acyc _ (.base hx)).2 (upto_mem.2 (h.chR i x hi hx))
    rw [List.length_erase_of_mem (upto_mem.2 hi1), upto_len] at this
    omega
theorem WF.parLen {g : G} (h : WF g) {i : Int} (hi : InA i) (hs : g.st i ≠ 0) : (g.par i).length ≤ 100 := by
  have := len_of_sub (m := upto 100) (nodup_of_sorted (h.parS i hi hs)) fun x hx => upto_mem.2 (h.parR i hi hs x hx)
  rwa [upto_len] at this
theorem WF.pdR {g : G} (h : WF g) {i c : Int} (hi : InA i) (hc : c ∈ g.ch i) : -1000000 ≤ g.pd c ∧ g.pd c ≤ 1000000 := by
  have hr := h.chR i c hi hc
  have hA : InA c := ⟨by omega, by omega⟩
  have hs := ((h.link i c hi hA).1 hc).1
  have h1 := h.pd c hA hs
  have h2 := h.parLen hA hs
  have h3 := List.length_filter_le (fun p => decide (g.st p ≠ 2)) (g.par c)
  omega

/-- one element more -/
theorem push_ok {w : World} {v : Value} {l : List Int} {x : Int} (h : Own w 2 1 v l.length (enc l)) (hl : l.length ≤ 1000000) {K : Kv}
    (hK : ∀ v' w', Own w' 2 1 v' (l ++ [x]).length (enc (l ++ [x])) → Ext (inB v) w w' → (∀ m, inB v' m → inB v m ∨ w.heap.size ≤ m) → K v' w') :
    sv PR (Instr.buildSlice 31 1 #[(0, .int .i64 x)]) w fun v1 w1 => sv PR (Builtin.append_ #[31, 31] 31 #[v, v1]) w1 K := by
  refine bs1 E31 (by omega) rfl fun v1 wd hv1 hed hvk1 hszd => ?_
  refine append_own E31 (h.ext hed fun _ _ h => h) (hv1.sl (by omega)) (fun u hu => by simp [Value.cells] at hu; subst hu; rfl) (by omega) (by omega) fun vt we hvt hee hvtB _ => ?_
  have hcc : (Value.int .i64 x).cells.toList = enc [x] := rfl
  rw [hcc, ← enc_app] at hvt
  refine hK _ _ (by simpa using hvt) (hed.no.trans hee fun m hm hi => hi) fun m hm => ?_
  rcases hvtB m hm with h1 | h1
  · exact .inl h1
  · exact .inr (by omega)

/-! ### scripts -/
structure OpD where
  k : Int
  id : Int
  par : List Int
  pv : Value
def opC (o : OpD) : List Value := [.int .i64 o.k, .int .i64 o.id, o.pv]
def Script (w : World) (v : Value) (ops : List OpD) : Prop := Sl w 3 v ops.length (ops.flatMap opC) ∧ ∀ o, o ∈ ops → Sl w 1 o.pv o.par.length (enc o.par)
theorem Script.ext {w w' : World} {v : Value} {ops : List OpD} (h : Script w v ops) (he : Ext No w w') : Script w' v ops :=
  ⟨h.1.ext he fun _ _ h => h, fun o ho => (h.2 o ho).ext he fun _ _ h => h⟩
theorem opC_get : ∀ (ops : List OpD) (i : Nat) (hi : i < ops.length), (ops.flatMap opC)[i * 3]? = some (.int .i64 ops[i].k) ∧ (ops.flatMap opC)[i * 3 + 1]? = some (.int .i64 ops[i].id) ∧ (ops.flatMap opC)[i * 3 + 2]? = some ops[i].pv
  | o :: ops, 0, _ => ⟨rfl, rfl, rfl⟩
  | o :: ops, i + 1, h => by
    have := opC_get ops i (by simpa using h)
    rw [show (i + 1) * 3 = i * 3 + 3 by omega]
    exact this
theorem Script.at {w : World} {v : Value} {ops : List OpD} (h : Script w v ops) {i : Nat} (hi : i < ops.length) :
    ∃ b o, ixsO 3 v (.int .i64 i) = some (.pointer (some ⟨b, o, none⟩)) ∧ w.cell? ⟨b, o, none⟩ = some (.int .i64 ops[i].k) ∧ w.cell? ⟨b, o + 1, none⟩ = some (.int .i64 ops[i].id) ∧ w.cell? ⟨b, o + 2, none⟩ = some ops[i].pv := by
  obtain ⟨b, o, _, _, h1, h2⟩ := h.1.at (k := .i64) (i := i) (by omega) (by omega)
  obtain ⟨c0, c1, c2⟩ := opC_get ops i hi
  exact ⟨b, o, h1, h2 0 _ (by omega) (by simpa using c0), h2 1 _ (by omega) (by simpa using c1), h2 2 _ (by omega) (by simpa using c2)⟩

def fewB (ops : List OpD) : Bool := decide (ops.length ≤ 150) && ops.all fun o => decide (o.par.length ≤ 300)
theorem few_ok {w : World} {v : Value} {ops : List OpD} (h : Script w v ops) : Ret PR 12 #[v] w (fun r w' => r = .bool (fewB ops) ∧ w' = w) := by
  refine f12_ret ?_
  unfold f12
  have hlen := h.1.2.1
  simp only [h.1.len]
  refine for1 hlen (fun i w' => w' = w ∧ ∀ j (hj : j < ops.length), j < i → ops[j].par.length ≤ 300) ⟨rfl, fun j _ h => by omega⟩ ?_ ?_
  · rintro i w' hi ⟨rfl, hall⟩ K hK
    obtain ⟨b, o, h1, c0, c1, c2⟩ := h.at hi
    have hp := h.2 _ (List.getElem_mem hi)
    simp only [vs, h1, l1_eq c2, hp.len, ar]
    have hpl := hp.2.1
    by_cases hgt : ops[i].par.length ≤ 300
    · rw [show decide ((ops[i].par.length : Int) > 300) = false from decide_eq_false (by omega)]
      simp (disch := omega) only [vs, ar]
      refine hK _ ⟨rfl, fun j hj hji => ?_⟩
      by_cases e : j = i
      · subst e; exact hgt
      · exact hall j hj (by omega)
    · rw [show decide ((ops[i].par.length : Int) > 300) = true from decide_eq_true (by omega)]
      simp only [vs]
      refine ⟨?_, by trivial⟩
      have : fewB ops = false := by
        unfold fewB
        rw [Bool.and_eq_false_iff]
        right
        rw [List.all_eq_false]
        exact ⟨ops[i], List.getElem_mem hi, by simpa using hgt⟩
      rw [this]
  · rintro w' ⟨rfl, hall⟩
    simp only [vs, ar]
    refine ⟨?_, by trivial⟩
    have : (ops.all fun o => decide (o.par.length ≤ 300)) = true := by
      rw [List.all_eq_true]
      intro o ho
      obtain ⟨j, hj, rfl⟩ := List.mem_iff_getElem.1 ho
      simpa using hall j hj hj
    unfold fewB
    rw [this, Bool.and_true]
    congr 1
    exact decide_eq_decide.2 (by omega)

/-- for i := 0; i <= n; i++, with one thing carried on ahead of the counter. -/
theorem for2le {n : Nat} {w : World} {a0 : Value} {BODY : (Value × Value → World → Prop) → Value × Value → World → Prop} {EXIT : Value × Value → World → Prop} (hn : n < 9223372036854775807) (J : Nat → Value → World → Prop) (h0 : J 0 a0 w)
    (hb : ∀ k a w, k ≤ n → J k a w → ∀ K : Value × Value → World → Prop, (∀ a' w', J (k + 1) a' w' → K (a', .int .i64 ((k : Int) + 1)) w') → BODY K (a, .int .i64 k) w)
    (he : ∀ a w, J (n + 1) a w → EXIT (a, .int .i64 ((n : Int) + 1)) w) :
    loopV (X := Value × Value) (a0, .int .i64 0) w (fun K x w => ∀ _ : Env, pO (arithO .leq x.2 (.int .i64 n)) fun c => cnd c (BODY K x w) (EXIT x w)) := by
  refine ⟨fun x w => ∃ k : Nat, k ≤ n + 1 ∧ x.2 = .int .i64 k ∧ J k x.1 w, fun x _ => n + 1 - (num x.2).toNat, ⟨0, Nat.zero_le _, rfl, h0⟩, ?_⟩
  rintro ⟨a, x⟩ w ⟨k, hk, hx, hJ⟩ _
  simp only at hx hJ
  subst hx
  simp only [ar, vs]
  by_cases hlt : k ≤ n
  · rw [show decide ((k : Int) ≤ n) = true from decide_eq_true (by omega)]
    simp only [vs]
    refine hb k a w hlt hJ _ fun a' w' h' => ⟨⟨k + 1, by omega, by simp, h'⟩, ?_⟩
    simp only [num]; omega
  · rw [show decide ((k : Int) ≤ n) = false from decide_eq_false (by omega)]
    simp only [vs]
    obtain rfl : k = n + 1 := by omega
    exact he a w hJ

end Go.Proofs.Ytopefchiadmpaaa.Dag
