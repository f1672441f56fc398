/-
  Contract: Add.
-/
import Derived.Test.YtopefchiadmpaaaDagC
namespace Go.Proofs.Ytopefchiadmpaaa.Dag
open Go.Proofs.Ytopefchiadmpaaa.V Go.Proofs.Ytopefchiadmpaaa.T
set_option linter.all false
set_option linter.unusedVariables false
set_option linter.unusedSimpArgs false
set_option linter.unnecessarySimpa false

theorem _root_.Go.Proofs.Ytopefchiadmpaaa.V.Own.isSlice {w : World} {T sz : Nat} {v : Value} {n : Nat} {xs : List Value} (h : Own w T sz v n xs) : ∃ a c, v = .slice a n c := by
  rcases h.2 with ⟨rfl, rfl⟩ | ⟨g, cap, cur, rfl, _⟩
  · exact ⟨_, _, rfl⟩
  · exact ⟨_, _, rfl⟩
theorem _root_.Go.Proofs.Ytopefchiadmpaaa.V.Sl.isSlice {w : World} {sz : Nat} {v : Value} {n : Nat} {xs : List Value} (h : Sl w sz v n xs) : ∃ a c, v = .slice a n c := by
  rcases h.2.2 with ⟨rfl, rfl⟩ | ⟨b, o, cap, rfl, _⟩ | ⟨a, cap, rfl, rfl⟩
  · exact ⟨_, _, rfl⟩
  · exact ⟨_, _, rfl⟩
  · exact ⟨_, _, rfl⟩

theorem RepV.setPar {w : World} {b : Nat} {g : G} {pv cv : Int → Value} (h : RepV w b g pv cv) {i : Int} (hi : InA i) {v : Value} {l : List Int} (hv : Own w 2 1 v l.length (enc l)) (hvb : ¬ inB v b)
    (hd : ∀ j k, InA j → inB (cv j) k → ¬ inB v k) : RepV (w.setCell ⟨b, 4 * i.toNat + 1, none⟩ v) b { g with par := upI g.par i l } (upI pv i v) cv := by
  obtain ⟨a1, a2, a3, a4⟩ := h.write (v := v) (h.c1 i hi)
  have hx := set_ext w b (4 * i.toNat + 1) v
  refine ⟨a4, fun j hj => ?_, fun j hj => ?_, fun j hj => ?_, fun j hj => ?_, a3, fun j hj => ?_, fun j hj => ?_, a2, h.chB, h.dis, fun j m k hj hm hk => ?_⟩
  · unfold InA at hi hj; rw [cell_set (h.c1 i hi) (h.c0 j hj), if_neg (by omega)]
  · rw [cell_set (h.c1 i hi) (h.c1 j hj)]
    unfold InA at hi hj
    by_cases e : j = i
    · subst e; simp [upI_same]
    · rw [if_neg (by omega)]; simp [upI_other _ _ e]
  · unfold InA at hi hj; rw [cell_set (h.c1 i hi) (h.c2 j hj), if_neg (by omega)]
  · unfold InA at hi hj; rw [cell_set (h.c1 i hi) (h.c3 j hj), if_neg (by omega)]
  · by_cases e : j = i
    · subst e; simp only [upI_same]; exact hv.ext hx fun k hk e => hvb (e ▸ hk)
    · simp only [upI_other _ _ e]; exact a1 j hj
  · by_cases e : j = i
    · subst e; simpa only [upI_same] using hvb
    · simpa only [upI_other _ _ e] using h.parB j hj
  · by_cases e : m = i
    · subst e; rw [upI_same]; exact hd j k hj hk
    · rw [upI_other _ _ e]; exact h.dpc j m k hj hm hk

/-- the same value again -/
theorem RepV.again {w : World} {b : Nat} {g : G} {pv cv : Int → Value} (h : RepV w b g pv cv) {i : Int} (hi : InA i) : RepV (w.setCell ⟨b, 4 * i.toNat + 2, none⟩ (cv i)) b g pv cv := by
  obtain ⟨a1, a2, a3, a4⟩ := h.write (v := cv i) (h.c2 i hi)
  refine ⟨a4, fun j hj => ?_, fun j hj => ?_, fun j hj => ?_, fun j hj => ?_, a3, a1, h.parB, a2, h.chB, h.dis, h.dpc⟩
  · unfold InA at hi hj; rw [cell_set (h.c2 i hi) (h.c0 j hj), if_neg (by omega)]
  · unfold InA at hi hj; rw [cell_set (h.c2 i hi) (h.c1 j hj), if_neg (by omega)]
  · rw [cell_set (h.c2 i hi) (h.c2 j hj)]
    unfold InA at hi hj
    by_cases e : j = i
    · subst e; simp
    · rw [if_neg (by omega)]
  · unfold InA at hi hj; rw [cell_set (h.c2 i hi) (h.c3 j hj), if_neg (by omega)]

theorem st4_of {w : World} {b o : Nat} {a0 a1 a2 a3 : Value} (h0 : oneB a0 = true) (h1 : oneB a1 = true) (h2 : oneB a2 = true) (h3 : oneB a3 = true) (hf : ∀ j, w.frozen? ⟨b, j, none⟩ = false)
    (hc : ∀ j, j < 4 → ∃ u, w.cell? ⟨b, o + j, none⟩ = some u) {K : World → Prop}
    (hK : K ((((w.setCell ⟨b, o, none⟩ a0).setCell ⟨b, o + 1, none⟩ a1).setCell ⟨b, o + 2, none⟩ a2).setCell ⟨b, o + 3, none⟩ a3)) :
    stW 4 (.pointer (some ⟨b, o, none⟩)) (.agg #[a0, a1, a2, a3]) w K := by
  have step : ∀ (w : World) (o' : Nat) (v : Value), (∃ u, w.cell? ⟨b, o', none⟩ = some u) → ∀ p, (∃ u, w.cell? ⟨b, p, none⟩ = some u) → ∃ u, (w.setCell ⟨b, o', none⟩ v).cell? ⟨b, p, none⟩ = some u := by
    rintro w o' v ⟨u, hu⟩ p ⟨x, hx⟩
    exact ⟨_, cell_set hu hx⟩
  have hc0 := hc 0 (by omega)
  have hc1 := hc 1 (by omega)
  have hc2 := hc 2 (by omega)
  have hc3 := hc 3 (by omega)
  rw [Nat.add_zero] at hc0
  have c1 := step w o a0 hc0 _ hc1
  have c2 := step _ _ a1 c1 _ (step w o a0 hc0 _ hc2)
  have c3 := step _ _ a2 c2 _ (step _ _ a1 c1 _ (step w o a0 hc0 _ hc3))
  refine ⟨⟨b, o, none⟩, _, rfl, rfl, ?_, hK⟩
  have f : ∀ j, w.frozen? ⟨b, j, none⟩ = false := hf
  obtain ⟨u0, e0⟩ := hc0
  obtain ⟨u1, e1⟩ := c1
  obtain ⟨u2, e2⟩ := c2
  obtain ⟨u3, e3⟩ := c3
  simp only [Value.cells, stN, add_lit, Nat.add_zero, Nat.zero_add, h0, h1, h2, h3, e0, e1, e2, e3, f, World.frozen?_setCell, Option.isSome_some, Bool.not_false, Bool.and_true, if_true]

theorem node48 : (PR.info? 48).map (fun i => i.zero) = some (some (.agg #[.int .i64 0, .slice none 0 0, .slice none 0 0, .int .i64 0])) := by kernel_rfl
def fs48 : List (Nat × Option Nat) := [(0, some 1), (1, some 1), (2, some 1), (3, some 1)]
theorem under48 : ∃ fs, PR.underlying 48 = some (.struct fs) ∧ fs.toList.map (fun f => (f.offset, szO PR f.type)) = [(0, some 1), (1, some 1), (2, some 1), (3, some 1)] := by
  have h : (match PR.underlying 48 with | some (.struct fs) => some (fs.toList.map fun f => (f.offset, szO PR f.type)) | _ => none) = some [(0, some 1), (1, some 1), (2, some 1), (3, some 1)] := by kernel_rfl
  split at h
  · rename_i fs hf; exact ⟨fs, hf, by simpa using h⟩
  · cases h
theorem build48 {w : World} {a0 a1 a2 : Value} (h0 : a0.cells = #[a0]) (h1 : a1.cells = #[a1]) (h2 : a2.cells = #[a2]) {K : Kv} (hK : K (.agg #[a0, a1, a2, .int .i64 0]) w) :
    sv PR (Instr.build 48 #[(0, a0), (1, a1), (2, a2)]) w K := by
  have hz := node48
  cases hi : PR.info? 48 with
  | none => simp [hi] at hz
  | some i =>
    simp only [hi, Option.map_some, Option.some.injEq] at hz
    obtain ⟨fs, hu, hp⟩ := under48
    refine build_of (places := [(0, 1), (1, 1), (2, 1), (3, 1)]) hi hz hu hp ?_ hK
    show Instr.fill _ #[.int .i64 0, .slice none 0 0, .slice none 0 0, .int .i64 0] _ = _
    rw [fill_cell (off := 0) rfl h0 (by simp), fill_cell (off := 1) rfl h1 (by simp), fill_cell (off := 2) rfl h2 (by simp)]
    rfl

theorem set_ext4 (w : World) (b o0 o1 o2 o3 : Nat) (v0 v1 v2 v3 : Value) : Ext (fun k => k = b) w ((((w.setCell ⟨b, o0, none⟩ v0).setCell ⟨b, o1, none⟩ v1).setCell ⟨b, o2, none⟩ v2).setCell ⟨b, o3, none⟩ v3) :=
  (((set_ext w b o0 v0).trans (set_ext _ b o1 v1) fun _ _ h => h).trans (set_ext _ b o2 v2) fun _ _ h => h).trans (set_ext _ b o3 v3) fun _ _ h => h

/-- what Add leaves -/
def addG (g : G) (id : Int) (l : List Int) : G :=
  { st := upI g.st id 1, par := upI g.par id l, ch := fun j => if j ∈ l then g.ch j ++ [id] else g.ch j, pd := upI g.pd id ((l.filter fun p => decide (g.st p ≠ 2)).length : Nat) }
def chG (g : G) (id : Int) (l : List Int) : G := { g with ch := fun j => if j ∈ l then g.ch j ++ [id] else g.ch j }

inductive AddR (g : G) (id : Int) (ps : List Int) : G → Bool → Int → Prop
  | range (h : ¬ (inR id = true ∧ ps.all inR = true)) : AddR g id ps g false 2
  | twice (h : inR id = true ∧ ps.all inR = true) (h1 : g.st id ≠ 0) : AddR g id ps g false 5
  | cycle (h : inR id = true ∧ ps.all inR = true) (h1 : g.st id = 0) (h2 : ∃ p, p ∈ dedI (sortI ps) ∧ (p = id ∨ Desc g.ch id p)) : AddR g id ps g false 8
  | state (h : inR id = true ∧ ps.all inR = true) (h1 : g.st id = 0) (h2 : ∀ p, p ∈ dedI (sortI ps) → p ≠ id ∧ ¬ Desc g.ch id p) (h3 : ∃ p, p ∈ dedI (sortI ps) ∧ g.st p = 3) : AddR g id ps g false 10
  | ok (h : inR id = true ∧ ps.all inR = true) (h1 : g.st id = 0) (h2 : ∀ p, p ∈ dedI (sortI ps) → p ≠ id ∧ ¬ Desc g.ch id p) (h3 : ∀ p, p ∈ dedI (sortI ps) → g.st p ≠ 3) :
      AddR g id ps (addG g id (dedI (sortI ps))) (decide (((dedI (sortI ps)).filter fun p => decide (g.st p ≠ 2)).length = 0)) 0

/-- the new node's variable -/
structure NodeAt (w : World) (nb : Nat) (v1 v2 : Value) (n : Int) : Prop where
  lt : nb < w.heap.size
  c0 : w.cell? ⟨nb, 0, none⟩ = some (.int .i64 1)
  c1 : w.cell? ⟨nb, 1, none⟩ = some v1
  c2 : w.cell? ⟨nb, 2, none⟩ = some v2
  c3 : w.cell? ⟨nb, 3, none⟩ = some (.int .i64 n)
  fz : ∀ j, w.frozen? ⟨nb, j, none⟩ = false
theorem NodeAt.ext {S : Nat → Prop} {w w' : World} {nb : Nat} {v1 v2 : Value} {n : Int} (h : NodeAt w nb v1 v2 n) (he : Ext S w w') (hn : ¬ S nb) : NodeAt w' nb v1 v2 n :=
  ⟨Nat.lt_of_lt_of_le h.lt he.size, he.cell h.c0 hn, he.cell h.c1 hn, he.cell h.c2 hn, he.cell h.c3 hn, fun j => by rw [World.frozen?_of_block (w := w) (w' := w') (he.block nb h.lt hn)]; exact h.fz j⟩
theorem NodeAt.count {w : World} {nb : Nat} {v1 v2 : Value} {n : Int} (h : NodeAt w nb v1 v2 n) (m : Int) : NodeAt (w.setCell ⟨nb, 3, none⟩ (.int .i64 m)) nb v1 v2 m :=
  ⟨by simpa using h.lt, by rw [cell_set h.c3 h.c0]; rfl, by rw [cell_set h.c3 h.c1]; rfl, by rw [cell_set h.c3 h.c2]; rfl, by rw [cell_set h.c3 h.c3]; rfl, fun j => by simp [h.fz j]⟩
theorem NodeAt.new {w : World} {nb : Nat} {T : TypeId} {x0 x1 x2 x3 : Value} (h : w.heap[nb]? = some (.cells #[x0, x1, x2, x3] T)) (v1 v2 : Value) (n : Int) :
    NodeAt ((((w.setCell ⟨nb, 0, none⟩ (.int .i64 1)).setCell ⟨nb, 0 + 1, none⟩ v1).setCell ⟨nb, 0 + 2, none⟩ v2).setCell ⟨nb, 0 + 3, none⟩ (.int .i64 n)) nb v1 v2 n := by
  have k0 : w.cell? ⟨nb, 0, none⟩ = some x0 := by rw [cell_of_heap h]; rfl
  have k1 : w.cell? ⟨nb, 1, none⟩ = some x1 := by rw [cell_of_heap h]; rfl
  have k2 : w.cell? ⟨nb, 2, none⟩ = some x2 := by rw [cell_of_heap h]; rfl
  have k3 : w.cell? ⟨nb, 3, none⟩ = some x3 := by rw [cell_of_heap h]; rfl
  simp only [Nat.zero_add]
  have f : ∀ j, w.frozen? ⟨nb, j, none⟩ = false := fun j => frozen_of_heap h j
  have a0 := cell_set (v := .int .i64 1) k0 k0
  have a1 := cell_set (v := .int .i64 1) k0 k1
  have a2 := cell_set (v := .int .i64 1) k0 k2
  have a3 := cell_set (v := .int .i64 1) k0 k3
  have b0 := cell_set (v := v1) a1 a0
  have b1 := cell_set (v := v1) a1 a1
  have b2 := cell_set (v := v1) a1 a2
  have b3 := cell_set (v := v1) a1 a3
  have c0 := cell_set (v := v2) b2 b0
  have c1 := cell_set (v := v2) b2 b1
  have c2 := cell_set (v := v2) b2 b2
  have c3 := cell_set (v := v2) b2 b3
  refine ⟨?_, cell_set (v := .int .i64 n) c3 c0, cell_set (v := .int .i64 n) c3 c1, cell_set (v := .int .i64 n) c3 c2, cell_set (v := .int .i64 n) c3 c3, fun j => by simp [f j]⟩
  simpa using (Array.getElem?_eq_some_iff.1 h).1

theorem filter_take_succ {L : List Int} {k : Nat} (hk : k < L.length) (p : Int → Bool) : ((L.take (k + 1)).filter p).length = ((L.take k).filter p).length + (if p L[k] then 1 else 0) := by
  rw [List.take_succ_eq_append_getElem hk, List.filter_append, List.length_append]
  cases h : p L[k] <;> simp [h]

/-- F' belongs to F, or is new. -/
def Grew (w : World) (F F' : Nat → Prop) : Prop := ∀ k, F' k → F k ∨ w.heap.size ≤ k

set_option maxHeartbeats 2000000 in
theorem add_ok {w : World} {b : Nat} {g : G} {F : Nat → Prop} (h : Rep w b g F) (hg : ∀ i c, InA i → c ∈ g.ch i → 1 ≤ c ∧ c ≤ 100) (hl : ∀ i, InA i → (g.ch i).length ≤ 99) (id : Int) {pv0 : Value} {ps : List Int}
    (hps : Sl w 1 pv0 ps.length (enc ps)) (hn : ps.length ≤ 1000000) :
    Ret PR 11 #[ptr b, .int .i64 id, pv0] w (fun r w' => ∃ g' ok e F', AddR g id ps g' ok e ∧ r = .tuple #[.bool ok, .int .i64 e] ∧ Rep w' b g' F' ∧ Ext F w w' ∧ Grew w F F') := by
  suffices hs : ∀ R : Kv, (∀ w' g' ok e F', AddR g id ps g' ok e → Rep w' b g' F' → Ext F w w' → Grew w F F' → R (.tuple #[.bool ok, .int .i64 e]) w') → f11 (ptr b) (.int .i64 id) pv0 w R from
    f11_ret (hs _ fun w' g' ok e F' h1 h2 h3 h4 => ⟨g', ok, e, F', h1, rfl, h2, h3, h4⟩)
  intro R hR
  have noop : ∀ w' (ok : Bool) (e : Int), Ext No w w' → AddR g id ps g ok e → R (.tuple #[.bool ok, .int .i64 e]) w' := fun w' ok e he ha =>
    hR w' g ok e F ha (h.kept he) he.no (fun k hk => .inl hk)
  unfold f11 ptr
  simp only [vs]
  refine bs1 E31 (by omega) rfl fun v1 w1 ho1 he1 hk1 hsz1 => ?_
  have hsl1 : Sl w1 1 v1 [id].length (enc [id]) := ho1.sl (by omega)
  refine (right_ok hsl1).mono ?_
  rintro _ w1 ⟨rfl, rfl⟩
  simp only [List.all_cons, List.all_nil, Bool.and_true]
  by_cases hid : inR id = true
  case neg =>
    have hid' : inR id = false := by simpa using hid
    simp only [hid', vs]
    exact noop _ _ _ he1 (.range fun h => hid h.1)
  simp only [hid, vs]
  have hps1 := hps.ext he1 fun _ _ h => h
  refine (right_ok hps1).mono ?_
  rintro _ w1 ⟨rfl, rfl⟩
  by_cases hall : ps.all inR = true
  case neg =>
    have hall' : ps.all inR = false := by simpa using hall
    simp only [hall', vs]
    exact noop _ _ _ he1 (.range fun h => hall h.2)
  have hA : InA id := by have := inR_iff.1 hid; exact ⟨by omega, by omega⟩
  have ixa : ∀ x : Int, InA x → ixaO 101 4 (.pointer (some ⟨b, 0 + 0, none⟩)) (.int .i64 x) = some (.pointer (some ⟨b, 4 * x.toNat, none⟩)) := fun x hx => by
    have h1 := hx.1
    have h2 := hx.2
    simp only [ixaO]
    rw [if_pos ⟨h1, by omega⟩, add_lit]
    congr 4; omega
  have hr1 := h.kept he1
  obtain ⟨pv, cv, hv, hF⟩ := hr1
  simp only [hall, vs, ixa id hA, Nat.add_zero, l1_eq (hv.c0 id hA)]
  by_cases hst : g.st id = 0
  case neg =>
    have : (((g.st id : Nat) : Int) == 0) = false := by rw [beq_eq_false_iff_ne]; omega
    simp only [this, vs]
    exact noop _ _ _ he1 (.twice ⟨hid, hall⟩ hst)
  simp only [hst, Int.natCast_zero, beq_self_eq_true, vs]
  -- the parents, each once
  refine (Clone_ok hps1 (by omega)).mono ?_
  rintro vl w2 ⟨ho2, he2, hk2⟩
  refine (Sort_ok ho2 (by omega)).mono ?_
  rintro _ w3 ⟨rfl, ho3, he3⟩
  rw [← sortI_len ps] at ho3
  refine (Compact_ok ho3 (by rw [sortI_len]; omega)).mono ?_
  rintro vp w4 ⟨ho4, hb4, he4⟩
  have hsz2 : w.heap.size ≤ w1.heap.size := he1.size
  have hE2 := he1.noTrans he2
  have hE3 : Ext No w w3 := hE2.trans he3 fun k hk hi => by have := hk2 k hi; omega
  have hE4 : Ext No w w4 := hE3.trans he4 fun k hk hi => by have := hk2 k hi; omega
  obtain ⟨hd1, hd2, hd3⟩ := dedI_spec (sortI_sorted ps)
  rw [sortI_len] at hd3
  generalize hL : dedI (sortI ps) = L at *
  have hLm : ∀ x, x ∈ L ↔ x ∈ ps := fun x => by rw [hd2, sortI_mem]
  have hLr : ∀ x, x ∈ L → 1 ≤ x ∧ x ≤ 100 := fun x hx => inR_iff.1 (List.all_eq_true.1 hall x ((hLm x).1 hx))
  have hvpN : ∀ k, inB vp k → w.heap.size ≤ k := fun k hk => by have := hk2 k (by rw [inB, ← hb4]; exact hk); omega
  refine (below_ok (h.kept hE4) hg (fun i hi => by have := hl i hi; omega) hA).mono ?_
  rintro vb w5 ⟨B, hB, hBle, hob, he5, hkb⟩
  have hE5 := hE4.noTrans he5
  have hvp5 := ho4.ext he5 fun _ _ h => h
  have hvps := hvp5.sl (by omega)
  have hLen : L.length ≤ 1000000 := by omega
  simp only [hvps.len, vs]
  have hBd : ∀ x, x ∈ B ↔ Desc g.ch id x := hB.2
  have hBlen : B.length < 4611686018427387904 := by omega
  -- no parent descends from it
  refine for1 (by omega) (fun k w' => Ext No w5 w' ∧ ∀ x, x ∈ L.take k → x ≠ id ∧ x ∉ B) ⟨Ext.refl _ _, by simp⟩ ?_ ?_
  · rintro k w6 hk ⟨he6, hno⟩ K hK
    have hg6 : (enc L)[((k : Int)).toNat]? = some (.int .i64 L[k]) := by simp [enc_get, hk]
    rw [(hvps.ext he6 fun _ _ h => h).get (by omega) (by omega) hg6]
    refine (Search_ok (x := L[k]) ((hob.sl (by omega)).ext he6 fun _ _ h => h) hB.1 hBlen).mono ?_
    rintro _ w7 ⟨⟨i, rfl⟩, he7⟩
    have hE7 := (hE5.noTrans he6).noTrans he7
    have hmemk : L[k] ∈ L := List.getElem_mem _
    simp only [vs]
    by_cases hf : L[k] ∈ B
    · simp only [hf, decide_true, vs]
      exact noop _ _ _ hE7 (.cycle ⟨hid, hall⟩ hst ⟨L[k], by rw [hL]; exact hmemk, .inr ((hBd _).1 hf)⟩)
    · simp only [hf, decide_false, vs]
      by_cases hi : L[k] = id
      · simp only [hi, beq_self_eq_true, vs]
        exact noop _ _ _ hE7 (.cycle ⟨hid, hall⟩ hst ⟨L[k], by rw [hL]; exact hmemk, .inl hi⟩)
      · simp (disch := omega) only [show (L[k] == id) = false by simpa using hi, vs, ar]
        refine hK _ ⟨he6.noTrans he7, fun x hx => ?_⟩
        rw [List.take_succ_eq_append_getElem hk, List.mem_append, List.mem_singleton] at hx
        rcases hx with hx | rfl
        · exact hno x hx
        · exact ⟨hi, hf⟩
  rintro w6 ⟨he6, hno⟩
  rw [List.take_length] at hno
  have hcyc : ∀ p, p ∈ L → p ≠ id ∧ ¬ Desc g.ch id p := fun p hp => ⟨(hno p hp).1, fun hd => (hno p hp).2 ((hBd p).2 hd)⟩
  have hE6 := hE5.noTrans he6
  have hr6 := h.kept hE6
  obtain ⟨pv, cv, hv, hF⟩ := hr6
  simp only [vs, ixa id hA, l1_eq (hv.c2 id hA)]
  have hvp6 := hvp5.ext he6 fun _ _ h => h
  obtain ⟨a1, c1, hvpe⟩ := hvp6.isSlice
  obtain ⟨a2, n2, c2, hcve⟩ : ∃ a n c, cv id = .slice a n c := by obtain ⟨a, c, h⟩ := (hv.ch id hA).isSlice; exact ⟨a, _, c, h⟩
  refine build48 rfl (by rw [hvpe]; rfl) (by rw [hcve]; rfl) ?_
  refine alloc_any node48 fun w7 he7 hsz7 hblk7 => ?_
  refine st4_of rfl (by rw [hvpe]; rfl) (by rw [hcve]; rfl) rfl (fun j => frozen_of_heap hblk7 j) (fun j hj => ?_) ?_
  · rw [Nat.zero_add, cell_of_heap hblk7]
    match j, hj with
    | 0, _ => exact ⟨_, rfl⟩
    | 1, _ => exact ⟨_, rfl⟩
    | 2, _ => exact ⟨_, rfl⟩
    | 3, _ => exact ⟨_, rfl⟩
  have hNew := NodeAt.new hblk7 vp (cv id) 0
  have hX8 : Ext (fun k => k = w6.heap.size) w7 ((((w7.setCell ⟨w6.heap.size, 0, none⟩ (.int .i64 1)).setCell ⟨w6.heap.size, 0 + 1, none⟩ vp).setCell ⟨w6.heap.size, 0 + 2, none⟩ (cv id)).setCell ⟨w6.heap.size, 0 + 3, none⟩ (.int .i64 0)) :=
    set_ext4 _ _ _ _ _ _ _ _ _ _
  have hlt6 : w.heap.size ≤ w6.heap.size := hE6.size
  have hE7 := hE6.noTrans he7
  have hE8 := hE7.trans (S := No) hX8 fun k hk e => by omega
  have hblt : b < w.heap.size := h.lt h.own
  have hnbF : ∀ k, F k → k ≠ w6.heap.size := fun k hk e => by have := h.lt hk; omega
  have hvpnb : ¬ inB vp w6.heap.size := fun hi => by have := hvp6.lt hi; omega
  have hvp7 := hvp6.ext he7 fun _ _ h => h
  have hvp8 := hvp7.ext hX8 fun k hk e => hvpnb (e ▸ hk)
  generalize ((((w7.setCell ⟨w6.heap.size, 0, none⟩ (.int .i64 1)).setCell ⟨w6.heap.size, 0 + 1, none⟩ vp).setCell ⟨w6.heap.size, 0 + 2, none⟩ (cv id)).setCell ⟨w6.heap.size, 0 + 3, none⟩ (.int .i64 0)) = w8 at *
  generalize hnb : w6.heap.size = nb at *
  have hvps8 := hvp8.sl (by omega)
  simp only [hvps8.len, vs]
  have hstc : ∀ p, p ∈ L → InA p := fun p hp => ⟨by have := hLr p hp; omega, (hLr p hp).2⟩
  -- how many parents aren't done
  refine for1 (by omega) (fun k w' => Ext (fun k => k = nb) w8 w' ∧ NodeAt w' nb vp (cv id) (((L.take k).filter fun p => decide (g.st p ≠ 2)).length : Nat) ∧ ∀ x, x ∈ L.take k → g.st x ≠ 3) ⟨Ext.refl _ _, by simpa using hNew, by simp⟩ ?_ ?_
  · rintro k w9 hk ⟨he9, hN9, hno3⟩ K hK
    have hg9 : (enc L)[((k : Int)).toNat]? = some (.int .i64 L[k]) := by simp [enc_get, hk]
    have hE9 := hE8.trans (S := No) he9 fun m hm e => by omega
    have hmemk : L[k] ∈ L := List.getElem_mem _
    have hkA := hstc _ hmemk
    obtain ⟨pv9, cv9, hv9, _⟩ := h.kept hE9
    have hfs := filter_take_succ hk fun p => decide (g.st p ≠ 2)
    have htk : ∀ x, x ∈ L.take (k + 1) → x ∈ L.take k ∨ x = L[k] := fun x hx => by
      rw [List.take_succ_eq_append_getElem hk, List.mem_append, List.mem_singleton] at hx; exact hx
    intro K2 hK2
    rw [(hvps8.ext he9 fun m hm e => hvpnb (e ▸ hm)).get (by omega) (by omega) hg9]
    simp only [vs, ixa _ hkA, Nat.add_zero, l1_eq (hv9.c0 _ hkA)]
    by_cases h3 : g.st L[k] = 3
    · have e3 : (((g.st L[k] : Nat) : Int) == 3) = true := by simp [h3]
      simp only [e3, vs]
      exact noop _ _ _ hE9 (.state ⟨hid, hall⟩ hst (by rw [hL]; exact hcyc) ⟨L[k], by rw [hL]; exact hmemk, h3⟩)
    · have e3 : (((g.st L[k] : Nat) : Int) == 3) = false := by rw [beq_eq_false_iff_ne]; omega
      simp only [e3, vs]
      by_cases h2 : g.st L[k] = 2
      · have e2 : (((g.st L[k] : Nat) : Int) == 2) = true := by simp [h2]
        simp only [e2, vs]
        refine hK2 _ _ fun _ => ?_
        simp (disch := omega) only [ar, vs]
        refine hK _ ⟨he9, ?_, fun x hx => (htk x hx).elim (hno3 x) (fun e => e ▸ h3)⟩
        rw [hfs]; simpa [h2] using hN9
      · have e2 : (((g.st L[k] : Nat) : Int) == 2) = false := by rw [beq_eq_false_iff_ne]; omega
        have hcle : ((L.take k).filter fun p => decide (g.st p ≠ 2)).length ≤ k := Nat.le_trans (List.length_filter_le _ _) (by simp; omega)
        simp only [e2, vs, Nat.zero_add, l1_eq hN9.c3]
        simp (disch := omega) only [ar, vs]
        refine st1_int hN9.c3 (hN9.fz _) ?_
        refine hK2 _ _ fun _ => ?_
        simp (disch := omega) only [ar, vs]
        refine hK _ ⟨he9.setCell (fun _ => rfl) _, ?_, fun x hx => (htk x hx).elim (hno3 x) (fun e => e ▸ h3)⟩
        rw [hfs]
        have := hN9.count ((((L.take k).filter fun p => decide (g.st p ≠ 2)).length : Int) + 1)
        simpa [h2] using this
  rintro w9 ⟨he9, hN9, hno3⟩
  rw [List.take_length] at hN9 hno3
  have hE9 := hE8.trans (S := No) he9 fun m hm e => by omega
  have hvp9 := hvp8.ext he9 fun k hk e => hvpnb (e ▸ hk)
  have hvps9 := hvp9.sl (by omega)
  have hLnd : L.Nodup := hd1.imp fun h => by omega
  obtain ⟨hv0, hF0⟩ : RepV w9 b g pv cv ∧ ∀ k, F k ↔ foot b pv cv k := ⟨hv.ext (S := No) (((he7.trans (S := No) (S' := fun k => k = nb) hX8 fun m hm e => by omega)).trans (S := No) he9 fun m hm e => by omega) fun _ _ h => h, hF⟩
  have hvpF : ∀ k, inB vp k → ¬ F k := fun k hk hf => by have := hvpN k hk; have := h.lt hf; omega
  -- the parents learn of their child
  refine for1 (by omega) (fun k w' => ∃ cvk, RepV w' b (chG g id (L.take k)) pv cvk ∧ Ext F w9 w' ∧ (∀ i, InA i → i ∉ L.take k → cvk i = cv i) ∧ (∀ i m, InA i → inB (cvk i) m → inB (cv i) m ∨ w9.heap.size ≤ m))
    ⟨cv, by simpa [chG] using hv0, Ext.refl _ _, fun _ _ _ => rfl, fun _ _ _ h => .inl h⟩ ?_ ?_
  · rintro k wa hk ⟨cvk, hvk, heA, hsame, hnew⟩ K hK
    have hga : (enc L)[((k : Int)).toNat]? = some (.int .i64 L[k]) := by simp [enc_get, hk]
    have hmemk : L[k] ∈ L := List.getElem_mem _
    have hkA := hstc _ hmemk
    have hknot : L[k] ∉ L.take k := fun hm => by
      obtain ⟨j, hj, he⟩ := List.mem_take_iff_getElem.1 hm
      have hj' : j < k := by omega
      have := (List.pairwise_iff_getElem.1 hd1) j k (by omega) hk hj'
      omega
    rw [(hvps9.ext heA hvpF).get (by omega) (by omega) hga]
    have hdr : RepV wa.drew b (chG g id (L.take k)) pv cvk := hvk.ext (S := No) (Ext.refl _ _).drew fun _ _ h => h
    refine ⟨fun w' => Ext No wa.drew w', Ext.refl _ _, ?_⟩
    simp only [vs, ixa _ hkA, Nat.add_zero]
    refine l1C_of (fun w' hw' => (hdr.ext hw' fun _ _ h => h).c2 _ hkA) ?_
    refine bs1 E31 (by omega) rfl fun v1 wb hv1 heb hvk1 hszb => ?_
    refine ⟨heb, ?_⟩
    have hvb := hdr.ext heb fun _ _ h => h
    have hoc := hvb.ch _ hkA
    have hchk : (chG g id (L.take k)).ch L[k] = g.ch L[k] := by simp [chG, hknot]
    have hlk := hl _ hkA
    rw [hchk] at hoc
    refine append_own E31 hoc (hv1.sl (by omega)) (fun u hu => by simp [Value.cells] at hu; subst hu; rfl) (by omega) (by omega) fun vt wc hvt hec hvtB _ => ?_
    have hcc : (Value.int .i64 id).cells.toList = enc [id] := rfl
    rw [hcc, ← enc_app] at hvt
    have hvtl : Own wc 2 1 vt (g.ch L[k] ++ [id]).length (enc (g.ch L[k] ++ [id])) := by simpa using hvt
    obtain ⟨at1, ct1, hvte⟩ := hvtl.isSlice
    have hbnot : ¬ inB (cvk L[k]) b := hvb.chB _ hkA
    have hb2 : wc.cell? ⟨b, 4 * L[k].toNat + 2, none⟩ = some (cvk L[k]) := hec.cell (hvb.c2 _ hkA) hbnot
    have hfzc : ∀ j, wc.frozen? ⟨b, j, none⟩ = false := fun j => by rw [World.frozen?_of_block (w := wb) (w' := wc) (hec.block b hvb.lt hbnot)]; exact hvb.fz j
    have hszb' : wa.heap.size ≤ wb.heap.size := heb.size
    have hvtn : ∀ m, inB vt m → inB (cvk L[k]) m ∨ wb.heap.size ≤ m := hvtB
    rw [hvte]
    refine st1_slice hb2 (hfzc _) ?_
    rw [← hvte]
    simp (disch := omega) only [ar, vs]
    have hset := RepV.setCh (w := wc) (b := b) (g := chG g id (L.take k)) (pv := pv) (cv := cvk) hkA (v := vt) (l := g.ch L[k] ++ [id]) (Nat.lt_of_lt_of_le hvb.lt hec.size)
      (fun i hi => hec.cell (hvb.c0 i hi) hbnot) (fun i hi => hec.cell (hvb.c1 i hi) hbnot) (fun i hi => hec.cell (hvb.c2 i hi) hbnot) (fun i hi => hec.cell (hvb.c3 i hi) hbnot) hfzc
      (fun j hj => (hvb.par j hj).ext hec fun m hm hi => hvb.dpc _ _ m hkA hj hi hm) hvb.parB
      (fun j hj hne => (hvb.ch j hj).ext hec fun m hm hi => hvb.dis _ _ m hkA hj (fun e => hne e.symm) hi hm) (fun j hj _ => hvb.chB j hj)
      (fun i j m hi hj _ _ hne => hvb.dis i j m hi hj hne) (fun i j m hi hj _ => hvb.dpc i j m hi hj) hvtl
      (fun hi => by
        rcases hvtn b hi with h1 | h1
        · exact hbnot h1
        · have := hvb.lt; omega)
      (fun j m hj hne hm hm2 => by
        rcases hvtn m hm with h1 | h1
        · exact hvb.dis _ _ m hkA hj (fun e => hne e.symm) h1 hm2
        · have := (hvb.ch j hj).lt hm2; omega)
      (fun j m hj hm hm2 => by
        rcases hvtn m hm with h1 | h1
        · exact hvb.dpc _ _ m hkA hj h1 hm2
        · have := (hvb.par j hj).lt hm2; omega)
    have hFk : ∀ m, m < w9.heap.size → inB (cvk L[k]) m → F m := fun m hm hi => by
      rcases hnew _ m hkA hi with h1 | h1
      · exact (hF0 m).2 (.inr ⟨_, hkA, .inr h1⟩)
      · omega
    have hFb : F b := h.own
    refine hK _ ⟨upI cvk L[k] vt, ?_, ?_, fun i hi hni => ?_, fun i m hi hm => ?_⟩
    · have : chG g id (L.take (k + 1)) = { chG g id (L.take k) with ch := upI (chG g id (L.take k)).ch L[k] (g.ch L[k] ++ [id]) } := by
        unfold chG
        congr 1
        funext j
        rw [List.take_succ_eq_append_getElem hk]
        by_cases e : j = L[k]
        · subst e
          have hm : L[k] ∈ L.take k ++ [L[k]] := List.mem_append_right _ (List.mem_singleton.2 rfl)
          rw [if_pos hm]; exact (upI_same _ _ _).symm
        · have hu : upI (fun j => if j ∈ L.take k then g.ch j ++ [id] else g.ch j) L[k] (g.ch L[k] ++ [id]) j = if j ∈ L.take k then g.ch j ++ [id] else g.ch j := upI_other _ _ e
          refine Eq.trans ?_ hu.symm
          simp only [List.mem_append, List.mem_singleton, e, or_false]
      rw [this]; exact hset
    · refine ((heA.trans (S' := No) (Ext.refl _ _).drew fun _ _ h => h.elim).trans (S' := No) heb fun _ _ h => h.elim).trans (S' := inB (cvk L[k])) hec hFk |>.trans (S' := fun m => m = b) (set_ext _ _ _ _) fun m _ e => e ▸ hFb
    · rw [List.take_succ_eq_append_getElem hk, List.mem_append, List.mem_singleton, not_or] at hni
      rw [upI_other _ _ hni.2]; exact hsame i hi hni.1
    · by_cases e : i = L[k]
      · subst e
        rw [upI_same] at hm
        rcases hvtn m hm with h1 | h1
        · exact hnew _ m hkA h1
        · have : w9.heap.size ≤ wa.heap.size := heA.size
          omega
      · rw [upI_other _ _ e] at hm; exact hnew i m hi hm
  rintro wa ⟨cvk, hvk, heA, hsame, hnew⟩
  rw [List.take_length] at hvk hsame
  have hidL : id ∉ L := fun hm => (hcyc id hm).1 rfl
  have hcvid := hsame id hA hidL
  have hdr : RepV wa.drew b (chG g id L) pv cvk := hvk.ext (S := No) (Ext.refl _ _).drew fun _ _ h => h
  have hnbF' : ¬ F nb := fun hf => hnbF nb hf rfl
  have hNa : NodeAt wa.drew nb vp (cv id) _ := (hN9.ext heA hnbF').ext (S := No) (Ext.refl _ _).drew fun h => h
  have hvpa : Own wa.drew 2 1 vp L.length (enc L) := (hvp9.ext heA hvpF).ext (S := No) (Ext.refl _ _).drew fun _ _ h => h
  refine lN_of (vs := [.int .i64 1, vp, cv id, .int .i64 ((L.filter fun p => decide (g.st p ≠ 2)).length : Nat)]) rfl (fun j u hj => ?_) ?_
  · match j, hj with
    | 0, hj => cases hj; exact hNa.c0
    | 1, hj => cases hj; exact hNa.c1
    | 2, hj => cases hj; exact hNa.c2
    | 3, hj => cases hj; exact hNa.c3
    | j + 4, hj => simp at hj
  refine st4_of rfl (by rw [hvpe]; rfl) (by rw [hcve]; rfl) rfl hdr.fz (fun j hj => ?_) ?_
  · match j, hj with
    | 0, _ => exact ⟨_, hdr.c0 id hA⟩
    | 1, _ => exact ⟨_, hdr.c1 id hA⟩
    | 2, _ => exact ⟨_, hdr.c2 id hA⟩
    | 3, _ => exact ⟨_, hdr.c3 id hA⟩
  have hvpb : ¬ inB vp b := fun hi => by have := hvpN b hi; omega
  have hcvp : ∀ j m, InA j → inB (cvk j) m → ¬ inB vp m := fun j m hj hm hm2 => by
    rcases hnew j m hj hm with h1 | h1
    · have := hvpN m hm2; have := hv.foot_lt (.inr ⟨j, hj, .inr h1⟩)
      exact hvpF m hm2 ((hF m).2 (.inr ⟨j, hj, .inr h1⟩))
    · have := hvp9.lt hm2; omega
  have r1 := hdr.setSt hA 1
  have x1 := set_ext wa.drew b (4 * id.toNat) (.int .i64 ((1 : Nat) : Int))
  have r2 := r1.setPar hA (hvpa.ext x1 fun m hm e => hvpb (e ▸ hm)) hvpb (fun j m hj hm => hcvp j m hj hm)
  have r3 := r2.again hA
  have r4 := r3.setPd hA ((L.filter fun p => decide (g.st p ≠ 2)).length : Nat)
  rw [hcvid] at r4
  have hX4 := set_ext4 wa.drew b (4 * id.toNat) (4 * id.toNat + 1) (4 * id.toNat + 2) (4 * id.toNat + 3) (.int .i64 1) vp (cv id) (.int .i64 ((L.filter fun p => decide (g.st p ≠ 2)).length : Nat))
  have hnb3 := hX4.cell hNa.c3 (by show ¬ nb = b; omega)
  simp only [Nat.zero_add, l1_eq hnb3, vs]
  have hgeq : addG g id L = { st := upI g.st id 1, par := upI g.par id L, ch := (chG g id L).ch, pd := upI g.pd id ((L.filter fun p => decide (g.st p ≠ 2)).length : Nat) } := rfl
  have hres : (((((L.filter fun p => decide (g.st p ≠ 2)).length : Nat) : Int) == 0)) = decide ((L.filter fun p => decide (g.st p ≠ 2)).length = 0) := by
    rw [Bool.eq_iff_iff]; simp only [beq_iff_eq, decide_eq_true_eq]; omega
  rw [hres]
  refine hR _ (addG g id L) _ 0 (foot b (upI pv id vp) cvk) ?_ ⟨_, _, by rw [hgeq]; exact r4, fun _ => Iff.rfl⟩ ?_ fun m hm => ?_
  · have := AddR.ok (g := g) (id := id) (ps := ps) ⟨hid, hall⟩ hst (by rw [hL]; exact hcyc) (by rw [hL]; exact hno3)
    rw [hL] at this; exact this
  · refine ((hE9.no.trans (S' := F) heA fun _ _ h => h).trans (S' := No) (Ext.refl _ _).drew fun _ _ h => h.elim).trans (S' := fun m => m = b) hX4 fun m _ e => e ▸ h.own
  · rcases hm with rfl | ⟨i, hi, hm | hm⟩
    · exact .inl h.own
    · by_cases e : i = id
      · subst e; rw [upI_same] at hm; exact .inr (hvpN m hm)
      · rw [upI_other _ _ e] at hm; exact .inl ((hF m).2 (.inr ⟨i, hi, .inl hm⟩))
    · rcases hnew i m hi hm with h1 | h1
      · exact .inl ((hF m).2 (.inr ⟨i, hi, .inr h1⟩))
      · have : w.heap.size ≤ w9.heap.size := hE9.size
        exact .inr (by omega)

end Go.Proofs.Ytopefchiadmpaaa.Dag
