/-
  The reference: Add.
-/
import Derived.Test.YtopefchiadmpaaaDagW
namespace Go.Proofs.Ytopefchiadmpaaa.Dag
open Go.Proofs.Ytopefchiadmpaaa.V Go.Proofs.Ytopefchiadmpaaa.T
set_option linter.all false
set_option linter.unusedVariables false
set_option linter.unusedSimpArgs false
set_option linter.unnecessarySimpa false

theorem Up.mono {js : List JobD} {l m : List Int} (h : ∀ x, x ∈ l → x ∈ m) {x : Int} (hu : Up js l x) : Up js m x := by
  induction hu with
  | base hx => exact .base (h _ hx)
  | step _ hj hp ih => exact .step ih hj hp

inductive AddRR (js : List JobD) (id : Int) (ps : List Int) : List JobD → Bool → Int → Prop
  | range (h : ¬ (inR id = true ∧ ps.all inR = true)) : AddRR js id ps js false 2
  | twice (h : inR id = true ∧ ps.all inR = true) (h1 : jobR js id ≠ none) : AddRR js id ps js false 5
  | cycle (h : inR id = true ∧ ps.all inR = true) (h1 : jobR js id = none) (h2 : Up js ps id) : AddRR js id ps js false 8
  | state (h : inR id = true ∧ ps.all inR = true) (h1 : jobR js id = none) (h2 : ¬ Up js ps id) (h3 : ∃ p, p ∈ ps ∧ stR js p = 3) : AddRR js id ps js false 10
  | ok (h : inR id = true ∧ ps.all inR = true) (h1 : jobR js id = none) (h2 : ¬ Up js ps id) (h3 : ∀ p, p ∈ ps → stR js p ≠ 3) (k : Nat) (hk : k ≤ js.length) (l : List Int) (pv : Value) (hl : l.Pairwise (· < ·)) (hm : ∀ x, x ∈ l ↔ x ∈ ps)
      (hs : (insAt js k ⟨id, l, 1, pv⟩).Pairwise fun a b => a.id < b.id) : AddRR js id ps (insAt js k ⟨id, l, 1, pv⟩) (freeR (insAt js k ⟨id, l, 1, pv⟩) id) 0

/-- The reference's graph at block c; F is all that belongs to it. -/
def Ref (w : World) (c : Nat) (js : List JobD) (F : Nat → Prop) : Prop := ∃ lv, RefV w c js lv ∧ ∀ k, F k ↔ footR c js lv k
structure JsOk (js : List JobD) : Prop where
  srt : js.Pairwise fun a b => a.id < b.id
  par : ∀ j, j ∈ js → ∀ p, p ∈ j.par → 1 ≤ p ∧ p ≤ 100
  len : ∀ j, j ∈ js → j.par.length ≤ 1000

theorem node65 : (PR.info? 65).map (fun i => i.zero) = some (some (.agg #[.int .i64 0, .slice none 0 0, .int .i64 0])) := by kernel_rfl
theorem under65 : ∃ fs, PR.underlying 65 = some (.struct fs) ∧ fs.toList.map (fun f => (f.offset, szO PR f.type)) = [(0, some 1), (1, some 1), (2, some 1)] := by
  have h : (match PR.underlying 65 with | some (.struct fs) => some (fs.toList.map fun f => (f.offset, szO PR f.type)) | _ => none) = some [(0, some 1), (1, some 1), (2, some 1)] := by kernel_rfl
  split at h
  · rename_i fs hf; exact ⟨fs, hf, by simpa using h⟩
  · cases h
theorem build65 {w : World} {a0 a1 a2 : Value} (h0 : a0.cells = #[a0]) (h1 : a1.cells = #[a1]) (h2 : a2.cells = #[a2]) {K : Kv} (hK : K (.agg #[a0, a1, a2]) w) :
    sv PR (Instr.build 65 #[(0, a0), (1, a1), (2, a2)]) w K := by
  have hz := node65
  cases hi : PR.info? 65 with
  | none => simp [hi] at hz
  | some i =>
    simp only [hi, Option.map_some, Option.some.injEq] at hz
    obtain ⟨fs, hu, hp⟩ := under65
    refine build_of (places := [(0, 1), (1, 1), (2, 1)]) hi hz hu hp ?_ hK
    show Instr.fill _ #[.int .i64 0, .slice none 0 0, .int .i64 0] _ = _
    rw [fill_cell (off := 0) rfl h0 (by simp), fill_cell (off := 1) rfl h1 (by simp), fill_cell (off := 2) rfl h2 (by simp)]
    rfl
/-- three cells of a fresh block are written -/
theorem st3_new {w : World} {b : Nat} {T : TypeId} {x0 x1 x2 a0 a1 a2 : Value} (h : w.heap[b]? = some (.cells #[x0, x1, x2] T)) (h0 : oneB a0 = true) (h1 : oneB a1 = true) (h2 : oneB a2 = true) {K : World → Prop}
    (hK : ∀ w', Ext (fun k => k = b) w w' → w'.heap.size = w.heap.size → w'.cell? ⟨b, 0, none⟩ = some a0 → w'.cell? ⟨b, 1, none⟩ = some a1 → w'.cell? ⟨b, 2, none⟩ = some a2 → K w') : stW 3 (.pointer (some ⟨b, 0, none⟩)) (.agg #[a0, a1, a2]) w K := by
  have k0 : w.cell? ⟨b, 0, none⟩ = some x0 := by rw [cell_of_heap h]; rfl
  have k1 : w.cell? ⟨b, 1, none⟩ = some x1 := by rw [cell_of_heap h]; rfl
  have k2 : w.cell? ⟨b, 2, none⟩ = some x2 := by rw [cell_of_heap h]; rfl
  have f : ∀ j, w.frozen? ⟨b, j, none⟩ = false := fun j => frozen_of_heap h j
  have b1 := cell_set (v := a0) k0 k1
  have c2 := cell_set (v := a1) b1 (cell_set (v := a0) k0 k2)
  have c1 := cell_set (v := a1) b1 b1
  have c0 := cell_set (v := a1) b1 (cell_set (v := a0) k0 k0)
  refine ⟨⟨b, 0, none⟩, ((w.setCell ⟨b, 0, none⟩ a0).setCell ⟨b, 1, none⟩ a1).setCell ⟨b, 2, none⟩ a2, rfl, rfl, ?_, hK _ (((set_ext w b 0 a0).trans (set_ext _ b 1 a1) fun _ _ h => h).trans (set_ext _ b 2 a2) fun _ _ h => h) (by simp) (cell_set (v := a2) c2 c0) (cell_set (v := a2) c2 c1) (cell_set (v := a2) c2 c2)⟩
  simp only [Value.cells, stN, add_lit, Nat.add_zero, Nat.zero_add, h0, h1, h2, k0, b1, c2, f, World.frozen?_setCell, Option.isSome_some, Bool.not_false, Bool.and_true, if_true]

theorem rowAt {w : World} {v : Value} {n : Nat} {L : List JobD} (h : Own w 65 3 v n (L.flatMap jC)) (hn : L.length = n) {i : Nat} (hi : i < n) :
    ∃ b o, ixsO 3 v (.int .i64 i) = some (.pointer (some ⟨b, o, none⟩)) ∧ w.cell? ⟨b, o, none⟩ = some (.int .i64 (L[i]'(by omega)).id) ∧ w.cell? ⟨b, o + 1, none⟩ = some (L[i]'(by omega)).pv ∧ w.cell? ⟨b, o + 2, none⟩ = some (.int .i64 (L[i]'(by omega)).st) := by
  have := h.le
  obtain ⟨b, o, _, _, h1, h2⟩ := (h.sl (by omega)).at (k := .i64) (i := i) (by omega) (by omega)
  obtain ⟨c0, c1, c2⟩ := jC_get L i (by omega)
  exact ⟨b, o, h1, h2 0 _ (by omega) (by simpa using c0), h2 1 _ (by omega) (by simpa using c1), h2 2 _ (by omega) (by simpa using c2)⟩

set_option maxHeartbeats 2000000 in
theorem addR_ok {w : World} {c : Nat} {js : List JobD} {F : Nat → Prop} (h : Ref w c js F) (hj0 : JsOk js) (hfew : js.length ≤ 1000) (id : Int) {pv0 : Value} {ps : List Int} (hps : Sl w 1 pv0 ps.length (enc ps)) :
    Ret PR 20 #[ptr c, .int .i64 id, pv0] w (fun r w' => ∃ js' ok e F', AddRR js id ps js' ok e ∧ r = .tuple #[.bool ok, .int .i64 e] ∧ Ref w' c js' F' ∧ Ext F w w' ∧ Grew w F F') := by
  suffices hs : ∀ R : Kv, (∀ w' js' ok e F', AddRR js id ps js' ok e → Ref w' c js' F' → Ext F w w' → Grew w F F' → R (.tuple #[.bool ok, .int .i64 e]) w') → f20 (ptr c) (.int .i64 id) pv0 w R from
    f20_ret (hs _ fun w' js' ok e F' h1 h2 h3 h4 => ⟨js', ok, e, F', h1, rfl, h2, h3, h4⟩)
  intro R hR
  obtain ⟨lv, hv, hF⟩ := h
  have noop : ∀ w' (e : Int), Ext No w w' → AddRR js id ps js false e → R (.tuple #[.bool false, .int .i64 e]) w' := fun w' e he ha =>
    hR w' js false e F ha ⟨lv, hv.ext he fun _ _ h => h, hF⟩ he.no (fun k hk => .inl hk)
  unfold f20
  have hpl := hps.2.1
  simp only [ar, vs]
  rw [and2]
  rw [show (decide (id ≥ 1) && decide (id ≤ 100)) = inR id from rfl]
  simp only [hps.len]
  let J : List Int → Value → World → Prop := fun l v' w' => Ext No w w' ∧ Own w' 2 1 v' l.length (enc l) ∧ ∀ m, inB v' m → w.heap.size ≤ m
  refine loopG (Γ := Nat × List Int) (fun γ x w' => x.1 = .bool (inR id && (ps.take γ.1).all inR) ∧ x.2.2 = .int .i64 γ.1 ∧ γ.1 ≤ ps.length ∧ J γ.2 x.2.1 w' ∧ γ.2.Pairwise (· < ·) ∧ γ.2.length ≤ 100 ∧ (∀ x, x ∈ γ.2 → x ∈ ps.take γ.1) ∧ ((ps.take γ.1).all inR = true → ∀ x, x ∈ ps.take γ.1 → x ∈ γ.2)) (fun γ => ps.length - γ.1) (0, [])
    ⟨by simp, rfl, Nat.zero_le _, ⟨Ext.refl _ _, Own.nil _ _ _, fun m hm => by simp [inB, Value.ownBlock] at hm⟩, by simp, by simp, fun x h => (by cases h), fun _ x h => (by simp at h)⟩ ?_
  rintro ⟨i, l⟩ ⟨xr, xl, xi⟩ wa ⟨hxr, hxi, hi, hJ, hsl, hll, hsub, hsup⟩ K hK _
  simp only at hxr hxi hi hJ hsl hll hsub hsup
  subst hxr
  subst hxi
  have hpsa := hps.ext hJ.1 fun _ _ h => h
  simp only [ar, vs]
  by_cases hlt : i < ps.length
  · rw [show decide ((i : Int) < ps.length) = true from decide_eq_true (by omega)]
    simp only [vs]
    intro K2 hK2
    have hgi : (enc ps)[((i : Int)).toNat]? = some (.int .i64 ps[i]) := by simp [enc_get, hlt]
    have hget : ∀ K : Value → Prop, pO (ixsO 1 pv0 (.int .i64 (i : Int))) (fun p => l1 p wa K) = K (.int .i64 ps[i]) := fun K => hpsa.get (by omega) (by omega) hgi K
    simp only [hget, ar, vs]
    rw [and2]
    simp only [hget, ar, vs]
    rw [and2]
    have hts : ps.take (i + 1) = ps.take i ++ [ps[i]] := List.take_succ_eq_append_getElem hlt
    have hall : (inR id && (ps.take i).all inR && decide (ps[i] ≥ 1) && decide (ps[i] ≤ 100)) = (inR id && (ps.take (i + 1)).all inR) := by
      rw [hts, List.all_append]
      show (inR id && (ps.take i).all inR && decide (1 ≤ ps[i]) && decide (ps[i] ≤ 100)) = _
      simp [inR, Bool.and_assoc]
    rw [hall]
    have hallR : (ps.take (i + 1)).all inR = true → (ps.take i).all inR = true ∧ inR ps[i] = true := fun h => by
      rw [hts, List.all_append, Bool.and_eq_true] at h
      exact ⟨h.1, by simpa using h.2⟩
    simp only [(hJ.2.1.sl (by omega)).len, ar, vs]
    by_cases hfull : l.length < 100
    · rw [show decide ((l.length : Int) < 100) = true from decide_eq_true (by omega)]
      simp only [vs, hget]
      refine (put_ok hJ.2.1 (by omega) hsl).mono ?_
      rintro v2 w2 ⟨l', ho2, hs2, hm2, he2, hv2⟩
      refine hK2 (_, _) _ fun _ => ?_
      simp (disch := omega) only [ar, vs]
      have hsub2 : ∀ x, x ∈ l' → x ∈ ps.take (i + 1) := fun x hx => by
        rw [hts, List.mem_append, List.mem_singleton]
        exact ((hm2 x).1 hx).imp (hsub x) fun e => e
      have hll' : l'.length ≤ l.length + 1 := by
        have := len_of_sub (m := ps[i] :: l) (nodup_of_sorted hs2) fun x hx => by
          rcases (hm2 x).1 hx with hx | rfl
          · exact List.mem_cons_of_mem _ hx
          · exact List.mem_cons_self
        simpa using this
      refine hK (i + 1, l') _ _ ⟨rfl, by simp, hlt, ⟨hJ.1.trans he2 fun m hm hv => by have := hJ.2.2 m hv; omega, ho2, fun m hm => ?_⟩, hs2, by simp only; omega, hsub2, fun ha x hx => ?_⟩ (by simp only; omega)
      · rcases hv2 m hm with h5 | h5
        · exact hJ.2.2 m h5
        · have := hJ.1.size; omega
      · rw [hts, List.mem_append, List.mem_singleton] at hx
        exact (hm2 x).2 (hx.imp (hsup (hallR ha).1 x) fun e => e)
    · rw [show decide ((l.length : Int) < 100) = false from decide_eq_false (by omega)]
      simp only [vs]
      refine hK2 (_, _) _ fun _ => ?_
      simp (disch := omega) only [ar, vs]
      refine hK (i + 1, l) _ _ ⟨rfl, by simp, hlt, hJ, hsl, hll, fun x hx => ?_, fun ha x hx => ?_⟩ (by simp only; omega)
      · rw [hts]; exact List.mem_append_left _ (hsub x hx)
      · rw [hts, List.mem_append, List.mem_singleton] at hx
        rcases hx with hx | rfl
        · exact hsup (hallR ha).1 x hx
        · -- a hundred different numbers of 1 .. 100 are all
          apply Decidable.byContradiction
          intro hno
          have hr := inR_iff.1 (hallR ha).2
          have := len_of_sub (l := ps[i] :: l) (m := upto 100) (List.nodup_cons.2 ⟨hno, nodup_of_sorted hsl⟩) fun x hx => by
            rcases List.mem_cons.1 hx with rfl | hx
            · exact upto_mem.2 hr
            · exact upto_mem.2 (inR_iff.1 (List.all_eq_true.1 (hallR ha).1 x (hsub x hx)))
          rw [upto_len] at this
          simp only [List.length_cons] at this
          omega
  · rw [show decide ((i : Int) < ps.length) = false from decide_eq_false (by omega)]
    rw [List.take_of_length_le (by omega)] at hsub hsup
    rw [List.take_of_length_le (show ps.length ≤ i by omega)]
    simp only [vs]
    have hE := hJ.1
    by_cases hin : inR id = true ∧ ps.all inR = true
    case neg =>
      have : (inR id && ps.all inR) = false := by
        cases h1 : inR id <;> cases h2 : ps.all inR <;> simp_all
      simp only [this, vs]
      exact noop _ _ hE (.range hin)
    rw [hin.1, hin.2]
    simp only [Bool.and_true, vs]
    have hlm : ∀ x, x ∈ l ↔ x ∈ ps := fun x => ⟨hsub x, hsup hin.2 x⟩
    have hRa : RefV wa c js lv := hv.ext hE fun _ _ h => h
    refine (find_ok hRa id).mono ?_
    rintro _ w3 ⟨rfl, ⟨k, hk, rfl, hkid, hjob⟩ | ⟨rfl, hno, hjob⟩⟩
    · simp only [ar]
      rw [show decide ((k : Int) ≥ 0) = true from decide_eq_true (by omega)]
      simp only [vs]
      exact noop _ _ hE (.twice hin (by rw [hjob]; simp))
    simp only [ar, show decide ((-1 : Int) ≥ 0) = false from rfl, vs]
    refine (above_ok hRa hj0.par (hJ.2.1.sl (by omega)) (fun x hx => inR_iff.1 (List.all_eq_true.1 hin.2 x (hsub x hx))) hj0.len).mono ?_
    rintro vA w4 ⟨A, hoA, hAl, hAm, heA, hfA⟩
    refine (In_ok (hoA.sl (by omega))).mono ?_
    rintro _ w5 ⟨rfl, rfl⟩
    have hE4 := hE.noTrans heA
    by_cases hcy : id ∈ A
    · simp only [hcy, decide_true, vs]
      exact noop _ _ hE4 (.cycle hin hjob (((hAm id).1 hcy).mono fun x => (hlm x).1))
    simp only [hcy, decide_false, vs]
    have hnup : ¬ Up js ps id := fun hu => hcy ((hAm id).2 (hu.mono fun x => (hlm x).2))
    have hol4 : Own w5 2 1 xl l.length (enc l) := hJ.2.1.ext heA fun _ _ h => h
    have hRv : RefV w5 c js lv := hRa.ext heA fun _ _ h => h
    simp only [(hol4.sl (by omega)).len]
    refine for1 (by omega) (fun q w' => w' = w5 ∧ ∀ m (hm : m < l.length), m < q → stR js l[m] ≠ 3) ⟨rfl, fun m _ h => by omega⟩ ?_ ?_
    · rintro q w6 hq ⟨rfl, hall⟩ K3 hK3
      have hslq : Sl w6 1 xl l.length (enc l) := hol4.sl (by omega)
      have hgq : (enc l)[((q : Int)).toNat]? = some (.int .i64 l[q]) := by simp [enc_get, hq]
      rw [hslq.get (by omega) (by omega) hgq]
      have nxt : stR js l[q] ≠ 3 → K3 (.int .i64 ((q : Int) + 1)) w6 := fun hne => hK3 _ ⟨rfl, fun m hm hmq => by
        by_cases e : m = q
        · subst e; exact hne
        · exact hall m hm (by omega)⟩
      refine (find_ok hRv l[q]).mono ?_
      rintro _ w7 ⟨rfl, ⟨k, hk, rfl, hkid, hkjob⟩ | ⟨rfl, hkno, hkjob⟩⟩
      · have hst : stR js l[q] = js[k].st := by simp [stR, hkjob]
        obtain ⟨ob, oo, h1, c0, c1, c2⟩ := hRv.at hk
        simp only [ar]
        rw [show decide ((k : Int) ≥ 0) = true from decide_eq_true (by omega)]
        simp only [ptr, vs, Nat.add_zero, l1_eq hRv.cell, h1, l1_eq c2, beq_dec]
        by_cases h3 : js[k].st = 3
        · rw [show decide ((js[k].st : Int) = 3) = true from decide_eq_true (by omega)]
          simp only [vs]
          exact noop _ _ hE4 (.state hin hjob hnup ⟨l[q], (hlm _).1 (List.getElem_mem hq), by rw [hst]; exact h3⟩)
        · rw [show decide ((js[k].st : Int) = 3) = false from decide_eq_false (by omega)]
          simp (disch := omega) only [vs, ar]
          exact nxt (by rw [hst]; exact h3)
      · simp only [ar, show decide ((-1 : Int) ≥ 0) = false from rfl]
        simp (disch := omega) only [vs, ar]
        exact nxt (by simp [stR, hkjob])
    rintro w6 ⟨rfl, hst3⟩
    have hst3' : ∀ p, p ∈ ps → stR js p ≠ 3 := fun p hp => by
      obtain ⟨m, hm, rfl⟩ := List.mem_iff_getElem.1 ((hlm p).2 hp)
      exact hst3 m hm hm
    obtain ⟨ax, ca, hxle⟩ : ∃ a c, xl = .slice a l.length c := hol4.isSlice
    refine build65 rfl (by rw [hxle]; rfl) rfl ?_
    refine alloc_any node65 fun w7 he7 hsz7 hblk7 => ?_
    refine st3_new hblk7 rfl (by rw [hxle]; rfl) rfl fun w8 he8 hsz8 d0 d1 d2 => ?_
    have hnb : ∀ k, footR c js lv k → k < w6.heap.size := fun k hk => hRv.foot_lt hk
    have he78 : Ext No w6 w8 := he7.trans (S' := fun k => k = w6.heap.size) he8 fun k hk e => by omega
    have hR8 : RefV w8 c js lv := hRv.ext he78 fun _ _ h => h
    have hol8 : Own w8 2 1 xl l.length (enc l) := hol4.ext he78 fun _ _ h => h
    have hE8 := hE4.noTrans he78
    simp only [ptr, vs, Nat.add_zero]
    refine ⟨fun w' => Ext No w8.drew w', Ext.refl _ _, ?_⟩
    have hR8d : RefV w8.drew c js lv := hR8.ext (Ext.refl No w8).drew fun _ _ h => h
    refine l1C_of (v := lv) (fun w' hw => hw.cell hR8d.cell fun h => h) ?_
    refine lNC_of (vs := [.int .i64 id, xl, .int .i64 1]) rfl (fun w' hw j u hj => ?_) ?_
    · have : w8.drew.cell? ⟨w6.heap.size, 0 + j, none⟩ = some u := by
        rw [Nat.zero_add]
        match j, hj with
        | 0, hj => cases hj; exact d0
        | 1, hj => cases hj; exact d1
        | 2, hj => cases hj; exact d2
      exact hw.cell this fun h => h
    refine bs1 E43 (by omega) rfl fun v9 w9 hv9 he9 hvk9 hsz9 => ?_
    refine ⟨he9, ?_⟩
    obtain ⟨jn, hjn⟩ : ∃ jn : JobD, jn = ⟨id, l, 1, xl⟩ := ⟨_, rfl⟩
    have hR9 : RefV w9 c js lv := hR8d.ext he9 fun _ _ h => h
    have hE9 : Ext No w w9 := (hE8.noTrans (Ext.refl No w8).drew).noTrans he9
    refine append_own E43 hR9.own (hv9.sl (by omega)) (fun u hu => ?_) (by omega) (by omega) fun v' w10 ho10 he10 hv10 _ => ?_
    · have : u = .int .i64 id ∨ u = xl ∨ u = .int .i64 1 := by simpa [Value.cells] using hu
      rcases this with rfl | rfl | rfl
      · rfl
      · rw [hxle]; rfl
      · rfl
    have hcont : js.flatMap jC ++ (Value.agg (#[.int .i64 id, xl, .int .i64 1])).cells.toList = (insAt js js.length jn).flatMap jC := by
      simp [insAt, hjn, jC, Value.cells]
    have ho10' : Own w10 65 3 v' (js.length + 1) ((insAt js js.length jn).flatMap jC) := by rw [← hcont]; exact ho10
    obtain ⟨ax2, ca2, hve⟩ : ∃ a c, v' = .slice a (js.length + 1) c := ho10'.isSlice
    have hcl : ¬ inB lv c := hR9.lvc
    have hc10 : w10.cell? ⟨c, 0, none⟩ = some lv := he10.cell hR9.cell hcl
    have hcv' : ¬ inB v' c := fun hm => by
      rcases hv10 c hm with h5 | h5
      · exact hcl h5
      · have := hR9.lt; omega
    have hstore : ∀ K : World → Prop, K (w10.setCell ⟨c, 0, none⟩ v') → stW 1 (.pointer (some ⟨c, 0, none⟩)) v' w10 K := fun K hK => by
      have hfz : w10.frozen? ⟨c, 0, none⟩ = false := by rw [World.frozen?_of_block (w := w9) (w' := w10) (he10.block c hR9.lt hcl)]; exact hR9.fz 0
      rw [hve] at hK ⊢
      exact st1_slice hc10 hfz hK
    refine hstore _ ?_
    have x11 : Ext (fun k => k = c ∨ inB lv k) w9 (w10.setCell ⟨c, 0, none⟩ v') := (he10.mono fun k _ h => .inr h).trans ((set_ext w10 c 0 v').mono fun k _ h => .inl h) fun _ _ h => h
    have ho11 : Own (w10.setCell ⟨c, 0, none⟩ v') 65 3 v' (js.length + 1) ((insAt js js.length jn).flatMap jC) := ho10'.ext (set_ext w10 c 0 v') fun k hk e => hcv' (e ▸ hk)
    have hc11 : (w10.setCell ⟨c, 0, none⟩ v').cell? ⟨c, 0, none⟩ = some v' := by rw [cell_set hc10 hc10, if_pos rfl]
    have hf11 : ∀ j, (w10.setCell ⟨c, 0, none⟩ v').frozen? ⟨c, j, none⟩ = false := fun j => by
      rw [World.frozen?_setCell, World.frozen?_of_block (w := w9) (w' := w10) (he10.block c hR9.lt hcl)]; exact hR9.fz j
    have hlt11 : c < (w10.setCell ⟨c, 0, none⟩ v').heap.size := by have := hR9.lt; have := he10.size; simp; omega
    generalize w10.setCell ⟨c, 0, none⟩ v' = w11 at *
    have hlen11 : lenO v' = some (.int .i64 ((js.length + 1 : Nat) : Int)) := by rw [hve]; rfl
    simp (disch := omega) only [vs, l1_eq hc11, hlen11, ar]
    rw [show (((js.length + 1 : Nat) : Int) - 1) = (js.length : Int) by omega]
    have hv'9 : ∀ m, inB v' m → inB lv m ∨ w9.heap.size ≤ m := hv10
    refine loopG (Γ := Nat × JobD) (fun γ x w' => x = .int .i64 γ.1 ∧ γ.1 ≤ js.length ∧ Own w' 65 3 v' (js.length + 1) ((insAt js γ.1 γ.2).flatMap jC) ∧ Ext (inB v') w11 w' ∧ ∀ j (hj : j < js.length), γ.1 ≤ j → id < js[j].id) (fun γ => γ.1) (js.length, jn)
      ⟨rfl, Nat.le_refl _, ho11, Ext.refl _ _, fun j hj h => by simp only at h; omega⟩ ?_
    rintro ⟨k, y⟩ _ w12 ⟨rfl, hk, ho12, he12, hgt⟩ K4 hK4 _
    simp only at hk ho12 hgt
    have hc12 : w12.cell? ⟨c, 0, none⟩ = some v' := he12.cell hc11 hcv'
    have hc12d : w12.drew.cell? ⟨c, 0, none⟩ = some v' := hc12
    have hnb9 : w6.heap.size < w9.heap.size := by have := he7.size; have := he8.size; have : w8.drew.heap.size = w8.heap.size := rfl; omega
    have hnbv : ¬ inB v' w6.heap.size := fun hm => by
      rcases hv'9 _ hm with h5 | h5
      · have := hRv.own.lt h5; omega
      · omega
    have hdn : ∀ j u, ([Value.int .i64 id, xl, .int .i64 1] : List Value)[j]? = some u → w12.drew.cell? ⟨w6.heap.size, 0 + j, none⟩ = some u := fun j u hj => by
      have h8 : w8.drew.cell? ⟨w6.heap.size, 0 + j, none⟩ = some u := by
        rw [Nat.zero_add]
        match j, hj with
        | 0, hj => cases hj; exact d0
        | 1, hj => cases hj; exact d1
        | 2, hj => cases hj; exact d2
      have h9 := he9.cell h8 fun h => h
      have h11 := x11.cell h9 fun h => by
        rcases h with h | h
        · have := hRv.lt; simp only at h; omega
        · have := hRv.own.lt h; simp only at this; omega
      exact he12.cell h11 hnbv
    have fin : (∀ j (hj : j < js.length), j < k → js[j].id < id) → pO (ixsO 3 v' (.int .i64 (k : Int))) (fun v6703 => stW 3 v6703 (.agg #[.int .i64 id, xl, .int .i64 1]) w12.drew fun w6704 =>
        Ret PR 19 #[ptr c, .int .i64 id] w6704 fun v6706 w6707 => R (.tuple #[v6706, .int .i64 0]) w6707) := fun hlt2 => by
      have hod : Own w12.drew 65 3 v' (js.length + 1) ((insAt js k y).flatMap jC) := ho12.ext (Ext.refl No w12).drew fun _ _ h => h
      refine hod.put3 (by omega) rfl (by rw [hxle]; rfl) rfl fun w13 ho13 he13 hsz13 => ?_
      have hset := flat3_set jC jn (a0 := .int .i64 id) (a1 := xl) (a2 := .int .i64 1) (by rw [hjn]; rfl) (insAt js k y) (fun a _ => rfl) k (by rw [insAt_len js hk]; omega)
      rw [hset, ins_set hk] at ho13
      have e13 : Ext (inB v') w11 w13 := he12.drew.trans he13 fun _ _ h => h
      have hxl9 : Own w9 2 1 xl l.length (enc l) := (hol8.ext (S := No) (Ext.refl _ _).drew fun _ _ h => h).ext he9 fun _ _ h => h
      have hxw : ∀ m, inB xl m → w.heap.size ≤ m := hJ.2.2
      have hlvw : ∀ m, inB lv m → m < w.heap.size := fun m hm => hv.own.lt hm
      have hxlv : ∀ m, inB xl m → ¬ inB lv m := fun m h1 h2 => by have := hxw m h1; have := hlvw m h2; omega
      have hxlc : ¬ inB xl c := fun h1 => by have := hxw c h1; have := hv.lt; omega
      have hxv : ∀ m, inB xl m → ¬ inB v' m := fun m h1 h2 => by
        rcases hv'9 m h2 with h5 | h5
        · exact hxlv m h1 h5
        · have := hxl9.lt h1; omega
      have hpv : ∀ j, j ∈ js → ∀ m, inB j.pv m → ¬ inB v' m := fun j hjm m h1 h2 => by
        rcases hv'9 m h2 with h5 | h5
        · exact hv.dis j hjm m h1 h5
        · have := (hR9.par j hjm).lt h1; omega
      have hmem : ∀ j, j ∈ insAt js k jn → j ∈ js ∨ j = jn := fun j hjm => (insAt_mem js k jn j).1 hjm
      have hR13 : RefV w13 c (insAt js k jn) v' := by
        refine ⟨?_, e13.cell hc11 hcv', fun j => ?_, by rw [insAt_len js hk]; exact ho13, fun j hjm => ?_, hcv', fun j hjm => ?_, fun j hjm => ?_, by rw [insAt_len js hk]; omega⟩
        · have := hR9.lt; have := x11.size; have := e13.size; omega
        · rw [World.frozen?_of_block (w := w11) (w' := w13) (e13.block c hlt11 hcv')]; exact hf11 j
        · rcases hmem j hjm with hjm | rfl
          · exact ((hR9.par j hjm).ext x11 fun m hm h => by
              rcases h with h | h
              · subst h; exact hv.pvc j hjm hm
              · exact hv.dis j hjm m hm h).ext e13 fun m hm => hpv j hjm m hm
          · rw [hjn]
            exact (hxl9.ext x11 fun m hm h => by
              rcases h with h | h
              · subst h; exact hxlc hm
              · exact hxlv m hm h).ext e13 fun m hm => hxv m hm
        · rcases hmem j hjm with hjm | rfl
          · exact hv.pvc j hjm
          · rw [hjn]; exact hxlc
        · rcases hmem j hjm with hjm | rfl
          · exact hpv j hjm
          · rw [hjn]; exact hxv
      refine (freeR_ok hR13 id).mono ?_
      rintro _ w14 ⟨rfl, rfl⟩
      have hsrt : (insAt js k jn).Pairwise fun a b => a.id < b.id := insAt_sorted' (fun j : JobD => j.id) hj0.srt (x := jn) (by rw [hjn]; exact hlt2) (by rw [hjn]; exact hgt)
      have hE13 : Ext F w w14 := by
        have e1 : Ext F w w11 := hE9.no.trans x11 fun m hm h => by
          rcases h with h | h
          · exact (hF m).2 (.inl h)
          · exact (hF m).2 (.inr (.inl h))
        exact e1.trans e13 fun m hm h => by
          rcases hv'9 m h with h5 | h5
          · exact (hF m).2 (.inr (.inl h5))
          · have := hE9.size; omega
      refine hR w14 (insAt js k jn) (freeR (insAt js k jn) id) 0 (footR c (insAt js k jn) v') ?_ ⟨v', hR13, fun _ => Iff.rfl⟩ hE13 fun m hm => ?_
      · rw [hjn] at hsrt ⊢
        exact .ok hin hjob hnup hst3' k hk l xl hsl hlm hsrt
      · rcases hm with h | h | ⟨j, hjm, h⟩
        · exact .inl ((hF m).2 (.inl h))
        · rcases hv'9 m h with h5 | h5
          · exact .inl ((hF m).2 (.inr (.inl h5)))
          · right; have := hE9.size; omega
        · rcases hmem j hjm with hjm | rfl
          · exact .inl ((hF m).2 (.inr (.inr ⟨j, hjm, h⟩)))
          · rw [hjn] at h; exact .inr (hxw m h)
    have tail : (∀ j (hj : j < js.length), j < k → js[j].id < id) → lN 3 (.pointer (some ⟨w6.heap.size, 0, none⟩)) w12.drew fun v6702 => pO (ixsO 3 v' (.int .i64 (k : Int))) (fun v6703 => stW 3 v6703 v6702 w12.drew fun w6704 =>
        Ret PR 19 #[ptr c, .int .i64 id] w6704 fun v6706 w6707 => R (.tuple #[v6706, .int .i64 0]) w6707) := fun h => lN_of (vs := [.int .i64 id, xl, .int .i64 1]) rfl hdn (fin h)
    simp only [ar, vs]
    by_cases hk0 : k = 0
    · subst hk0
      rw [show decide (((0 : Nat) : Int) > 0) = false from rfl]
      simp only [vs, l1_eq hc12d]
      exact tail fun j hj h => by omega
    rw [show decide ((k : Int) > 0) = true from decide_eq_true (by omega)]
    have hk1 : ((k : Int)) - 1 = ((k - 1 : Nat) : Int) := by omega
    obtain ⟨rb, ro, h1, r0, r1, r2⟩ := rowAt ho12 (insAt_len js hk y) (i := k - 1) (by omega)
    have hel : (insAt js k y)[k - 1]'(by rw [insAt_len js hk]; omega) = js[k - 1]'(by omega) := by
      have := ins_get (l := js) (k := k) (j := k - 1) (by omega) hk y
      rw [List.getElem?_eq_getElem (by rw [insAt_len js hk]; omega)] at this
      exact Option.some.inj this
    rw [hel] at r0 r1 r2
    simp (disch := omega) only [vs, ar, l1_eq hc12]
    rw [hk1]
    simp only [h1, vs, Nat.add_zero, l1_eq r0, ar]
    by_cases hgtk : (js[k - 1]'(by omega)).id > id
    · rw [show decide ((js[k - 1]'(by omega)).id > id) = true from decide_eq_true hgtk]
      simp (disch := omega) only [vs, ar, l1_eq hc12d]
      rw [h1]
      simp only [vs]
      obtain ⟨pa, pc, hpve⟩ := ((hR9.par _ (List.getElem_mem (show k - 1 < js.length by omega))).isSlice)
      refine lN_of (vs := [.int .i64 (js[k - 1]'(by omega)).id, (js[k - 1]'(by omega)).pv, .int .i64 (js[k - 1]'(by omega)).st]) rfl (fun j u hj => ?_) ?_
      · match j, hj with
        | 0, hj => cases hj; exact r0
        | 1, hj => cases hj; exact r1
        | 2, hj => cases hj; exact r2
      have hod : Own w12.drew 65 3 v' (js.length + 1) ((insAt js k y).flatMap jC) := ho12.ext (S := No) (Ext.refl _ _).drew fun _ _ h => h
      refine hod.put3 (by omega) rfl (by rw [hpve]; rfl) rfl fun w13 ho13 he13 hsz13 => ?_
      have hset := flat3_set jC (js[k - 1]'(by omega)) (a0 := .int .i64 (js[k - 1]'(by omega)).id) (a1 := (js[k - 1]'(by omega)).pv) (a2 := .int .i64 (js[k - 1]'(by omega)).st) rfl (insAt js k y) (fun a _ => rfl) k (by rw [insAt_len js hk]; omega)
      rw [hset, ins_set hk, ins_same (by omega) hk] at ho13
      refine hK4 (k - 1, js[k - 1]'(by omega)) _ _ ⟨rfl, by simp only; omega, ho13, he12.drew.trans he13 fun _ _ h => h, fun j hj hjk => ?_⟩ (by simp only; omega)
      simp only at hjk
      by_cases e : j = k - 1
      · subst e; exact hgtk
      · exact hgt j hj (by omega)
    · rw [show decide ((js[k - 1]'(by omega)).id > id) = false from decide_eq_false hgtk]
      simp only [vs, l1_eq hc12d]
      refine tail fun j hj hjk => ?_
      have hne : (js[k - 1]'(by omega)).id ≠ id := fun e => by
        have := List.find?_eq_none.1 hjob _ (List.getElem_mem (show k - 1 < js.length by omega))
        simp [e] at this
      by_cases e : j = k - 1
      · subst e; omega
      · have := (List.pairwise_iff_getElem.1 hj0.srt) j (k - 1) hj (by omega) (by omega)
        omega

end Go.Proofs.Ytopefchiadmpaaa.Dag
