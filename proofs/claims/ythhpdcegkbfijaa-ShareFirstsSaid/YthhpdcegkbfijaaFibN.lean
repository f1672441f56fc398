/-
  The Fibonacci heap: contracts of less, join, root, under, ring.
-/
import Derived.Test.YthhpdcegkbfijaaFibM
namespace Go.Proofs.Ythhpdcegkbfijaa.Sh
open Go.Proofs.Ythhpdcegkbfijaa.V Go.Proofs.Ythhpdcegkbfijaa.T Go.Proofs.Ythhpdcegkbfijaa.Fib
set_option linter.all false
set_option maxRecDepth 100000
set_option linter.unusedVariables false
set_option linter.unusedSimpArgs false
set_option linter.unnecessarySimpa false

theorem zero60 : (PR.info? 60).map (fun i => i.zero) = some (some (.agg #[.int .u64 0, .int .u64 0, .int .i64 0])) := by kernel_rfl
/-- what a heap's call may write -/
def Ft (b : Nat) (sv : Value) : Nat → Prop := fun k => k = b ∨ inB sv k
theorem _root_.Go.Proofs.Ythhpdcegkbfijaa.V.Ext.row {b : Nat} {sv : Value} {w w' : World} (h : Ext (inB sv) w w') : Ext (Ft b sv) w w' := h.mono fun _ _ h => .inr h
theorem _root_.Go.Proofs.Ythhpdcegkbfijaa.V.Ext.one {b : Nat} {sv : Value} {w w' : World} (h : Ext (fun k => k = b) w w') : Ext (Ft b sv) w w' := h.mono fun _ _ h => .inl h

/-- the keys of two entries are those of a ghost -/
def keyIs (c k : Core) : Prop := c.n = k.n ∧ c.d = k.d ∧ c.tie = k.tie
structure KOk (ky : Nat → Core) : Prop where
  pos : ∀ x, 0 < (ky x).d
  n : ∀ x, (ky x).n < W64
  d : ∀ x, (ky x).d < W64

set_option maxHeartbeats 1000000 in
theorem less_ok {w : World} {b : Nat} {sv : Value} {least nn : Int} {len : Nat} {C ky : Nat → Core} (h : HM w b sv least nn len C) (hk : KOk ky) {x y : Nat} (hx : x < len) (hy : y < len) (kx : keyIs (C x) (ky x)) (kk : keyIs (C y) (ky y)) :
    Ret PR 61 #[ptr b, .int .i64 (x : Int), .int .i64 (y : Int)] w (fun r w' => r = .bool (decide (ltH ky x y)) ∧ Ext No w w') := by
  suffices hs : ∀ R : Kv, (∀ w', Ext No w w' → R (.bool (decide (ltH ky x y))) w') → f61 (ptr b) (.int .i64 (x : Int)) (.int .i64 (y : Int)) w R from f61_ret (hs _ fun w' he => ⟨rfl, he⟩)
  intro R hR
  unfold f61 ptr
  obtain ⟨gx, ax⟩ := h.at hx
  obtain ⟨gy, ay⟩ := h.at hy
  have ltx : gx < w.heap.size := h.lt' ax.own
  have lty : gy < w.heap.size := h.lt' ay.own
  intro K hK
  have tail : ∀ wz p q, Bk wz p [u64 (ky x).n, u64 (ky x).d, .int .i64 (ky x).tie] 60 → Bk wz q [u64 (ky y).n, u64 (ky y).d, .int .i64 (ky y).tie] 60 → Ext No w wz → K (.pointer (some ⟨p, 0, none⟩), .pointer (some ⟨q, 0, none⟩)) wz := fun wz p q hp hq he => by
    refine hK _ _ fun _ => ?_
    simp only [vs, hp.lN (o := 0) (n := 2) (vs := [u64 (ky x).n, u64 (ky x).d]) rfl rfl, hq.lN (o := 0) (n := 2) (vs := [u64 (ky y).n, u64 (ky y).d]) rfl rfl, Nat.add_zero]
    refine (rcmp_ok (hk.n x) (hk.d x) (hk.n y) (hk.d y) (hk.pos x) (hk.pos y) wz).mono ?_
    rintro _ w1 ⟨rfl, he1⟩
    have hp1 := hp.no he1
    have hq1 := hq.no he1
    simp only [vs, Nat.zero_add, hp1.l1 (j := 2) (v := .int .i64 (ky x).tie) rfl, hq1.l1 (j := 2) (v := .int .i64 (ky y).tie) rfl]
    refine (cmp73 _ _ _ w1).mono ?_
    rintro _ w2 ⟨rfl, rfl⟩
    refine (cmp74 _ _ _ w2).mono ?_
    rintro _ w3 ⟨rfl, rfl⟩
    refine or_of (l := [_, _, _]) (by simp) (by simp) fun w9 he9 => ?_
    simp only [ar, vs]
    exact hR w9 ((he.noTr he1).noTr he9)
  refine ⟨fun w' => Ext No w w', (Ext.refl _ _).drew, ?_⟩
  obtain ⟨⟨T, hbk⟩, _⟩ := id h
  simp only [vs, Nat.add_zero]
  refine Bk.l1C (fun w' hw' => hbk.no hw') rfl ?_
  simp only [ax.ix, vs, Nat.add_zero]
  obtain ⟨e1, e2, e3⟩ := kx
  obtain ⟨e4, e5, e6⟩ := kk
  have c1 := ax.n; have c2 := ax.d; have c3 := ax.tie
  have d1 := ay.n; have d2 := ay.d; have d3 := ay.tie
  rw [e1] at c1; rw [e2] at c2; rw [e3] at c3
  rw [e4] at d1; rw [e5] at d2; rw [e6] at d3
  refine lNC_of (vs := [u64 (ky x).n, u64 (ky x).d, .int .i64 (ky x).tie]) rfl (fun w' hw' j u hj => ?_) ?_
  · match j, hj with
    | 0, hj => cases hj; exact hw'.cell c1 fun h => h
    | 1, hj => cases hj; exact hw'.cell c2 fun h => h
    | 2, hj => cases hj; exact hw'.cell c3 fun h => h
  refine Bk.l1C (fun w' hw' => hbk.no hw') rfl ?_
  simp only [ay.ix, vs, Nat.add_zero]
  refine lNC_of (vs := [u64 (ky y).n, u64 (ky y).d, .int .i64 (ky y).tie]) rfl (fun w' hw' j u hj => ?_) ?_
  · match j, hj with
    | 0, hj => cases hj; exact hw'.cell d1 fun h => h
    | 1, hj => cases hj; exact hw'.cell d2 fun h => h
    | 2, hj => cases hj; exact hw'.cell d3 fun h => h
  constructor
  all_goals
    refine var_z zero60 fun w1 he1 hsz1 hb1 => ?_
    have hE1 : Ext No w w1 := (Ext.refl No w).drew.tr he1
    refine ⟨hE1, ?_⟩
    refine var_z zero60 fun w2 he2 hsz2 hb2 => ?_
    have hE2 := hE1.tr he2
    refine ⟨hE2, ?_⟩
    have hsd : w.drew.heap.size = w.heap.size := rfl
  · have hb1' := hb1.no he2
    refine hb1'.stN rfl (by simp [Value.cells]) (by simp [oneB]) fun w3 hb3 he3 hsz3 => ?_
    rw [ovr_all _ _ (by simp [Value.cells])] at hb3
    have hE3 : Ext No w w3 := hE2.trans he3 fun k hk e => by omega
    refine ⟨hE3, ?_⟩
    have hb2' := hb2.ext he3 (by omega)
    refine hb2'.stN rfl (by simp [Value.cells]) (by simp [oneB]) fun w4 hb4 he4 hsz4 => ?_
    rw [ovr_all _ _ (by simp [Value.cells])] at hb4
    exact tail _ _ _ (hb3.ext he4 (by omega)) hb4 (hE3.trans he4 fun k hk e => by omega)
  · have hb1' := hb1.no he2
    refine hb2.stN rfl (by simp [Value.cells]) (by simp [oneB]) fun w3 hb3 he3 hsz3 => ?_
    rw [ovr_all _ _ (by simp [Value.cells])] at hb3
    have hE3 : Ext No w w3 := hE2.trans he3 fun k hk e => by omega
    refine ⟨hE3, ?_⟩
    have hb2' := hb1'.ext he3 (by omega)
    refine hb2'.stN rfl (by simp [Value.cells]) (by simp [oneB]) fun w4 hb4 he4 hsz4 => ?_
    rw [ovr_all _ _ (by simp [Value.cells])] at hb4
    exact tail _ _ _ (hb3.ext he4 (by omega)) hb4 (hE3.trans he4 fun k hk e => by omega)

def setRt (C : Nat → Core) (x r : Nat) : Nat → Core := upN C x { C x with rt := r }
/-- join: x stands behind y in y's ring. -/
def joinC (C : Nat → Core) (x y : Nat) : Nat → Core := setRt (setRt C x (C y).rt) y x

theorem join_ok {w : World} {b : Nat} {sv : Value} {least nn : Int} {len : Nat} {C : Nat → Core} (h : HM w b sv least nn len C) {x y : Nat} (hx : x < len) (hy : y < len) (hr : (C y).rt < len) :
    Ret PR 60 #[ptr b, .int .i64 (x : Int), .int .i64 (y : Int)] w (fun r w' => HM w' b sv least nn len (joinC C x y) ∧ Ext (Ft b sv) w w' ∧ w'.heap.size = w.heap.size) := by
  refine f60_ret ?_
  unfold f60 ptr
  obtain ⟨gy, ay⟩ := h.at hy
  obtain ⟨gx, ax⟩ := h.at hx
  obtain ⟨gr, ar'⟩ := h.at hr
  simp only [vs, Nat.add_zero, h.ent, ay.ix, ax.ix, l1_eq ay.rt]
  refine h.wLf hx ax.own _ fun w1 h1 he1 hs1 => ?_
  refine h1.wRt hx ax.own _ fun w2 h2 he2 hs2 => ?_
  refine h2.wRt hy ay.own _ fun w3 h3 he3 hs3 => ?_
  simp only [ar'.ix, vs]
  refine h3.wLf hr ar'.own _ fun w4 h4 he4 hs4 => ?_
  exact ⟨h4, (((he1.tr he2).tr he3).tr he4).row, by omega⟩

/-- the ring of the roots, and the least one -/
def RR (ky C : Nat → Core) (least : Int) (ro : List Nat) : Prop := (ro = [] ∧ least = 0) ∨ ∃ z l, ro = z :: l ∧ least = ((z + 1 : Nat) : Int) ∧ Ring (fun i => (C i).rt) ro ∧ ∀ y, y ∈ ro → y ≠ z → ltH ky z y
/-- nothing but the ring's links of some entries has changed -/
def Lk (C C' : Nat → Core) (X : Nat → Prop) : Prop := ∀ i, C' i = { C i with rt := (C' i).rt } ∧ (¬ X i → C' i = C i)
theorem Lk.refl (C : Nat → Core) (X : Nat → Prop) : Lk C C X := fun i => ⟨rfl, fun _ => rfl⟩
theorem Lk.trans {C C' C'' : Nat → Core} {X Y : Nat → Prop} (h : Lk C C' X) (h' : Lk C' C'' Y) (hs : ∀ i, X i → Y i) : Lk C C'' Y := fun i => by
  refine ⟨?_, fun hn => ((h' i).2 hn).trans ((h i).2 fun hx => hn (hs i hx))⟩
  conv => lhs; rw [(h' i).1, (h i).1]
theorem Lk.mono {C C' : Nat → Core} {X Y : Nat → Prop} (h : Lk C C' X) (hs : ∀ i, X i → Y i) : Lk C C' Y := fun i => ⟨(h i).1, fun hn => (h i).2 fun hx => hn (hs i hx)⟩
theorem Lk.set (C : Nat → Core) (x r : Nat) {X : Nat → Prop} (hx : X x) : Lk C (setRt C x r) X := fun i => by
  unfold setRt
  by_cases e : i = x
  · subst e; rw [upN_same]; exact ⟨rfl, fun h => absurd hx h⟩
  · rw [upN_other _ _ e]; exact ⟨rfl, fun _ => rfl⟩
theorem Lk.key {C C' : Nat → Core} {X : Nat → Prop} (h : Lk C C' X) {i : Nat} {k : Core} (hk : keyIs (C i) k) : keyIs (C' i) k := by rw [(h i).1]; exact hk

theorem ring_lt {rt : Nat → Nat} {l : List Nat} (h : Ring rt l) {x : Nat} (hx : x ∈ l) : rt x ∈ l := by
  cases l with
  | nil => cases hx
  | cons z l =>
    obtain ⟨i, hi, rfl⟩ := List.mem_iff_getElem.1 hx
    have := h.next hi
    have hm : rt (z :: l)[i] ∈ z :: l ++ [z] := List.mem_of_getElem? this.symm
    rcases List.mem_append.1 hm with hm | hm
    · exact hm
    · rw [List.mem_singleton] at hm; rw [hm]; simp

theorem join_ring {C : Nat → Core} {x z : Nat} {l : List Nat} (h : Ring (fun i => (C i).rt) (z :: l)) (hx : x ∉ z :: l) (hn : (z :: l).Nodup) : Ring (fun i => (joinC C x z i).rt) (z :: x :: l) := by
  have hxz : x ≠ z := fun e => hx (by simp [e])
  have hz : z ∉ l := (List.nodup_cons.1 hn).1
  refine Path.insert (rt := fun i => (C i).rt) (rt' := fun i => (joinC C x z i).rt) h ?_ ?_ fun w hw => ?_
  · show (joinC C x z x).rt = (C z).rt
    unfold joinC setRt
    rw [upN_other _ _ hxz, upN_same]
  · show (joinC C x z z).rt = x
    unfold joinC setRt
    rw [upN_same]
  · show (joinC C x z w).rt = (C w).rt
    unfold joinC setRt
    rw [upN_other _ _ (show w ≠ z from fun e => hz (e ▸ hw)), upN_other _ _ (show w ≠ x from fun e => hx (List.mem_cons_of_mem _ (e ▸ hw)))]
theorem join_lk (C : Nat → Core) (x y : Nat) {X : Nat → Prop} (hx : X x) (hy : X y) : Lk C (joinC C x y) X := (Lk.set C x _ hx).trans (Lk.set _ y x hy) fun _ h => h

set_option maxHeartbeats 1000000 in
theorem root_ok {w : World} {b : Nat} {sv : Value} {least nn : Int} {len : Nat} {C ky : Nat → Core} {ro : List Nat} (h : HM w b sv least nn len C) (hk : KOk ky) (hR : RR ky C least ro) (hn : ro.Nodup) {x : Nat} (hxr : x ∉ ro) (hx : x < len) (hro : ∀ y, y ∈ ro → y < len)
    (hkey : ∀ y, y = x ∨ y ∈ ro → keyIs (C y) (ky y)) :
    Ret PR 37 #[ptr b, .int .i64 (x : Int)] w (fun r w' => ∃ C' least' ro', HM w' b sv least' nn len C' ∧ RR ky C' least' ro' ∧ ro'.Nodup ∧ (∀ y, y ∈ ro' ↔ y = x ∨ y ∈ ro) ∧ Lk C C' (fun i => i = x ∨ i ∈ ro) ∧ Ext (Ft b sv) w w') := by
  refine f37_ret ?_
  unfold f37 ptr
  obtain ⟨gx, ax⟩ := h.at hx
  simp only [vs, Nat.add_zero, h.ent, ax.ix]
  refine h.wPar hx ax.own _ fun w1 h1 he1 hs1 => ?_
  simp only [vs, h1.ent, ax.ix]
  refine h1.wMk hx ax.own _ fun w2 h2 he2 hs2 => ?_
  have hE2 : Ext (Ft b sv) w w2 := (he1.tr he2).row
  simp only [vs, Nat.zero_add, h2.lst, beq_dec]
  rcases hR with ⟨rfl, rfl⟩ | ⟨z, l, rfl, rfl, hring, hmin⟩
  · simp only [decide_true, vs]
    have h2d := h2.no (Ext.refl No w2).drew
    simp only [h2d.ent, ax.ix, vs]
    refine h2d.wLf hx ax.own _ fun w3 h3 he3 hs3 => ?_
    refine h3.wRt hx ax.own _ fun w4 h4 he4 hs4 => ?_
    have := h.few
    simp (disch := omega) only [ar, vs, Nat.zero_add]
    refine h4.setLst _ fun w5 h5 he5 hs5 => ?_
    refine ⟨_, _, [x], h5, .inr ⟨x, [], rfl, by omega, ?_, fun y hy hne => absurd (by simpa using hy) hne⟩, by simp, fun y => by simp, Lk.set C x x (.inl rfl), ((hE2.drew.tr he3.row).tr he4.row).tr he5.one⟩
    show (upN C x { C x with rt := x } x).rt = x
    rw [upN_same]
  · have hzl : z < len := hro z (by simp)
    have hfew := h.few
    rw [show decide (((z + 1 : Nat) : Int) = 0) = false from decide_eq_false (by omega)]
    simp (disch := omega) only [vs, Nat.zero_add, h2.lst, ar]
    rw [show ((z + 1 : Nat) : Int) - 1 = (z : Int) by omega]
    have hrz : (C z).rt ∈ z :: l := ring_lt (rt := fun i => (C i).rt) hring (List.mem_cons_self ..)
    refine (join_ok h2 hx hzl (hro _ hrz)).mono ?_
    rintro _ w3 ⟨h3, he3, hs3⟩
    have hring3 := join_ring hring hxr hn
    have hlk3 := join_lk C x z (X := fun i => i = x ∨ i ∈ z :: l) (.inl rfl) (.inr (by simp))
    simp (disch := omega) only [vs, Nat.zero_add, h3.lst, ar]
    rw [show ((z + 1 : Nat) : Int) - 1 = (z : Int) by omega]
    refine (less_ok h3 hk hx hzl (hlk3.key (hkey x (.inl rfl))) (hlk3.key (hkey z (.inr (by simp))))).mono ?_
    rintro _ w4 ⟨rfl, he4⟩
    have h4 := h3.no he4
    have hE4 := (hE2.tr he3).noTr he4
    have hxz : x ≠ z := fun e => hxr (by simp [e])
    have hxl : x ∉ l := fun e => hxr (by simp [e])
    have hz := List.nodup_cons.1 hn
    by_cases hlt : ltH ky x z
    · simp (disch := omega) only [hlt, decide_true, vs, ar, Nat.zero_add]
      refine h4.setLst _ fun w5 h5 he5 hs5 => ?_
      refine ⟨_, _, x :: (l ++ [z]), h5, .inr ⟨x, l ++ [z], rfl, by omega, hring3.rotate, fun y hy hne => ?_⟩, ?_, fun y => ?_, hlk3, hE4.tr he5.one⟩
      · simp only [List.mem_cons, List.mem_append, List.not_mem_nil, or_false] at hy
        rcases hy with hy | hy | hy
        · exact absurd hy hne
        · by_cases e : y = z
          · subst e; exact hlt
          · exact ltH_trans hk.pos _ _ _ hlt (hmin y (by simp [hy]) e)
        · subst hy; exact hlt
      · rw [List.nodup_cons, List.nodup_append]
        refine ⟨?_, hz.2, by simp, fun a ha b' hb' e => ?_⟩
        · simp only [List.mem_append, List.mem_singleton, not_or]; exact ⟨hxl, hxz⟩
        · rw [List.mem_singleton] at hb'; subst hb'; subst e; exact hz.1 ha
      · simp only [List.mem_cons, List.mem_append, List.not_mem_nil, or_false]
        constructor
        · rintro (h | h | h)
          · exact .inl h
          · exact .inr (.inr h)
          · exact .inr (.inl h)
        · rintro (h | h | h)
          · exact .inl h
          · exact .inr (.inr h)
          · exact .inr (.inl h)
    · simp only [hlt, decide_false, vs]
      refine ⟨_, _, z :: x :: l, h4, .inr ⟨z, x :: l, rfl, rfl, hring3, fun y hy hne => ?_⟩, ?_, fun y => ?_, hlk3, hE4⟩
      · simp only [List.mem_cons] at hy
        rcases hy with hy | hy | hy
        · exact absurd hy hne
        · subst hy
          exact (ltH_tot ky hxz).resolve_left hlt
        · exact hmin y (by simp [hy]) hne
      · rw [List.nodup_cons, List.nodup_cons]
        exact ⟨by simp only [List.mem_cons, not_or]; exact ⟨fun e => hxz e.symm, hz.1⟩, hxl, hz.2⟩
      · simp only [List.mem_cons]
        constructor
        · rintro (h | h | h)
          · exact .inr (.inl h)
          · exact .inl h
          · exact .inr (.inr h)
        · rintro (h | h | h)
          · exact .inr (.inl h)
          · exact .inl h
          · exact .inr (.inr h)

end Go.Proofs.Ythhpdcegkbfijaa.Sh
