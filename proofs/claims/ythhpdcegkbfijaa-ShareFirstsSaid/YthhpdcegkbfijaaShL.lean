/-
  share: the law ShareMoves: the walk.
-/
import Derived.Test.YthhpdcegkbfijaaShK
namespace Go.Proofs.Ythhpdcegkbfijaa.Sh
open Go.Proofs.Ythhpdcegkbfijaa.V Go.Proofs.Ythhpdcegkbfijaa.T
set_option linter.all false
set_option maxRecDepth 100000
set_option linter.unusedVariables false
set_option linter.unusedSimpArgs false
set_option linter.unnecessarySimpa false

theorem OrdR.nil {whole : List Int} {l : List Us} {o : List Str} {e : Int} (h : OrdR whole l o e) (he : e ≠ 0) : o = [] := by
  cases h with
  | err _ _ _ _ => rfl
  | dup _ _ => rfl
  | ok _ _ _ _ _ => exact absurd rfl he

/-- some cells of the first element of a row -/
theorem own_st0 {w : World} {T sz : Nat} {v : Value} {n : Nat} {xs : List Value} (h : Own w T sz v n xs) (h0 : 0 < n) {off m : Nat} {vs : Array Value} (hm : vs.size = m) (hl : off + m ≤ sz) (h1 : ∀ u, u ∈ vs.toList → oneB u = true) :
    ∃ g, inB v g ∧ ixsO sz v (.int .i64 0) = some (.pointer (some ⟨g, 0, none⟩)) ∧ ∀ {K : World → Prop}, (∀ w', Own w' T sz v n (ovr xs off vs.toList) → Ext (inB v) w w' → w'.heap.size = w.heap.size → K w') → stW m (.pointer (some ⟨g, off, none⟩)) (.agg vs) w K := by
  obtain ⟨g, e1, e2, e3, e4, e5, e6⟩ := h.spot (k := .i64) h0
  have hx : sz ≤ n * sz := Nat.le_mul_of_pos_left sz h0
  obtain ⟨w', q1, q2, q3, q4⟩ := own_stN e1 vs.toList 0 off w xs h h0 (by simp [hm]; omega) h1
  refine ⟨g, e1, by simpa using e3, fun hK => ⟨_, w', rfl, hm, q1, hK w' (by simpa using q2) q3 q4⟩⟩
theorem own_st1 {w : World} {T sz : Nat} {v : Value} {n : Nat} {xs : List Value} (h : Own w T sz v n xs) (h0 : 0 < n) {off : Nat} {u : Value} (hl : off < sz) (h1 : oneB u = true) (hc : u.cells = #[u]) :
    ∃ g, inB v g ∧ ixsO sz v (.int .i64 0) = some (.pointer (some ⟨g, 0, none⟩)) ∧ ∀ {K : World → Prop}, (∀ w', Own w' T sz v n (xs.set off u) → Ext (inB v) w w' → w'.heap.size = w.heap.size → K w') → stW 1 (.pointer (some ⟨g, off, none⟩)) u w K := by
  obtain ⟨g, e1, e2, e3, e4, e5, e6⟩ := h.spot (k := .i64) h0
  have hx : sz ≤ n * sz := Nat.le_mul_of_pos_left sz h0
  have hxl : xs.length = n * sz := h.1
  refine ⟨g, e1, by simpa using e3, fun hK => ?_⟩
  refine st1_of (u := xs[off]'(by omega)) (by rw [e4 off (by omega)]; exact List.getElem?_eq_getElem _) (e5 off) h1 (by rw [hc]; rfl) (by rw [hc]) (hK _ (e6 off u (by omega)) ?_ (by simp))
  exact Ext.setCell (S := inB v) (Ext.refl _ w) (fun _ => e1) u

theorem okU_of {whole : List Int} {u : Us} (h1 : formed u.us = true) (h2 : formed whole = true) (h3 : 1 ≤ u.wt) (h4 : u.wt ≤ 1000) : okU whole u := by
  unfold okU errS
  simp [h1, h2, h3, h4]

/-- who takes more -/
theorem more_le {whole : List Int} (hw : whole.length = 4) {u u' : Us} (h : okU whole u) (h' : okU whole u') (hwt : u'.wt = u.wt) {m : List Int} (hm : formed m = true) (hml : m.length = 4) (hus : u'.us = addV u.us m) : (shareV whole u).1 * (shareV whole u').2 ≤ (shareV whole u').1 * (shareV whole u).2 := by
  obtain ⟨vn, an, wn, g1, g2, g3, g4, g5⟩ := shareV_is hw h
  obtain ⟨vn', an', wn', q1, q2, q3, q4, q5⟩ := shareV_is hw h'
  have e1 := natL_inj (g2.symm.trans q2)
  have e2 : wn = wn' := by omega
  subst e1; subst e2
  have hl1 : vn.length = 4 := by rw [← natL_len, ← g1]; rfl
  have hl2 : vn'.length = 4 := by rw [← natL_len, ← q1]; rfl
  refine IsShare.mono g5 q5 g4 g4 (by omega) fun i hi hi' => Nat.mul_le_mul_right _ ?_
  have h1 : u.us[i]? = some (vn[i] : Int) := by rw [g1]; unfold natL; rw [List.getElem?_map, List.getElem?_eq_getElem hi]; rfl
  have h2 : u'.us[i]? = some (vn'[i] : Int) := by rw [q1]; unfold natL; rw [List.getElem?_map, List.getElem?_eq_getElem hi']; rfl
  have him : i < m.length := by omega
  have h3 := formed_at hm him
  rw [hus] at h2
  unfold addV at h2
  rw [List.getElem?_zipWith, h1, List.getElem?_eq_getElem him] at h2
  have := Option.some.inj h2
  omega
/-- whose weight is greater -/
theorem weight_le {whole : List Int} (hw : whole.length = 4) {u u' : Us} (h : okU whole u) (h' : okU whole u') (hwt : u.wt ≤ u'.wt) (hus : u'.us = u.us) : (shareV whole u').1 * (shareV whole u).2 ≤ (shareV whole u).1 * (shareV whole u').2 := by
  obtain ⟨vn, an, wn, g1, g2, g3, g4, g5⟩ := shareV_is hw h
  obtain ⟨vn', an', wn', q1, q2, q3, q4, q5⟩ := shareV_is hw h'
  have e1 := natL_inj (g2.symm.trans q2)
  have e2 := natL_inj ((g1.symm.trans hus.symm).trans q1)
  subst e1; subst e2
  exact IsShare.mono q5 g5 q4 g4 rfl fun i hi hi' => Nat.mul_le_mul_left _ (by omega)

set_option maxHeartbeats 4000000 in
theorem moves_walk {w : World} {whole more : List Int} (hw : whole.length = 4) (hmo : more.length = 4) {v : Value} {l : List Us} (h : UsL w v l) : Ret PR 5 #[vec whole, v, vec more] w (fun r w' => r = .bool true ∧ Ext No w w') := by
  refine f5_ret ?_
  unfold f5
  refine bx_bk fun w2 he2 hsz2 hbw => ?_
  refine bx_bk fun w4 he4 hsz4 hbm => ?_
  have hbw : Bk w4 w.heap.size (enc whole) 23 := hbw.no he4
  have hbm : Bk w4 w2.heap.size (enc more) 23 := hbm
  have hE4 := he2.tr he4
  have hwl : w.heap.size < w4.heap.size := hbw.lt
  have hml : w2.heap.size < w4.heap.size := hbm.lt
  have hvec : ∀ {wz : World}, Ext No w4 wz → ∀ K : Value → Prop, lN 4 (.pointer (some ⟨w.heap.size, 0, none⟩)) wz K = K (vec whole) := fun he K => (hbw.no he).all (by rw [enc_len]; exact hw) K
  refine (awake_ok w4).mono ?_
  rintro _ w8 ⟨rfl, he8⟩
  have hlen : lenO v = some (.int .i64 l.length) := Sl.len h
  have hbig : l.length ≤ 9223372036854775807 := h.2.1
  simp only [hlen, vs, ar, beq_dec]
  have out : Ret PR 8 #[] w8 (fun r w'' => r = .bool true ∧ Ext No w w'') := by
    refine (awake_ok w8).mono ?_
    rintro _ w9 ⟨rfl, he9⟩
    exact ⟨rfl, (hE4.tr he8).tr he9⟩
  by_cases h100 : l.length > 100
  · rw [show decide ((l.length : Int) > 100) = true from decide_eq_true (by omega)]
    simp only [vs]
    exact out
  rw [show decide ((l.length : Int) > 100) = false from decide_eq_false (by omega)]
  simp only [vs]
  cases l with
  | nil =>
    simp only [List.length_nil, Int.natCast_zero, decide_true, vs]
    exact out
  | cons u tl =>
  rw [show decide ((((u :: tl).length : Nat) : Int) = 0) = false from decide_eq_false (by simp; omega)]
  simp only [vs]
  have hll : (u :: tl).length = tl.length + 1 := rfl
  rw [hvec he8]
  have usl : ∀ {wz : World}, Ext No w4 wz → UsL wz v (u :: tl) := fun he => h.ext (hE4.tr he) fun _ _ h => h
  refine (order_ok hw (usl he8) (by omega)).mono ?_
  rintro _ w9 ⟨o, e, vo, hR, rfl, ho, he9, hn9⟩
  have hx9 := he8.tr he9
  simp only [vs, beq_dec]
  by_cases h0 : e = 0
  case neg =>
    obtain rfl := hR.nil h0
    have hso : Sl w9 1 vo 0 (encS []) := ho.sl (by simp)
    simp only [h0, decide_false, vs, hso.len, beq_dec, Int.natCast_zero, decide_true]
    exact ⟨by trivial, hE4.tr hx9⟩
  subst h0
  simp only [decide_true, vs]
  obtain ⟨hok, hnd, _⟩ := hR.okD
  have hku := hok u (by simp)
  obtain ⟨q1, q2, q3, q4⟩ := errS_zero hku
  have hol := hR.len
  have first : ∀ {wz : World}, Ext No w4 wz → ∃ g og, ixsO 6 v (.int .i64 0) = some (.pointer (some ⟨g, og, none⟩)) ∧ ∀ j, j < 6 → wz.cell? ⟨g, og + j, none⟩ = (uC u)[j]? := fun he => by
    obtain ⟨g, og, _, hix, hcell⟩ := (usl he).at (i := 0) (by simp)
    exact ⟨g, og, hix, hcell⟩
  obtain ⟨g, og, hix, hcell⟩ := first hx9
  have cells : ∀ {wz : World}, Ext No w4 wz → ∀ j, j < 6 → wz.cell? ⟨g, og + j, none⟩ = (uC u)[j]? := fun he => by
    obtain ⟨g5, og5, hix5, hcell5⟩ := first he
    have hh := hix
    rw [hix5] at hh
    simp only [Option.some.injEq, Value.pointer.injEq, Addr.mk.injEq, and_true] at hh
    obtain ⟨e1, e2⟩ := hh
    rw [← e1, ← e2]
    exact hcell5
  have hc0 : w9.cell? ⟨g, og, none⟩ = some (str u.nm) := by
    have := hcell 0 (by omega)
    rw [Nat.add_zero] at this
    exact this
  simp only [hix, vs, Nat.add_zero, l1_eq hc0]
  have hso : Sl w9 1 vo o.length (encS o) := ho.sl (by omega)
  refine (place_ok (x := u.nm) hso).mono ?_
  rintro _ w10 ⟨hpl, rfl⟩
  have hmem := hR.mem (u := u) (by simp)
  rcases hpl with ⟨hno, _⟩ | ⟨k, hk, hko, hkn, rfl⟩
  · exact absurd hmem hno
  -- the copy
  have nil0 : ∀ k, ¬ inB (.slice none 0 0) k := fun k hk => by simp [inB, Value.ownBlock] at hk
  refine append_own E24 (Own.nil w10 37 6) (usl hx9) (uC_one _) (by omega) (by omega) fun vc w11 hoc he11 hk11 _ => ?_
  rw [Nat.zero_add, List.nil_append] at hoc
  have he11' : Ext No w10 w11 := he11.mono fun m _ hm => absurd hm (nil0 m)
  have hx11 := hx9.tr he11'
  have hcn : ∀ m, inB vc m → w10.heap.size ≤ m := fun m hm => (hk11 m hm).resolve_left (nil0 m)
  have hs9 := hx9.size
  have noC : ∀ m, m < w4.heap.size → ¬ inB vc m := fun m hm hin => by have := hcn m hin; omega
  intro K2 hK2
  -- what follows both
  have restA : ∀ wz bv e s, Ext No w4 wz → Own wz 37 6 vc (u :: tl).length ((u :: tl).flatMap uC) → (∃ T, Bk wz bv (enc s) T) → s.length = 4 → (e = 0 → formed u.us = true ∧ formed more = true ∧ s = addV u.us more ∧ formed s = true) → K2 (.pointer (some ⟨bv, 0, none⟩), .int .i64 e) wz := fun wz bv e s hxz hoz hbs hsl hsp => by
    refine hK2 _ _ fun _ => ?_
    intro K3 hK3
    have restB : ∀ wy u', Ext No w4 wy → Own wy 37 6 vc (u :: tl).length ((u' :: tl).flatMap uC) → K3 () wy := fun wy u' hxy hoy => by
      refine hK3 _ _ fun _ => ?_
      simp only [uC_lN (cells hxy)]
      obtain ⟨gc, hgc, hixc, hst⟩ := own_st0 hoy (by simp) (off := 0) (m := 6) (vs := (uC u).toArray) rfl (by omega) (by simp [uC, oneB, str])
      simp only [hixc, vs]
      refine hst fun wx hox hex hsx => ?_
      have e1 : ovr ((u' :: tl).flatMap uC) 0 (uC u).toArray.toList = (u :: tl).flatMap uC := by
        unfold ovr
        rw [List.flatMap_cons, List.flatMap_cons]
        simp [uC]
      rw [e1] at hox
      have hxx : Ext No w4 wx := hxy.trans hex fun m hm hin => absurd hin (noC m hm)
      have hc1 : wx.cell? ⟨g, og + 1, none⟩ = some (.int .i64 u.wt) := cells hxx 1 (by omega)
      simp (disch := omega) only [vs, l1_eq hc1, ar]
      unfold sv
      rw [run_min_int2]
      obtain ⟨gc2, hgc2, hixc2, hst2⟩ := own_st1 hox (by simp) (off := 1) (u := .int .i64 (if (1000 : Int) < u.wt + 1 then 1000 else u.wt + 1)) (by omega) rfl rfl
      rw [hixc] at hixc2
      simp only [Option.some.injEq, Value.pointer.injEq, Addr.mk.injEq, and_true] at hixc2
      subst hixc2
      simp only [vs, Nat.zero_add]
      refine hst2 fun wu hou heu hsu => ?_
      have hxu : Ext No w4 wu := hxx.trans heu fun m hm hin => absurd hin (noC m hm)
      have e2 : ((u :: tl).flatMap uC).set 1 (.int .i64 (if (1000 : Int) < u.wt + 1 then 1000 else u.wt + 1)) = ({ u with wt := if (1000 : Int) < u.wt + 1 then 1000 else u.wt + 1 } :: tl).flatMap uC := by
        rw [List.flatMap_cons, List.flatMap_cons]; rfl
      rw [e2] at hou
      rw [hvec hxu]
      have husu : UsL wu vc ({ u with wt := if (1000 : Int) < u.wt + 1 then 1000 else u.wt + 1 } :: tl) := hou.sl (by omega)
      have hwtb : 1 ≤ (if (1000 : Int) < u.wt + 1 then 1000 else u.wt + 1) ∧ (if (1000 : Int) < u.wt + 1 then 1000 else u.wt + 1) ≤ 1000 ∧ u.wt ≤ (if (1000 : Int) < u.wt + 1 then 1000 else u.wt + 1) := by split <;> omega
      generalize (if (1000 : Int) < u.wt + 1 then 1000 else u.wt + 1) = wt2 at *
      refine (order_ok hw husu (by simp; omega)).mono ?_
      rintro _ wt ⟨o2, e3, v3, hR3, rfl, ho3, het, hn3⟩
      have hokw : okU whole { u with wt := wt2 } := okU_of q1 q2 hwtb.1 hwtb.2.1
      obtain ⟨rfl, hol3⟩ := hR.other (u' := { u with wt := wt2 }) rfl hokw hR3
      have hs3 : Sl wt 1 v3 o2.length (encS o2) := ho3.sl (by omega)
      simp only [vs]
      refine (place_ok (x := u.nm) hs3).mono ?_
      rintro _ ws ⟨hpl3, rfl⟩
      have hmem3 := hR3.mem (u := { u with wt := wt2 }) (by simp)
      rcases hpl3 with ⟨hno, _⟩ | ⟨k3, hk3, hko3, _, rfl⟩
      · exact absurd hmem3 hno
      have hle := hR3.moves hw hR (u' := u) rfl (weight_le hw hku hokw hwtb.2.2 rfl) hk3 hko3 hk hko
      simp only [beq_self_eq_true, vs, ar]
      rw [show decide ((k3 : Int) ≥ 0) = true from decide_eq_true (by omega), show decide ((k3 : Int) ≤ (k : Int)) = true from decide_eq_true (by omega)]
      simp only [vs]
      exact ⟨by trivial, (hE4.tr hxu).tr het⟩
    simp only [beq_dec, vs]
    by_cases hef : e = 0
    case neg =>
      rw [show decide (e = 0) = false from decide_eq_false hef]
      simp only [vs]
      exact restB _ u hxz hoz
    rw [show decide (e = 0) = true from decide_eq_true hef]
    obtain ⟨fu, fm, hs, fs⟩ := hsp hef
    obtain ⟨T, hbs⟩ := hbs
    simp only [vs, hbs.all (n := 4) (by rw [enc_len]; exact hsl)]
    match s, hsl with
    | [s0, s1, s2, s3], _ =>
    obtain ⟨gc, hgc, hixc, hst⟩ := own_st0 hoz (by simp) (off := 2) (m := 4) (vs := (enc [s0, s1, s2, s3]).toArray) rfl (by omega) (by simp [enc, oneB])
    simp only [hixc, vs, Nat.zero_add]
    refine hst fun wx hox hex hsx => ?_
    have e1 : ovr ((u :: tl).flatMap uC) 2 (enc [s0, s1, s2, s3]).toArray.toList = ({ u with u0 := s0, u1 := s1, u2 := s2, u3 := s3 } :: tl).flatMap uC := by
      unfold ovr
      rw [List.flatMap_cons, List.flatMap_cons]
      simp [uC, enc]
    rw [e1] at hox
    have hxx : Ext No w4 wx := hxz.trans hex fun m hm hin => absurd hin (noC m hm)
    rw [hvec hxx]
    have husx : UsL wx vc ({ u with u0 := s0, u1 := s1, u2 := s2, u3 := s3 } :: tl) := hox.sl (by omega)
    refine (order_ok hw husx (by simp; omega)).mono ?_
    rintro _ wt ⟨o2, e3, v3, hR3, rfl, ho3, het, hn3⟩
    have hoks : okU whole { u with u0 := s0, u1 := s1, u2 := s2, u3 := s3 } := okU_of fs q2 q3 q4
    obtain ⟨rfl, hol3⟩ := hR.other (u' := { u with u0 := s0, u1 := s1, u2 := s2, u3 := s3 }) rfl hoks hR3
    have hs3 : Sl wt 1 v3 o2.length (encS o2) := ho3.sl (by omega)
    simp only [vs, beq_self_eq_true, hs3.len, hso.len, hol3]
    refine (place_ok (x := u.nm) hs3).mono ?_
    rintro _ ws ⟨hpl3, rfl⟩
    have hmem3 := hR3.mem (u := { u with u0 := s0, u1 := s1, u2 := s2, u3 := s3 }) (by simp)
    rcases hpl3 with ⟨hno, _⟩ | ⟨k3, hk3, hko3, _, rfl⟩
    · exact absurd hmem3 hno
    have hle := hR.moves hw hR3 (u' := { u with u0 := s0, u1 := s1, u2 := s2, u3 := s3 }) rfl (more_le hw hku hoks rfl fm hmo hs) hk hko hk3 hko3
    simp only [ar, vs]
    rw [show decide ((k3 : Int) < (k : Int)) = false from decide_eq_false (by omega)]
    simp only [vs]
    rw [show decide ((k : Int) < 0) = false from decide_eq_false (by omega)]
    simp only [vs]
    exact restB _ _ (hxx.tr het) (hox.ext het fun _ _ h => h)
  -- the sum
  refine ⟨fun w' => Ext No w4 w', hx11.drew, ?_⟩
  refine lNC_of (vs := enc u.us) rfl (fun w' hw' j x hj => ?_) ?_
  · have hj4 : j < 4 := by have := (List.getElem?_eq_some_iff.1 hj).1; simpa [enc, Us.us] using this
    rw [Nat.add_assoc, cells hw' (2 + j) (by omega)]
    match j, hj4, hj with
    | 0, _, hj => exact hj
    | 1, _, hj => exact hj
    | 2, _, hj => exact hj
    | 3, _, hj => exact hj
  refine Bk.lNC (b := w2.heap.size) (cs := enc more) (T := 23) (fun w' hw' => hbm.no hw') (o := 0) (vs := enc more) (by rw [List.drop_zero, List.take_of_length_le (by rw [enc_len]; omega)]) (by rw [enc_len]; exact hmo) ?_
  have hocd : Own w11.drew 37 6 vc (u :: tl).length ((u :: tl).flatMap uC) := hoc.ext (S := No) (Ext.refl No w11).drew fun _ _ h => h
  have arrS : ∀ {wz : World} {b : Nat} {cs : List Value} {T : Nat} {s : List Int} {K : World → Prop}, Bk wz b cs T → cs.length = 4 → s.length = 4 → (∀ w', Bk w' b (enc s) T → Ext (fun k => k = b) wz w' → K w') → stW 4 (.pointer (some ⟨b, 0, none⟩)) (vec s) wz K := fun hb hcl hsl hK => by
    refine hb.stN (by simp [enc, hsl]) (by omega) (fun x hx => by simp [enc] at hx; obtain ⟨n, _, rfl⟩ := hx; rfl) fun w' hb' he' _ => ?_
    rw [ovr_all _ _ (by simp [enc, hsl, hcl])] at hb'
    exact hK w' hb' he'
  have hcl : ∀ m, inB vc m → m < w11.heap.size := fun m hm => hoc.lt hm
  have hs11 := hx11.size
  have hsd : w11.drew.heap.size = w11.heap.size := rfl
  constructor
  · change Ret PR 14 #[vec u.us, vec more] w11.drew _
    refine (addV_ok (a := u.us) rfl hmo w11.drew).mono ?_
    rintro _ wa ⟨hea, s, e, hsl, rfl, hsp⟩
    simp only [vs]
    refine var_z zero23 fun wb heb hszb hbb => ?_
    have hxb : Ext No w4 wb := (hx11.drew.tr hea).tr heb
    have hsa := hea.size
    refine ⟨hxb, arrS hbb (by simp [Value.cells]) hsl fun wc hbc hec => ?_⟩
    refine restA wc _ e s (hxb.trans hec fun m hm e => by omega) (((hocd.ext hea fun _ _ h => h).ext heb fun _ _ h => h).ext hec fun m hm e => by have := hcl m hm; omega) ⟨_, hbc⟩ hsl hsp
  · refine var_z zero23 fun wb heb hszb hbb => ?_
    have hxb : Ext No w4 wb := hx11.drew.tr heb
    refine ⟨hxb, ?_⟩
    change Ret PR 14 #[vec u.us, vec more] wb _
    refine (addV_ok (a := u.us) rfl hmo wb).mono ?_
    rintro _ wa ⟨hea, s, e, hsl, rfl, hsp⟩
    simp only [vs]
    refine arrS (hbb.no hea) (by simp [Value.cells]) hsl fun wc hbc hec => ?_
    refine restA wc _ e s ((hxb.tr hea).trans hec fun m hm e => by omega) (((hocd.ext heb fun _ _ h => h).ext hea fun _ _ h => h).ext hec fun m hm e => by have := hcl m hm; omega) ⟨_, hbc⟩ hsl hsp

section
variable {H : Type} {en : TypeId × Value → H} {w : World} {base : Nat} {spare : Nat → Bool} {held : Bool}
theorem shareMoves_said {cs : Array Value} (h0 : Reads en PR w base spare held 23 cs.toList) {v : Value} (h1 : Reads en PR w base spare held 24 [v]) {cs2 : Array Value} (h2 : Reads en PR w base spare held 23 cs2.toList) :
    Ret PR 5 #[.agg cs, v, .agg cs2] w (fun r w' => r = .bool true ∧ Ext No w w') := by
  obtain ⟨whole, hw, he⟩ := vec_of h0
  obtain ⟨more, hm, he2⟩ := vec_of h2
  obtain ⟨l, hl⟩ := read_us h1
  rw [he, he2]
  exact moves_walk hw hm hl
end

end Go.Proofs.Ythhpdcegkbfijaa.Sh
