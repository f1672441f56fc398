/-
  share: contracts of the reference's Order: before; the sorting; plain.
-/
import Derived.Test.YthhpdcegkbfijaaShN
namespace Go.Proofs.Ythhpdcegkbfijaa.Sh
open Go.Proofs.Ythhpdcegkbfijaa.V Go.Proofs.Ythhpdcegkbfijaa.T
set_option linter.all false
set_option maxRecDepth 100000
set_option linter.unusedVariables false
set_option linter.unusedSimpArgs false
set_option linter.unnecessarySimpa false

def aggU (u : Us) : Value := .agg (uC u).toArray
theorem oneU (u : Us) : ∀ x, x ∈ (uC u).toArray.toList → oneB x = true := by
  intro x hx
  simp only [uC, List.mem_cons, List.not_mem_nil, or_false] at hx
  rcases hx with rfl | rfl | rfl | rfl | rfl | rfl <;> rfl

theorem before_ok {whole : List Int} (hw : whole.length = 4) {a b : Us} (ha : okU whole a) (hb : okU whole b) (w : World) :
    Ret PR 27 #[vec whole, aggU a, aggU b] w (fun r w' => ∃ c : Bool, r = .bool c ∧ (c = true ↔ ltU whole a b) ∧ Ext No w w') := by
  suffices hs : ∀ R : Kv, (∀ (c : Bool) w', (c = true ↔ ltU whole a b) → Ext No w w' → R (.bool c) w') → f27 (vec whole) (aggU a) (aggU b) w R from f27_ret (hs _ fun c w' h1 h2 => ⟨c, rfl, h1, h2⟩)
  intro R hR
  unfold f27
  refine bx_bk fun w2 he2 hsz2 hb1 => ?_
  refine bx_bk fun w4 he4 hsz4 hb3 => ?_
  refine bx_bk fun w6 he6 hsz6 hb5 => ?_
  have hb1 : Bk w6 w.heap.size (enc whole) 23 := (hb1.no he4).no he6
  have hb3 : Bk w6 w2.heap.size (uC a) 67 := hb3.no he6
  have hb5 : Bk w6 w4.heap.size (uC b) 67 := hb5
  have hE6 : Ext No w w6 := (he2.tr he4).tr he6
  simp only [vs, Nat.zero_add, hb3.lN (o := 2) (n := 4) (vs := enc a.us) rfl rfl, hb1.all (n := 4) (by rw [enc_len]; exact hw), hb3.l1 (j := 1) (v := .int .i64 a.wt) rfl]
  refine (share2_ok (v := a.us) rfl hw w6).mono ?_
  rintro r1 w14 ⟨he14, h1⟩
  rcases h1 with ⟨h0, _⟩ | ⟨_, N1, D1, vn, an, wn, q1, q2, q3, q4, q5, q6, rfl⟩
  · exact absurd ha h0
  have u1 := shareV_uniq hw ha q1 q2 q3 q4
  simp only [vs]
  refine var_st zero64 rfl (by rfl) (by simp [oneB]) fun w19 he19 hsz19 hb17 => ?_
  have hb17 : Bk w19 w14.heap.size [u64 N1, u64 D1] 64 := hb17
  have hx19 : Ext No w6 w19 := he14.tr he19
  simp only [vs, Nat.zero_add, (hb5.no hx19).lN (o := 2) (n := 4) (vs := enc b.us) rfl rfl, (hb1.no hx19).all (n := 4) (by rw [enc_len]; exact hw), (hb5.no hx19).l1 (j := 1) (v := .int .i64 b.wt) rfl]
  refine (share2_ok (v := b.us) rfl hw w19).mono ?_
  rintro r2 w27 ⟨he27, h2⟩
  rcases h2 with ⟨h0, _⟩ | ⟨_, N2, D2, vn2, an2, wn2, p1, p2, p3, p4, p5, p6, rfl⟩
  · exact absurd hb h0
  have u2 := shareV_uniq hw hb p1 p2 p3 p4
  simp only [vs]
  refine var_st zero64 rfl (by rfl) (by simp [oneB]) fun w32 he32 hsz32 hb30 => ?_
  have hb30 : Bk w32 w27.heap.size [u64 N2, u64 D2] 64 := hb30
  have hx32 : Ext No w6 w32 := (hx19.tr he27).tr he32
  rw [((hb17.no he27).no he32).all (n := 2) rfl, hb30.all (n := 2) rfl]
  refine (rcmp2_ok q5 q6 p5 p6 q4.pos p4.pos w32).mono ?_
  rintro _ w37 ⟨rfl, he37⟩
  have hx37 := hx32.tr he37
  have hfin := hE6.tr hx37
  have cr := cross_iff (a := N1) (b := D1) (c := N2) (d := D2) q4.pos p4.pos (shareV_pos hw ha) (shareV_pos hw hb) u1 u2
  have c1 := (hb3.no hx37).l1 (j := 0) (v := str a.nm) rfl
  have c2 := (hb5.no hx37).l1 (j := 0) (v := str b.nm) rfl
  simp only [vs, ar]
  rcases Nat.lt_trichotomy (N1 * D2) (N2 * D1) with hlt | heq | hgt
  · rw [show cmpI ((N1 * D2 : Nat) : Int) ((N2 * D1 : Nat) : Int) = -1 by unfold cmpI; rw [if_pos (by omega)]]
    simp only [show decide ((-1 : Int) < 0) = true from rfl, vs]
    exact hR true _ ⟨fun _ => .inl (cr.1.1 hlt), fun _ => rfl⟩ hfin
  · rw [show cmpI ((N1 * D2 : Nat) : Int) ((N2 * D1 : Nat) : Int) = 0 by unfold cmpI; rw [if_neg (by omega), if_neg (by omega)]]
    simp only [show decide ((0 : Int) < 0) = false from rfl, show ((0 : Int) == 0) = true from rfl, vs, Nat.zero_add, c1, c2, str_lt]
    refine hR _ _ ?_ hfin
    rw [decide_eq_true_iff]
    refine ⟨fun h => .inr ⟨cr.2.1 heq, h⟩, fun h => ?_⟩
    rcases h with h | ⟨_, h⟩
    · have := cr.1.2 h; omega
    · exact h
  · rw [show cmpI ((N1 * D2 : Nat) : Int) ((N2 * D1 : Nat) : Int) = 1 by unfold cmpI; rw [if_neg (by omega), if_pos (by omega)]]
    simp only [show decide ((1 : Int) < 0) = false from rfl, show ((1 : Int) == 0) = false from rfl, vs]
    refine hR false _ ⟨fun h => by simp at h, fun h => ?_⟩ hfin
    rcases h with h | ⟨h, _⟩
    · have := cr.1.2 h; omega
    · have := cr.2.2 h; omega

/-! ### rows of usages -/
theorem E31s : ElemT PR 31 67 6 56 := .of (z := .agg #[.string ⟨#[]⟩, .int .i64 0, .int .i64 0, .int .i64 0, .int .i64 0, .int .i64 0]) (by kernel_rfl) (by kernel_rfl) rfl (by omega)
theorem zero67 : (PR.info? 67).map (fun i => i.zero) = some (some (.agg #[.string ⟨#[]⟩, .int .i64 0, .int .i64 0, .int .i64 0, .int .i64 0, .int .i64 0])) := by kernel_rfl
theorem pl67 : placesO PR 67 = some ([(0, 1), (1, 1), (2, 4)].map fun p => (p.1, some p.2)) := by kernel_rfl
def UsO (w : World) (v : Value) (l : List Us) : Prop := Own w 67 6 v l.length (l.flatMap uC)
theorem UsO.ext {S : Nat → Prop} {w w' : World} {v : Value} {l : List Us} (h : UsO w v l) (he : Ext S w w') (hn : ∀ k, inB v k → ¬ S k) : UsO w' v l := Own.ext h he hn
theorem UsO.sl {w : World} {v : Value} {l : List Us} (h : UsO w v l) : UsL w v l := Own.sl h h.le
theorem UsO.put {w : World} {v : Value} {l : List Us} (h : UsO w v l) {i : Nat} (hi : i < l.length) (x : Us) : ∃ g, inB v g ∧ ixsO 6 v (.int .i64 (i : Int)) = some (.pointer (some ⟨g, i * 6, none⟩)) ∧
    ∀ {K : World → Prop}, (∀ w', UsO w' v (l.set i x) → Ext (inB v) w w' → w'.heap.size = w.heap.size → K w') → stW 6 (.pointer (some ⟨g, i * 6, none⟩)) (aggU x) w K := by
  obtain ⟨g, e1, e2, e3, e4, e5, e6⟩ := h.spot (k := .i64) hi
  have hle : (i + 1) * 6 ≤ l.length * 6 := Nat.mul_le_mul_right 6 hi
  obtain ⟨w', q1, q2, q3, q4⟩ := own_stN e1 (uC x) 0 (i * 6) w _ h (by omega) (by show i * 6 + 0 + 6 ≤ _; omega) (oneU x)
  refine ⟨g, e1, e3, fun hK => ⟨_, w', rfl, rfl, q1, hK w' ?_ q3 q4⟩⟩
  rw [Nat.add_zero, flat_ovr uC uC_len x l i hi] at q2
  unfold UsO
  rw [List.length_set]
  exact q2
theorem pushU {w : World} {v : Value} {l : List Us} (x : Us) (h : UsO w v l) (hl : l.length ≤ 1000000) {K : Kv}
    (hK : ∀ v' w', UsO w' v' (l ++ [x]) → Ext (inB v) w w' → (∀ m, inB v' m → inB v m ∨ w.heap.size ≤ m) → K v' w') :
    sv PR (Instr.buildSlice 31 1 #[(0, aggU x)]) w fun v1 w1 => sv PR (Builtin.append_ #[31, 31] 31 #[v, v1]) w1 K := by
  refine bsF (n := 1) (sz := 6) (cells := (uC x).toArray) zero67 Try.underlying31 (by kernel_rfl) (by decide) (by decide) (by kernel_rfl) rfl fun v1 wd hv1 hed hvk1 hszd => ?_
  have hv1 : Own wd 67 6 v1 1 (uC x) := hv1
  refine append_own E31s (Own.ext h hed fun _ _ h => h) (hv1.sl (by omega)) (fun u hu => uC_one [x] u (by simpa using hu)) (by omega) (by omega) fun vt we hvt hee hvtB _ => ?_
  refine hK _ _ ?_ (hed.no.trans hee fun m hm hi => hi) fun m hm => ?_
  · unfold UsO
    rw [List.flatMap_append, List.length_append]
    simpa using hvt
  · rcases hvtB m hm with h1 | h1
    · exact .inl h1
    · exact .inr (by omega)

theorem plain_ok {w : World} {v : Value} {l : List Us} (h : UsL w v l) (hl : l.length ≤ 1000) : Ret PR 11 #[v] w (fun r w' => UsO w' r l ∧ Ext No w w' ∧ ∀ k, inB r k → w.heap.size ≤ k) := by
  refine f11_ret ?_
  unfold f11
  have nil0 : ∀ k, ¬ inB (.slice none 0 0) k := fun k hk => by simp [inB, Value.ownBlock] at hk
  have hlen : lenO v = some (.int .i64 l.length) := Sl.len h
  simp only [hlen, vs]
  refine for2 (n := l.length) (by omega) (fun k v' w' => UsO w' v' (l.take k) ∧ Ext No w w' ∧ ∀ m, inB v' m → w.heap.size ≤ m) ⟨Own.nil w 67 6, Ext.refl _ _, fun k hk => absurd hk (nil0 k)⟩ ?_ ?_
  · rintro k v' w' hk ⟨hU, he, hn⟩ K hK
    have hd : Ext No w' w'.drew := (Ext.refl No w').drew
    obtain ⟨g, o, _, hix, hc⟩ := (h.ext (he.tr hd) fun _ _ h => h).at hk
    have c0 := hc 0 (by omega)
    have c1 := hc 1 (by omega)
    rw [Nat.add_zero] at c0
    have c2 : ∀ j, j < 4 → w'.drew.cell? ⟨g, o + 2 + j, none⟩ = (enc l[k].us)[j]? := fun j hj => by
      rw [Nat.add_assoc, hc (2 + j) (by omega), Nat.add_comm]; rfl
    simp only [hix, vs, Nat.add_zero, l1_eq (show w'.drew.cell? ⟨g, o, none⟩ = some (str l[k].nm) from c0), l1_eq (show w'.drew.cell? ⟨g, o + 1, none⟩ = some (.int .i64 l[k].wt) from c1)]
    rw [lN_eq (n := 4) (vs := enc l[k].us) rfl c2]
    refine build_st zero67 pl67 (cells := (uC l[k]).toArray) (by rfl) ?_
    refine pushU l[k] (hU.ext hd fun _ _ h => h) (by rw [List.length_take]; omega) fun v2 w2 hU2 he2 hv2 => ?_
    simp (disch := omega) only [vs, ar]
    refine hK _ _ ⟨?_, (he.tr hd).trans he2 fun m hm hi => by have := hn m hi; omega, fun m hm => ?_⟩
    · rw [List.take_succ_eq_append_getElem hk]; exact hU2
    · rcases hv2 m hm with h1 | h1
      · exact hn m h1
      · have := he.size; have := hd.size; omega
  · rintro v' w' ⟨hU, he, hn⟩
    rw [List.take_length] at hU
    exact ⟨hU, he, hn⟩

end Go.Proofs.Ythhpdcegkbfijaa.Sh
