/-
  share: ShareFirsts, the walk.
-/
import Derived.Test.YthhpdcegkbfijaaShQ
namespace Go.Proofs.Ythhpdcegkbfijaa.Sh
open Go.Proofs.Ythhpdcegkbfijaa.V Go.Proofs.Ythhpdcegkbfijaa.T
set_option linter.all false
set_option maxRecDepth 100000
set_option linter.unusedVariables false
set_option linter.unusedSimpArgs false
set_option linter.unnecessarySimpa false

theorem firstq_ok {w : World} {whole : List Int} (hw : whole.length = 4) {v va : Value} {l : List Us} {am : List Str} (h : UsL w v l) (hl : l.length ≤ 1000) (ha : Sl w 1 va am.length (encS am)) :
    Ret PR 16 #[vec whole, va, v] w (fun r w' => ∃ out e, OrdR whole l out e ∧ r = .tuple #[str (firstR out e am).1, .int .i64 (firstR out e am).2] ∧ Ext No w w') := by
  suffices hs : ∀ R : Kv, (∀ w' out e, OrdR whole l out e → Ext No w w' → R (.tuple #[str (firstR out e am).1, .int .i64 (firstR out e am).2]) w') → f16 (vec whole) va v w R from
    f16_ret (hs _ fun w' out e h1 h2 => ⟨out, e, h1, rfl, h2⟩)
  intro R hR'
  unfold f16
  refine bx_bk fun w2 he2 hsz2 hbw => ?_
  have hbw : Bk w2 w.heap.size (enc whole) 23 := hbw
  rw [hbw.all (by rw [enc_len]; exact hw)]
  change Ret PR 10 #[vec whole, v] w2 _
  refine (orderR_ok hw (h.ext he2 fun _ _ h => h) hl).mono ?_
  rintro _ w3 ⟨out, e, vo, hR, rfl, ho, he3, hn⟩
  have hE3 := he2.tr he3
  simp only [vs, beq_dec]
  by_cases h0 : e = 0
  case neg =>
    rw [show decide (e = 0) = false from decide_eq_false h0]
    simp only [vs]
    have := hR' w3 out e hR hE3
    unfold firstR at this
    rw [if_pos h0] at this
    exact this
  rw [show decide (e = 0) = true from decide_eq_true h0]
  have hol : out.length ≤ 9223372036854775807 := ho.le
  have hs : Sl w3 1 vo out.length (encS out) := ho.sl hol
  have hal : am.length ≤ 9223372036854775807 := ha.2.1
  simp only [vs, hs.len, ha.len]
  refine for1 hol (fun k w' => Ext No w3 w' ∧ ∀ j (hj : j < out.length), j < k → out[j] ∉ am) ⟨Ext.refl _ _, fun j _ h => by omega⟩ ?_ ?_
  · rintro k wa hk ⟨hea, hno⟩ K hK
    refine for1 hal (fun q w' => Ext No w3 w' ∧ ∀ j (hj : j < am.length), j < q → am[j] ≠ out[k]) ⟨hea, fun j _ h => by omega⟩ ?_ ?_
    · rintro q wb hq ⟨heb, hne⟩ K2 hK2
      have hxb := heb.drew
      obtain ⟨b1, o1, _, _, q1, g1⟩ := (hs.ext hxb fun _ _ h => h).at (k := .i64) (i := k) (by omega) (by omega)
      obtain ⟨b2, o2, _, _, q2, g2⟩ := (ha.ext (hE3.tr hxb) fun _ _ h => h).at (k := .i64) (i := q) (by omega) (by omega)
      have c1 := g1 0 (str out[k]) (by omega) (by have := encS_at out hk; simpa using this)
      have c2 := g2 0 (str am[q]) (by omega) (by have := encS_at am hq; simpa using this)
      rw [Nat.add_zero] at c1 c2
      simp only [q1, q2, vs, l1_eq c1, l1_eq c2, str_eq]
      by_cases heq : out[k] = am[q]
      · rw [show decide (out[k] = am[q]) = true from decide_eq_true heq]
        simp only [vs]
        have := hR' wb.drew out e hR (hE3.tr hxb)
        unfold firstR at this
        rw [if_neg (by simp [h0]), find_first hk hno (heq ▸ List.getElem_mem hq)] at this
        exact this
      · rw [show decide (out[k] = am[q]) = false from decide_eq_false heq]
        simp (disch := omega) only [vs, ar]
        refine hK2 _ ⟨hxb, fun j hj hjq => ?_⟩
        by_cases e : j = q
        · subst e; exact fun h => heq h.symm
        · exact hne j hj (by omega)
    · rintro wb ⟨heb, hne⟩
      simp (disch := omega) only [vs, ar]
      refine hK _ ⟨heb, fun j hj hjk => ?_⟩
      by_cases e : j = k
      · subst e
        intro hin
        obtain ⟨q, hq, hqe⟩ := List.mem_iff_getElem.1 hin
        exact hne q hq hq hqe
      · exact hno j hj (by omega)
  · rintro wa ⟨hea, hno⟩
    have := hR' wa out e hR (hE3.tr hea)
    unfold firstR at this
    rw [if_neg (by simp [h0])] at this
    have hf : out.find? (fun s => decide (s ∈ am)) = none := by
      rw [List.find?_eq_none]
      intro s hs
      obtain ⟨j, hj, rfl⟩ := List.mem_iff_getElem.1 hs
      simpa using hno j hj hj
    rw [hf] at this
    exact this

theorem firsts_walk {w : World} {whole : List Int} (hw : whole.length = 4) {v va : Value} {l : List Us} {am : List Str} (h : UsL w v l) (ha : Sl w 1 va am.length (encS am)) : Ret PR 6 #[vec whole, va, v] w (fun r w' => r = .bool true ∧ Ext No w w') := by
  refine f6_ret ?_
  unfold f6
  refine bx_bk fun w2 he2 hsz2 hbw => ?_
  have hbw : Bk w2 w.heap.size (enc whole) 23 := hbw
  have hvec : ∀ {wz : World}, Ext No w2 wz → ∀ K : Value → Prop, lN 4 (.pointer (some ⟨w.heap.size, 0, none⟩)) wz K = K (vec whole) := fun he K => (hbw.no he).all (by rw [enc_len]; exact hw) K
  refine (awake_ok w2).mono ?_
  rintro _ w6 ⟨rfl, he6⟩
  have hlen : lenO v = some (.int .i64 l.length) := Sl.len h
  have hbig : l.length ≤ 9223372036854775807 := h.2.1
  have hal : am.length ≤ 9223372036854775807 := ha.2.1
  simp only [hlen, ha.len, vs, ar]
  have out : Ret PR 8 #[] w6 (fun r w'' => r = .bool true ∧ Ext No w w'') := by
    refine (awake_ok w6).mono ?_
    rintro _ w9 ⟨rfl, he9⟩
    exact ⟨rfl, (he2.tr he6).tr he9⟩
  by_cases h100 : l.length > 100
  · rw [show decide ((l.length : Int) > 100) = true from decide_eq_true (by omega)]
    simp only [vs]
    exact out
  rw [show decide ((l.length : Int) > 100) = false from decide_eq_false (by omega)]
  simp only [vs]
  by_cases a100 : am.length > 100
  · rw [show decide ((am.length : Int) > 100) = true from decide_eq_true (by omega)]
    simp only [vs]
    exact out
  rw [show decide ((am.length : Int) > 100) = false from decide_eq_false (by omega)]
  simp only [vs]
  rw [hvec he6]
  refine (first_ok hw (h.ext (he2.tr he6) fun _ _ h => h) (by omega) (ha.ext (he2.tr he6) fun _ _ h => h)).mono ?_
  rintro _ w7 ⟨o, e, hR, rfl, he7⟩
  simp only [vs]
  have hx7 : Ext No w2 w7.drew := (he6.tr he7).drew
  refine ⟨fun w' => Ext No w2 w', hx7, ?_⟩
  refine Bk.lNC (b := w.heap.size) (cs := enc whole) (T := 23) (fun w' hw' => hbw.no hw') (o := 0) (vs := enc whole) (by rw [List.drop_zero, List.take_of_length_le (by rw [enc_len]; omega)]) (by rw [enc_len]; exact hw) ?_
  refine (plain_ok (h.ext (he2.tr hx7) fun _ _ h => h) (by omega)).mono ?_
  rintro vq w8 ⟨hU, he8, hn8⟩
  refine ⟨hx7.tr he8, ?_⟩
  refine (firstq_ok hw hU.sl (by omega) (ha.ext (he2.tr (hx7.tr he8)) fun _ _ h => h)).mono ?_
  rintro _ w9 ⟨o2, e2, hR2, rfl, he9⟩
  obtain ⟨rfl, rfl⟩ := hR.uniq hR2
  simp only [vs, str_eq, decide_true, beq_self_eq_true]
  exact ⟨by trivial, he2.tr ((hx7.tr he8).tr he9)⟩

section
variable {H : Type} {en : TypeId × Value → H} {w : World} {base : Nat} {spare : Nat → Bool} {held : Bool}
theorem shareFirsts_said {cs : Array Value} (h0 : Reads en PR w base spare held 23 cs.toList) {va : Value} (h1 : Reads en PR w base spare held 26 [va]) {v : Value} (h2 : Reads en PR w base spare held 24 [v]) :
    Ret PR 6 #[.agg cs, va, v] w (fun r w' => r = .bool true ∧ Ext No w w') := by
  obtain ⟨whole, hw, he⟩ := vec_of h0
  obtain ⟨am, ha⟩ := read_strs h1
  obtain ⟨l, hl⟩ := read_us h2
  rw [he]
  exact firsts_walk hw hl ha
end

end Go.Proofs.Ythhpdcegkbfijaa.Sh
