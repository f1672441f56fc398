/-
  share: the reference's Order.
-/
import Derived.Test.YthhpdcegkbfijaaShO
namespace Go.Proofs.Ythhpdcegkbfijaa.Sh
open Go.Proofs.Ythhpdcegkbfijaa.V Go.Proofs.Ythhpdcegkbfijaa.T
set_option linter.all false
set_option maxRecDepth 100000
set_option linter.unusedVariables false
set_option linter.unusedSimpArgs false
set_option linter.unnecessarySimpa false

theorem share2e_ok {v all : List Int} (hv : v.length = 4) (ha : all.length = 4) {wt : Int} (w : World) :
    Ret PR 26 #[vec v, vec all, .int .i64 wt] w (fun r w' => (∃ N D, r = .tuple #[rat N D, .int .i64 (errS v all wt)]) ∧ Ext No w w') := by
  refine (share2_ok hv ha w).mono ?_
  rintro r w' ⟨he, h⟩
  rcases h with ⟨_, rfl⟩ | ⟨h0, N, D, _, _, _, _, _, _, _, _, _, rfl⟩
  · exact ⟨⟨_, _, rfl⟩, he⟩
  · exact ⟨⟨N, D, by rw [h0]⟩, he⟩

set_option maxHeartbeats 4000000 in
theorem orderR_ok {w : World} {whole : List Int} (hw : whole.length = 4) {v : Value} {l : List Us} (h : UsL w v l) (hl : l.length ≤ 1000) :
    Ret PR 10 #[vec whole, v] w (fun r w' => ∃ out e vo, OrdR whole l out e ∧ r = .tuple #[vo, .int .i64 e] ∧ Own w' 9 1 vo out.length (encS out) ∧ Ext No w w' ∧ ∀ k, inB vo k → w.heap.size ≤ k) := by
  suffices hs : ∀ R : Kv, (∀ w' out e vo, OrdR whole l out e → Own w' 9 1 vo out.length (encS out) → Ext No w w' → (∀ k, inB vo k → w.heap.size ≤ k) → R (.tuple #[vo, .int .i64 e]) w') → f10 (vec whole) v w R from
    f10_ret (hs _ fun w' out e vo h1 h2 h3 h4 => ⟨out, e, vo, h1, rfl, h2, h3, h4⟩)
  intro R hR
  unfold f10
  have nil0 : ∀ k, ¬ inB (.slice none 0 0) k := fun k hk => by simp [inB, Value.ownBlock] at hk
  have bad : ∀ w' e, OrdR whole l [] e → Ext No w w' → R (.tuple #[.slice none 0 0, .int .i64 e]) w' := fun w' e h1 h2 => hR w' [] e _ h1 (Own.nil _ _ _) h2 fun k hk => absurd hk (nil0 k)
  refine bx_bk fun w2 he2 hsz2 hbw => ?_
  have hbw : Bk w2 w.heap.size (enc whole) 23 := hbw
  have hlen : lenO v = some (.int .i64 l.length) := Sl.len h
  simp only [hlen, vs]
  have hvecE : ∀ {wz}, Ext No w2 wz → ∀ K : Value → Prop, lN 4 (.pointer (some ⟨w.heap.size, 0, none⟩)) wz K = K (vec whole) := fun he K => (hbw.no he).all (by rw [enc_len]; exact hw) K
  have at' : ∀ {k} (hk : k < l.length), ∃ g o, ixsO 6 v (.int .i64 (k : Int)) = some (.pointer (some ⟨g, o, none⟩)) ∧ ∀ wz, Ext No w2 wz → ∀ j, j < 6 → wz.cell? ⟨g, o + j, none⟩ = (uC l[k])[j]? := fun {k} hk => by
    obtain ⟨g, o, _, hix, hc⟩ := (h.ext he2 fun _ _ h => h).at hk
    refine ⟨g, o, hix, fun wz he j hj => ?_⟩
    have hg := List.getElem?_eq_getElem (show j < (uC l[k]).length from hj)
    rw [hg]
    exact he.cell ((hc j hj).trans hg) fun h => h
  refine for1 (n := l.length) (by omega) (fun k w' => Ext No w2 w' ∧ ∀ j (hj : j < l.length), j < k → okU whole l[j]) ⟨Ext.refl _ _, fun j _ hj => by omega⟩ ?_ ?_
  · rintro k wa hk ⟨hea, hoks⟩ K hK K2 hK2
    obtain ⟨g, o, hix, hc⟩ := at' hk
    have mid : ∀ wz, Ext No w2 wz → K2 (.int .i64 (errS l[k].us whole l[k].wt)) wz := fun wz hez => by
      refine hK2 _ _ fun _ => ?_
      simp only [vs, beq_dec]
      by_cases h0 : errS l[k].us whole l[k].wt = 0
      · rw [show decide (errS l[k].us whole l[k].wt = 0) = true from decide_eq_true h0]
        simp (disch := omega) only [ar, vs]
        refine hK _ ⟨hez, fun j hj hjk => ?_⟩
        by_cases e : j = k
        · subst e; exact h0
        · exact hoks j hj (by omega)
      · rw [show decide (errS l[k].us whole l[k].wt = 0) = false from decide_eq_false h0]
        simp only [vs]
        exact bad _ _ (.err k hk hoks h0) (he2.tr hez)
    have hdr : Ext No w2 wa.drew := hea.drew
    refine ⟨fun w' => Ext No w2 w', hdr, ?_⟩
    simp only [hix, vs]
    refine lNC_of (vs := enc l[k].us) rfl (fun w' hw' j x hj => ?_) ?_
    · have hj4 : j < 4 := by have := (List.getElem?_eq_some_iff.1 hj).1; simpa [enc, Us.us] using this
      rw [Nat.add_assoc, hc w' hw' (2 + j) (by omega), Nat.add_comm]
      exact hj
    refine Bk.lNC (b := w.heap.size) (cs := enc whole) (T := 23) (fun w' hw' => hbw.no hw') (o := 0) (vs := enc whole) (by rw [List.drop_zero, List.take_of_length_le (by rw [enc_len]; omega)]) (by rw [enc_len]; exact hw) ?_
    refine l1C_of (fun w' hw' => hc w' hw' 1 (by omega)) ?_
    constructor
    · refine (share2e_ok (v := l[k].us) rfl hw wa.drew).mono ?_
      rintro _ wb ⟨⟨N, D, rfl⟩, heb⟩
      simp only [vs]
      refine var_z zero64 fun wc hec hszc hbc => ?_
      have hxc := (hdr.tr heb).tr hec
      refine ⟨hxc, ?_⟩
      refine hbc.stN rfl (by simp [Value.cells]) (by simp [oneB]) fun wd hbd hed _ => ?_
      exact mid wd (hxc.trans hed fun m hm e => by have := (hdr.tr heb).size; omega)
    · refine var_z zero64 fun wc hec hszc hbc => ?_
      have hxc := hdr.tr hec
      refine ⟨hxc, (share2e_ok (v := l[k].us) rfl hw wc).mono ?_⟩
      rintro _ wb ⟨⟨N, D, rfl⟩, heb⟩
      simp only [vs]
      refine (hbc.no heb).stN rfl (by simp [Value.cells]) (by simp [oneB]) fun wd hbd hed _ => ?_
      exact mid wd ((hxc.tr heb).trans hed fun m hm e => by have := hdr.size; omega)
  rintro w3 ⟨he3, hoks⟩
  have hokU : ∀ u, u ∈ l → okU whole u := fun u hu => by
    obtain ⟨j, hj, rfl⟩ := List.mem_iff_getElem.1 hu
    exact hoks j hj hj
  have hsz23 := he3.size
  refine for2 (n := l.length) (by omega) (fun i vs w' => ∃ p : List Us, UsO w' vs p ∧ p.Perm (l.take i) ∧ p.Pairwise (ltU whole) ∧ ((l.take i).map (·.nm)).Nodup ∧ Ext No w2 w' ∧ ∀ m, inB vs m → w2.heap.size ≤ m)
    ⟨[], Own.nil _ _ _, by simp, List.Pairwise.nil, by simp, he3, fun m hm => absurd hm (nil0 m)⟩ ?_ ?_
  · rintro i vp w4 hi ⟨p, hU, hp, hpw, hnd, he4, hn4⟩ K hK
    obtain ⟨g, o, hix, hc⟩ := at' hi
    have hpl : p.length = i := by rw [hp.length_eq, List.length_take]; omega
    refine for1 (n := i) (by omega) (fun k w' => Ext No w4 w' ∧ ∀ j (hj : j < l.length), j < k → l[j].nm ≠ l[i].nm) ⟨Ext.refl _ _, fun j _ hj => by omega⟩ ?_ ?_
    · rintro k w5 hk ⟨he5, hne⟩ K5 hK5
      have hkl : k < l.length := by omega
      obtain ⟨g2, o2, hix2, hc2⟩ := at' hkl
      have hx5 : Ext No w2 w5.drew := (he4.tr he5).drew
      have c1 := hc2 _ hx5 0 (by omega)
      have c2 := hc _ hx5 0 (by omega)
      rw [Nat.add_zero] at c1 c2
      simp only [hix, hix2, vs, Nat.add_zero, l1_eq (show w5.drew.cell? ⟨g2, o2, none⟩ = some (str l[k].nm) from c1), l1_eq (show w5.drew.cell? ⟨g, o, none⟩ = some (str l[i].nm) from c2), str_eq]
      by_cases heq : l[k].nm = l[i].nm
      · rw [show decide (l[k].nm = l[i].nm) = true from decide_eq_true heq]
        simp only [vs]
        refine bad _ _ (.dup hokU fun hnd' => ?_) (he2.tr hx5)
        have := (List.pairwise_iff_getElem.1 hnd') k i (by simpa using hkl) (by simpa using hi) hk
        simp only [List.getElem_map] at this
        exact this heq
      · rw [show decide (l[k].nm = l[i].nm) = false from decide_eq_false heq]
        simp (disch := omega) only [vs, ar]
        refine hK5 _ ⟨he5.drew, fun j hj hjk => ?_⟩
        by_cases e : j = k
        · subst e; exact heq
        · exact hne j hj (by omega)
    · rintro w5 ⟨he5, hne⟩
      have hx5 : Ext No w2 w5 := he4.tr he5
      simp only [hix, vs, uC_lN (hc _ hx5)]
      refine pushU l[i] (hU.ext he5 fun _ _ h => h) (by omega) fun vn w6 hU6 he6 hv6 => ?_
      have hnn : ∀ m, inB vn m → w2.heap.size ≤ m := fun m hm => by
        rcases hv6 m hm with h1 | h1
        · exact hn4 m h1
        · have := hx5.size; omega
      have hx6 : Ext No w2 w6 := hx5.trans he6 fun m hm hin => by have := hn4 m hin; omega
      have hmem : ∀ y, y ∈ p → okU whole y ∧ y.nm ≠ l[i].nm := fun y hy => by
        obtain ⟨j, hj, rfl⟩ := List.mem_iff_getElem.1 (hp.mem_iff.1 hy)
        rw [List.length_take] at hj
        rw [List.getElem_take]
        exact ⟨hokU _ (List.getElem_mem _), hne j (by omega) (by omega)⟩
      have hoki := hokU _ (List.getElem_mem hi)
      refine loopG (Γ := Nat × Us) (fun γ x w' => x = .int .i64 (γ.1 : Int) ∧ γ.1 ≤ i ∧ UsO w' vn (p.take γ.1 ++ γ.2 :: p.drop γ.1) ∧ (∀ y, y ∈ p.drop γ.1 → ltU whole l[i] y) ∧ Ext No w2 w') (fun γ => γ.1) (i, l[i])
        ⟨rfl, Nat.le_refl _, by rw [List.take_of_length_le (by omega), List.drop_of_length_le (by omega)]; exact hU6, fun y (hy : y ∈ p.drop i) => by rw [List.drop_of_length_le (by omega)] at hy; exact (by cases hy), hx6⟩ ?_
      rintro ⟨k, z⟩ _ w7 ⟨rfl, hk, hU7, hlt, hx7⟩ K7 hK7 _
      simp only at hk hU7 hlt
      have hx7 : Ext No w2 w7.drew := hx7.drew
      have hU7 : UsO w7.drew vn (p.take k ++ z :: p.drop k) := hU7.ext (Ext.refl No w7).drew fun _ _ h => h
      have hql : (p.take k ++ z :: p.drop k).length = i + 1 := by simp; omega
      have put : (∀ y, y ∈ p.take k → ltU whole y l[i]) → ∀ w8, UsO w8 vn (p.take k ++ z :: p.drop k) → Ext No w2 w8 →
          (lN 6 (.pointer (some ⟨g, o, none⟩)) w8 fun v7214 => pO (ixsO 6 vn (.int .i64 (k : Int))) fun v7215 => stW 6 v7215 v7214 w8 fun w7216 => K (vn, .int .i64 ((i : Int) + 1)) w7216) := fun hgt w8 hU8 hx8 => by
        obtain ⟨g8, hg8, hix8, hput⟩ := hU8.put (i := k) (by omega) l[i]
        simp only [vs, uC_lN (hc _ hx8), hix8]
        refine hput fun w9 hU9 he9 _ => ?_
        have hset : (p.take k ++ z :: p.drop k).set k l[i] = p.take k ++ l[i] :: p.drop k := by
          rw [List.set_append_right _ _ (by simp; omega)]
          simp [show k - min k p.length = 0 by omega]
        rw [hset] at hU9
        refine hK _ _ ⟨_, hU9, ?_, ?_, ?_, hx8.trans he9 fun m hm hin => by have := hnn m hin; omega, hnn⟩
        · rw [List.take_succ_eq_append_getElem hi]
          refine List.perm_middle.trans ?_
          rw [List.take_append_drop]
          exact (List.Perm.cons _ hp).trans (List.perm_append_singleton _ _).symm
        · have hpw2 := hpw
          rw [← List.take_append_drop k p, List.pairwise_append] at hpw2
          rw [List.pairwise_append, List.pairwise_cons]
          refine ⟨hpw2.1, ⟨hlt, hpw2.2.1⟩, fun a ha b hb => ?_⟩
          rcases List.mem_cons.1 hb with rfl | hb
          · exact hgt a ha
          · exact hpw2.2.2 a ha b hb
        · rw [List.take_succ_eq_append_getElem hi, List.map_append, List.nodup_append]
          refine ⟨hnd, by simp, fun a ha b hb => ?_⟩
          simp only [List.map_cons, List.map_nil, List.mem_singleton] at hb
          subst hb
          obtain ⟨y, hy, rfl⟩ := List.mem_map.1 ha
          exact (hmem y (hp.mem_iff.2 hy)).2
      simp only [ar, vs]
      match k, hk, hU7, hlt, hql, put, hK7 with
      | 0, hk, hU7, hlt, hql, put, hK7 =>
        simp (disch := omega) only [show decide (((0 : Nat) : Int) > 0) = false from rfl, vs, ar]
        exact put (fun y hy => by simp at hy) _ hU7 hx7
      | k + 1, hk, hU7, hlt, hql, put, hK7 =>
        have hk1 : ((k + 1 : Nat) : Int) - 1 = (k : Int) := by omega
        have hkp : k < p.length := by omega
        rw [show decide (((k + 1 : Nat) : Int) > 0) = true from decide_eq_true (by omega)]
        simp (disch := omega) only [ar, vs]
        rw [hk1]
        obtain ⟨g8, o8, _, hix8, hc8⟩ := hU7.sl.at (i := k) (by omega)
        have hqk : (p.take (k + 1) ++ z :: p.drop (k + 1))[k]'(by omega) = p[k] := by
          rw [List.getElem_append_left (by simp; omega), List.getElem_take]
        rw [hqk] at hc8
        simp only [hix, hix8, vs, uC_lN (hc _ hx7), uC_lN hc8, hvecE hx7]
        refine (before_ok hw hoki (hmem _ (List.getElem_mem hkp)).1 _).mono ?_
        rintro _ w8 ⟨c, rfl, hcl, he8⟩
        have hx8 := hx7.tr he8
        have hU8 := hU7.ext he8 fun _ _ h => h
        cases c with
        | false =>
          simp (disch := omega) only [vs, ar]
          refine put (fun y hy => ?_) _ hU8 hx8
          have hni : ¬ ltU whole l[i] p[k] := fun h => by have := hcl.2 h; cases this
          have hki : ltU whole p[k] l[i] := (ltU_tot (hmem _ (List.getElem_mem hkp)).2).resolve_right hni
          rw [List.take_succ_eq_append_getElem hkp] at hy
          rcases List.mem_append.1 hy with hy | hy
          · obtain ⟨j, hj, rfl⟩ := List.mem_iff_getElem.1 hy
            rw [List.length_take] at hj
            rw [List.getElem_take]
            have := (List.pairwise_iff_getElem.1 hpw) j k (by omega) hkp (by omega)
            exact ltU_trans (shareV_pos hw (hmem _ (List.getElem_mem _)).1) (shareV_pos hw (hmem _ (List.getElem_mem hkp)).1) (shareV_pos hw hoki) this hki
          · rw [List.mem_singleton] at hy; subst hy; exact hki
        | true =>
          have hik := hcl.1 rfl
          simp (disch := omega) only [vs, ar]
          obtain ⟨g9, o9, _, hix9, hc9⟩ := hU8.sl.at (i := k) (by omega)
          rw [hqk] at hc9
          obtain ⟨g10, hg10, hix10, hput⟩ := hU8.put (i := k + 1) (by omega) p[k]
          rw [hix8] at hix9
          simp only [Option.some.injEq, Value.pointer.injEq, Addr.mk.injEq, and_true] at hix9
          obtain ⟨e8, e9⟩ := hix9
          subst e8 e9
          simp only [hk1, vs, uC_lN hc9, hix10]
          refine hput fun w9 hU9 he9 _ => ?_
          refine hK7 (k, p[k]) _ _ ⟨rfl, by show k ≤ i; omega, ?_, fun y hy => ?_, hx8.trans he9 fun m hm hin => by have := hnn m hin; omega⟩ (Nat.lt_succ_self k)
          · have hset : (p.take (k + 1) ++ z :: p.drop (k + 1)).set (k + 1) p[k] = p.take k ++ p[k] :: p.drop k := by
              have e : k + 1 - (p.take (k + 1)).length = 0 := by rw [List.length_take]; omega
              rw [List.set_append_right _ _ (by rw [List.length_take]; omega), e, List.set_cons_zero, List.take_succ_eq_append_getElem hkp, List.drop_eq_getElem_cons hkp, List.append_assoc]
              rfl
            rw [hset] at hU9
            exact hU9
          · rw [List.drop_eq_getElem_cons hkp] at hy
            rcases List.mem_cons.1 hy with rfl | hy
            · exact hik
            · exact hlt y hy
  · rintro vp w4 ⟨p, hU, hp, hpw, hnd, he4, hn4⟩
    rw [List.take_length] at hp hnd
    have hpl : p.length = l.length := hp.length_eq
    have hlen2 : lenO vp = some (.int .i64 p.length) := Sl.len hU.sl
    simp only [hlen2, vs]
    refine for2 (n := p.length) (by omega) (fun k vo w' => Own w' 9 1 vo ((p.take k).map (·.nm)).length (encS ((p.take k).map (·.nm))) ∧ Ext No w4 w' ∧ ∀ m, inB vo m → w4.heap.size ≤ m)
      ⟨by simpa [encS] using Own.nil _ _ _, Ext.refl _ _, fun m hm => absurd hm (nil0 m)⟩ ?_ ?_
    · rintro k vo w5 hk ⟨ho, he5, hno⟩ K hK
      obtain ⟨g, o, _, hix, hc⟩ := (hU.sl.ext he5 fun _ _ h => h).at hk
      have c0 := hc 0 (by omega)
      rw [Nat.add_zero] at c0
      simp only [hix, vs, Nat.add_zero, l1_eq (show w5.cell? ⟨g, o, none⟩ = some (str p[k].nm) from c0)]
      refine pushS ho (by simp; omega) fun v6 w6 ho6 he6 hv6 => ?_
      simp (disch := omega) only [ar, vs]
      have hts : (p.take k).map (·.nm) ++ [p[k].nm] = (p.take (k + 1)).map (·.nm) := by
        rw [List.take_succ_eq_append_getElem hk, List.map_append]; rfl
      rw [hts] at ho6
      refine hK _ _ ⟨ho6, he5.trans he6 fun m hm hin => by have := hno m hin; omega, fun m hm => ?_⟩
      rcases hv6 m hm with h7 | h7
      · exact hno m h7
      · have := he5.size; omega
    · rintro vo w5 ⟨ho, he5, hno⟩
      rw [List.take_length] at ho
      refine hR w5 _ 0 vo (.ok hokU hnd p hp hpw) ho (he2.tr (he4.tr he5)) fun k hk => ?_
      have := hno k hk; have := he4.size; have := he2.size; omega

end Go.Proofs.Ythhpdcegkbfijaa.Sh
