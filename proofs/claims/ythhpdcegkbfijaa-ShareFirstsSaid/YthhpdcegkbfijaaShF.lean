/-
  share: contract of Order.
-/
import Derived.Test.YthhpdcegkbfijaaShE
namespace Go.Proofs.Ythhpdcegkbfijaa.Sh
open Go.Proofs.Ythhpdcegkbfijaa.V Go.Proofs.Ythhpdcegkbfijaa.T
set_option linter.all false
set_option maxRecDepth 100000
set_option linter.unusedVariables false
set_option linter.unusedSimpArgs false
set_option linter.unnecessarySimpa false

theorem zero37 : (PR.info? 37).map (fun i => i.zero) = some (some (.agg #[.string ⟨#[]⟩, .int .i64 0, .int .i64 0, .int .i64 0, .int .i64 0, .int .i64 0])) := by kernel_rfl
theorem pl60 : placesO PR 60 = some ([(0, 2), (2, 1)].map fun p => (p.1, some p.2)) := by kernel_rfl

theorem pushS {w : World} {v : Value} {l : List Str} {x : Str} (h : Own w 9 1 v l.length (encS l)) (hl : l.length ≤ 1000000) {K : Kv}
    (hK : ∀ v' w', Own w' 9 1 v' (l ++ [x]).length (encS (l ++ [x])) → Ext (inB v) w w' → (∀ m, inB v' m → inB v m ∨ w.heap.size ≤ m) → K v' w') :
    sv PR (Instr.buildSlice 26 1 #[(0, str x)]) w fun v1 w1 => sv PR (Builtin.append_ #[26, 26] 26 #[v, v1]) w1 K := by
  refine bs1 E26 (by omega) rfl fun v1 wd hv1 hed hvk1 hszd => ?_
  refine append_own E26 (h.ext hed fun _ _ h => h) (hv1.sl (by omega)) (fun u hu => by simp [Value.cells, str] at hu; subst hu; rfl) (by omega) (by omega) fun vt we hvt hee hvtB _ => ?_
  have hcc : (str x).cells.toList = encS [x] := rfl
  rw [hcc, ← encS_app] at hvt
  refine hK _ _ (by simpa using hvt) (hed.no.trans hee fun m hm hi => hi) fun m hm => ?_
  rcases hvtB m hm with h1 | h1
  · exact .inl h1
  · exact .inr (by omega)

theorem uC_lN {w : World} {g o : Nat} {u : Us} (h : ∀ j, j < 6 → w.cell? ⟨g, o + j, none⟩ = (uC u)[j]?) (K : Value → Prop) : lN 6 (.pointer (some ⟨g, o, none⟩)) w K = K (.agg (uC u).toArray) := lN_eq (vs := uC u) rfl h K

/-- what the keys say of the usages -/
def KP (whole : List Int) (l : List Us) (S : List Str) (ky : Nat → Core) (k : Nat) : Prop := ∀ i (hi : i < l.length), i < k →
  (∃ vn an, ∃ wn : Nat, l[i].us = natL vn ∧ whole = natL an ∧ l[i].wt = wn ∧ IsShare vn an wn 4 (ky i).n (ky i).d) ∧ ∃ t, ∃ ht : t < S.length, (ky i).tie = ((t : Nat) : Int) ∧ S[t] = l[i].nm

theorem KP.lt {whole : List Int} {l : List Us} {S : List Str} {ky : Nat → Core} (hw : whole.length = 4) (hok : ∀ u, u ∈ l → okU whole u) (hS : S.Pairwise fun a b => a < b) (hn : (l.map (·.nm)).Nodup) (hk : KP whole l S ky l.length) {x y : Nat} (hx : x < l.length) (hy : y < l.length) (h : ltH ky x y) : ltU whole l[x] l[y] := by
  obtain ⟨⟨vx, ax, wx, x1, x2, x3, x4⟩, tx, htx, x5, x6⟩ := hk x hx hx
  obtain ⟨⟨vy, ay, wy, y1, y2, y3, y4⟩, ty, hty, y5, y6⟩ := hk y hy hy
  have ox := hok _ (List.getElem_mem hx)
  have oy := hok _ (List.getElem_mem hy)
  have ux := shareV_uniq hw ox x1 x2 x3 x4
  have uy := shareV_uniq hw oy y1 y2 y3 y4
  have c := cross_iff x4.pos y4.pos (shareV_pos hw ox) (shareV_pos hw oy) ux uy
  rcases (ltH_iff ky x y).1 h with h1 | ⟨h1, h2⟩
  · exact .inl (c.1.1 h1)
  · refine .inr ⟨c.2.1 h1, ?_⟩
    rw [x5, y5] at h2
    rcases h2 with h2 | ⟨h2, h3⟩
    · rw [← x6, ← y6]
      exact (List.pairwise_iff_getElem.1 hS) tx ty htx hty (by omega)
    · exfalso
      have e : tx = ty := by omega
      subst e
      have h4 : l[x].nm = l[y].nm := x6.symm.trans y6
      have := (List.pairwise_iff_getElem.1 hn) x y (by simpa using hx) (by simpa using hy) h3
      simp only [List.getElem_map] at this
      exact this h4

theorem range_map {α : Type} (l : List α) (d : α) : (List.range l.length).map (fun i => l.getD i d) = l := by
  refine List.ext_getElem (by simp) fun i h1 h2 => ?_
  simp [List.getD_eq_getElem?_getD, h2]

set_option maxHeartbeats 4000000 in
theorem order_ok {w : World} {whole : List Int} (hw : whole.length = 4) {v : Value} {l : List Us} (h : UsL w v l) (hl : l.length ≤ 1000) :
    Ret PR 9 #[vec whole, v] w (fun r w' => ∃ out e vo, OrdR whole l out e ∧ r = .tuple #[vo, .int .i64 e] ∧ Own w' 9 1 vo out.length (encS out) ∧ Ext No w w' ∧ ∀ k, inB vo k → w.heap.size ≤ k) := by
  suffices hs : ∀ R : Kv, (∀ w' out e vo, OrdR whole l out e → Own w' 9 1 vo out.length (encS out) → Ext No w w' → (∀ k, inB vo k → w.heap.size ≤ k) → R (.tuple #[vo, .int .i64 e]) w') → f9 (vec whole) v w R from
    f9_ret (hs _ fun w' out e vo h1 h2 h3 h4 => ⟨out, e, vo, h1, rfl, h2, h3, h4⟩)
  intro R hR
  unfold f9
  have nil0 : ∀ k, ¬ inB (.slice none 0 0) k := fun k hk => by simp [inB, Value.ownBlock] at hk
  have bad : ∀ w' e, OrdR whole l [] e → Ext No w w' → R (.tuple #[.slice none 0 0, .int .i64 e]) w' := fun w' e h1 h2 => hR w' [] e _ h1 (Own.nil _ _ _) h2 fun k hk => absurd hk (nil0 k)
  refine bx_bk fun w2 he2 hsz2 hbw => ?_
  have hbw : Bk w2 w.heap.size (enc whole) 23 := hbw
  have hlen : lenO v = some (.int .i64 l.length) := Sl.len h
  simp only [hlen, vs]
  have hvecE : ∀ wz, Bk wz w.heap.size (enc whole) 23 → ∀ K, lN 4 (.pointer (some ⟨w.heap.size, 0, none⟩)) wz K = K (vec whole) := fun wz hb K => hb.all (by rw [enc_len]; exact hw) K
  refine for2 (n := l.length) (by omega) (fun k v' w' => Ext No w2 w' ∧ (∀ j (hj : j < l.length), j < k → okU whole l[j]) ∧ Own w' 9 1 v' ((l.take k).map (·.nm)).length (encS ((l.take k).map (·.nm))) ∧ ∀ m, inB v' m → w2.heap.size ≤ m)
    ⟨Ext.refl _ _, fun j _ hj => by omega, by simpa [encS] using Own.nil _ _ _, fun m hm => absurd hm (nil0 m)⟩ ?_ ?_
  · rintro k v' wa hk ⟨hea, hoks, hoa, hna⟩ K hK
    have hEa := he2.tr hea
    have hua := h.ext hEa fun _ _ h => h
    have hbwa := hbw.no hea
    obtain ⟨g, o, _, hix, hc⟩ := hua.at hk
    simp only [hix, vs, uC_lN hc]
    refine var_st zero37 rfl (by rfl) (by simp [uC, oneB, str]) fun wb heb hszb hbu => ?_
    have hbu : Bk wb wa.heap.size (uC l[k]) 37 := hbu
    have hbwb := hbwa.no heb
    simp only [vs, Nat.zero_add, hbu.lN (o := 2) (n := 4) (vs := enc l[k].us) rfl rfl, hvecE wb hbwb, hbu.l1 (j := 1) (v := .int .i64 l[k].wt) rfl]
    refine (share_ok (v := l[k].us) rfl hw wb).mono ?_
    rintro r wc ⟨hec, hres⟩
    have hbuc := hbu.no hec
    rcases hres with ⟨hne, rfl⟩ | ⟨hz, N, D, vn, an, wn, _, _, _, _, _, _, rfl⟩
    · simp only [vs, rat]
      refine var_st zero48 rfl (by rfl) (by simp [oneB]) fun wd hed hszd hbd => ?_
      simp only [beq_dec]
      rw [show decide (errS l[k].us whole l[k].wt = 0) = false from decide_eq_false hne]
      simp only [vs]
      exact bad _ _ (.err k hk hoks hne) (((hEa.tr heb).tr hec).tr hed)
    · simp only [vs, rat]
      refine var_st zero48 rfl (by rfl) (by simp [oneB]) fun wd hed hszd hbd => ?_
      have hbud := hbuc.no hed
      simp only [beq_self_eq_true, vs, Nat.zero_add, hbud.l1 (j := 0) (v := str l[k].nm) rfl]
      have hx : Ext No wa wd := (heb.tr hec).tr hed
      refine pushS (hoa.ext hx fun _ _ h => h) (by simp; omega) fun v5 w5 ho5 he5 hv5 => ?_
      simp (disch := omega) only [ar, vs]
      have hts : (l.take k).map (·.nm) ++ [l[k].nm] = (l.take (k + 1)).map (·.nm) := by
        rw [List.take_succ_eq_append_getElem hk, List.map_append]; rfl
      rw [hts] at ho5
      refine hK _ _ ⟨(hea.tr hx).trans he5 fun m hm hin => by have := hna m hin; omega, fun j hj hjk => ?_, ho5, fun m hm => ?_⟩
      · by_cases e : j = k
        · subst e; exact hz
        · exact hoks j hj (by omega)
      · rcases hv5 m hm with h7 | h7
        · exact hna m h7
        · have := (hea.tr hx).size; omega
  rintro vN wS ⟨heS, hoks, hoS, hnS⟩
  rw [List.take_length] at hoS
  have hokU : ∀ u, u ∈ l → okU whole u := fun u hu => by
    obtain ⟨j, hj, rfl⟩ := List.mem_iff_getElem.1 hu
    exact hoks j hj hj
  have hnl : (l.map (·.nm)).length = l.length := by simp
  -- sorted, compared with itself without doubles
  refine (SortS_ok hoS (by rw [hnl]; omega)).mono ?_
  rintro _ w3 ⟨rfl, ho3, he3⟩
  have hsl : (sortS (l.map (·.nm))).length = l.length := by rw [(sortS_perm _).length_eq, hnl]
  have hE3 : Ext No w2 w3 := heS.trans he3 fun m hm hin => by have := hnS m hin; omega
  have hs3 : Sl w3 1 vN (sortS (l.map (·.nm))).length (encS (sortS (l.map (·.nm)))) := ho3.sl (by omega)
  refine (CloneS_ok hs3 (by omega)).mono ?_
  rintro vC w4 ⟨ho4, he4, hn4⟩
  refine (CompactS_ok ho4 (by omega)).mono ?_
  rintro vK w5 ⟨hlK, he5⟩
  have hE5' : Ext No w3 w5 := he4.trans he5 fun m hm hin => by have := hn4 m hin; omega
  have hE5 := hE3.tr hE5'
  have ho5 : Own w5 9 1 vN (sortS (l.map (·.nm))).length (encS (sortS (l.map (·.nm)))) := ho3.ext hE5' fun _ _ h => h
  have hs5 : Sl w5 1 vN (sortS (l.map (·.nm))).length (encS (sortS (l.map (·.nm)))) := ho5.sl (by omega)
  simp only [hlK, hs5.len, vs, ar]
  have hcmp := compact_lt (sortS_sorted (l.map (·.nm)))
  by_cases hnd : (l.map (·.nm)).Nodup
  case neg =>
    have : (Lib.compact (sortS (l.map (·.nm)))).length < (sortS (l.map (·.nm))).length := hcmp.2 fun hn => hnd ((sortS_perm _).nodup hn)
    rw [show decide (((Lib.compact (sortS (l.map (·.nm)))).length : Int) < ((sortS (l.map (·.nm))).length : Int)) = true from decide_eq_true (by omega)]
    simp only [vs]
    exact bad _ _ (.dup hokU hnd) (he2.tr hE5)
  have hnot : ¬ (Lib.compact (sortS (l.map (·.nm)))).length < (sortS (l.map (·.nm))).length := fun h1 => hcmp.1 h1 ((sortS_perm _).symm.nodup hnd)
  rw [show decide (((Lib.compact (sortS (l.map (·.nm)))).length : Int) < ((sortS (l.map (·.nm))).length : Int)) = false from decide_eq_false (by omega)]
  simp only [vs]
  have hSs := sortS_strict hnd
  have hSm : ∀ u, u ∈ l → u.nm ∈ sortS (l.map (·.nm)) := fun u hu => (sortS_perm _).mem_iff.2 (List.mem_map_of_mem hu)
  generalize sortS (l.map (·.nm)) = S at *
  refine (new_ok w5).mono ?_
  rintro _ w6 ⟨b, rfl, hH6, he6, hb6⟩
  have hE6 := hE5.tr he6
  have hnSl : ∀ m, inB vN m → m < w5.heap.size := fun m hm => ho5.lt hm
  have hwlt : w.heap.size < w2.heap.size := hbw.lt
  have hs25 := hE5.size
  -- S k: nothing older than the heap is touched
  refine for1 (n := l.length) (by omega) (fun k w' => ∃ ky F, HI w' b ky ((List.range k).reverse) k F ∧ KP whole l S ky k ∧ Ext No w5 w' ∧ ∀ m, F m → w5.heap.size ≤ m)
    ⟨ky0, _, hH6, fun i _ h => by omega, he6, fun m hm => by have hm : m = b := hm; omega⟩ ?_ ?_
  · rintro k wa hk ⟨ky, F, hH, hKP, hea, hFn⟩ K hK
    have hEa : Ext No w wa := (he2.tr hE5).tr hea
    have hua := h.ext hEa fun _ _ h => h
    have hbwa := (hbw.no hE5).no hea
    obtain ⟨g, o, _, hix, hc⟩ := hua.at hk
    simp only [hix, vs, uC_lN hc]
    refine var_st zero37 rfl (by rfl) (by simp [uC, oneB, str]) fun wb heb hszb hbu => ?_
    have hbu : Bk wb wa.heap.size (uC l[k]) 37 := hbu
    have hbwb := hbwa.no heb
    simp only [vs, Nat.zero_add, hbu.lN (o := 2) (n := 4) (vs := enc l[k].us) rfl rfl, hvecE wb hbwb, hbu.l1 (j := 1) (v := .int .i64 l[k].wt) rfl]
    refine (share_ok (v := l[k].us) rfl hw wb).mono ?_
    rintro r wc ⟨hec, hres⟩
    have hbuc := hbu.no hec
    have hku := hokU _ (List.getElem_mem hk)
    rcases hres with ⟨hne, rfl⟩ | ⟨hz, N, D, vn, an, wn, q1, q2, q3, q4, q5, q6, rfl⟩
    · exact absurd hku hne
    simp only [vs, rat]
    refine var_st zero48 rfl (by rfl) (by simp [oneB]) fun wd hed hszd hbd => ?_
    have hbd : Bk wd wc.heap.size [u64 N, u64 D] 48 := hbd
    have hbud := hbuc.no hed
    have hxd : Ext No wa wd := (heb.tr hec).tr hed
    simp only [vs, Nat.zero_add, hbud.l1 (j := 0) (v := str l[k].nm) rfl]
    have hs_d : Sl wd 1 vN S.length (encS S) := (hs5.ext hea fun _ _ h => h).ext hxd fun _ _ h => h
    refine (Search_ok (x := l[k].nm) hs_d hSs (by omega)).mono ?_
    rintro _ we ⟨t, f, rfl, hfound, rfl⟩
    obtain ⟨ht, hSt⟩ := hfound (hSm _ (List.getElem_mem hk))
    simp only [vs, hbd.all (n := 2) rfl]
    refine build_st zero60 pl60 (cells := #[u64 N, u64 D, .int .i64 (t : Int)]) rfl ?_
    have hHd := hH.ext (S := No) hxd fun _ _ h => h
    change Ret PR 23 #[ptr b, kv ⟨N, D, (t : Int), 0, 0, 0⟩] _ _
    refine (ins_ok (k := ⟨N, D, (t : Int), 0, 0, 0⟩) hHd (by omega) q4.pos q5 q6).mono ?_
    rintro _ wf ⟨F', hHf, rfl, hef, hgf⟩
    simp (disch := omega) only [ar, vs]
    have hs5a := hea.size
    have hsad := hxd.size
    refine hK _ ⟨upN ky k ⟨N, D, (t : Int), 0, 0, 0⟩, F', ?_, fun i hi hik => ?_, (hea.tr hxd).trans hef fun m hm hf => by have := hFn m hf; omega, fun m hm => ?_⟩
    · rw [List.range_succ, List.reverse_append]; exact hHf
    · by_cases e : i = k
      · subst e
        rw [upN_same]
        exact ⟨⟨vn, an, wn, q1, q2, q3, q4⟩, t, ht, rfl, hSt⟩
      · rw [upN_other _ _ e]
        exact hKP i hi (by omega)
    · rcases hgf m hm with h7 | h7
      · exact hFn m h7
      · omega
  rintro w7 ⟨ky, F, hH7, hKP, he7, hF7⟩
  have hE7 : Ext No w w7 := (he2.tr hE5).tr he7
  have hs57 := he7.size
  have hs2w := he2.size
  let d0 : Us := ⟨[], 0, 0, 0, 0, 0⟩
  let nm : Nat → Str := fun x => (l.getD x d0).nm
  have hltS : ∀ m, inB vN m → m < w7.heap.size := fun m hm => by have := hnSl m hm; omega
  refine loopG (Γ := List Nat × List Nat) (fun γ y w' => HI w' b ky γ.2 l.length F ∧ (γ.1 ++ γ.2).Perm (List.range l.length) ∧ γ.1.Pairwise (ltH ky) ∧ (∀ x, x ∈ γ.1 → ∀ y, y ∈ γ.2 → ltH ky x y) ∧ Own w' 9 1 y (γ.1.map nm).length (encS (γ.1.map nm)) ∧ Ext No w5 w' ∧ (∀ m, inB y m → w7.heap.size ≤ m) ∧ w7.heap.size ≤ w'.heap.size)
    (fun γ => γ.2.length) ([], (List.range l.length).reverse) ⟨hH7, by simp, List.Pairwise.nil, fun x h => (by cases h), by simpa [encS] using Own.nil _ _ _, he7, fun m hm => absurd hm (nil0 m), Nat.le_refl _⟩ ?_
  rintro ⟨ps, al⟩ vo wq ⟨hH, hperm, hpw, hlt, hoa, hea, hna, hsz7⟩ K hK _
  simp only at hH hperm hpw hlt hoa
  refine (len_ok hH).mono ?_
  rintro _ wa ⟨rfl, rfl⟩
  simp only [ar, vs]
  have hE : Ext No w wa := (he2.tr hE5).tr hea
  have hpl : ps.length + al.length = l.length := by have := hperm.length_eq; simpa using this
  have hmemR : ∀ x, x ∈ ps ++ al → x < l.length := fun x hx => List.mem_range.1 (hperm.mem_iff.1 hx)
  by_cases h0 : al = []
  · subst h0
    simp only [List.length_nil, Int.natCast_zero, show decide ((0 : Int) > 0) = false from rfl, vs]
    rw [List.append_nil] at hperm
    have hp : (ps.map fun x => l.getD x d0).Perm l := by
      have := hperm.map fun x => l.getD x d0
      rwa [range_map] at this
    have hout : ps.map nm = (ps.map fun x => l.getD x d0).map (·.nm) := by simp [nm]
    rw [hout] at hoa
    refine hR wa _ 0 vo (.ok hokU hnd _ hp ?_) hoa hE fun k hk => by have := hna k hk; have := hE7.size; omega
    rw [List.pairwise_map]
    refine hpw.imp_of_mem fun {x y} hx hy hxy => ?_
    have hxl := hmemR x (List.mem_append_left _ hx)
    have hyl := hmemR y (List.mem_append_left _ hy)
    have := hKP.lt hw hokU hSs hnd hxl hyl hxy
    simpa [List.getD_eq_getElem?_getD, hxl, hyl] using this
  · have hpos : 0 < al.length := List.length_pos_iff.2 h0
    rw [show decide ((al.length : Int) > 0) = true from decide_eq_true (by omega)]
    simp only [vs]
    have hFa : ∀ m, F m → m < wa.heap.size := fun m hm => hH.flt hm
    refine (pop_ok hH h0).mono ?_
    rintro _ wb ⟨x, hxA, hmin, hHb, rfl, heb⟩
    have hxl := hmemR x (List.mem_append_right _ hxA)
    obtain ⟨_, t, ht, htie, hSt⟩ := hKP x hxl hxl
    have hEb5 : Ext No w5 wb := hea.trans heb fun m hm hf => by have := hF7 m hf; omega
    simp only [vs, kv]
    refine var_st zero60 rfl (by rfl) (by simp [oneB]) fun wc hec hszc hbc => ?_
    have hbc : Bk wc wb.heap.size [u64 (ky x).n, u64 (ky x).d, .int .i64 (ky x).tie] 60 := hbc
    simp only [vs, Nat.zero_add, hbc.l1 (j := 2) (v := .int .i64 (ky x).tie) rfl]
    rw [htie]
    have hsc : Sl wc 1 vN S.length (encS S) := (hs5.ext hEb5 fun _ _ h => h).ext hec fun _ _ h => h
    rw [hsc.get (by omega) (by omega) (encS_at S ht)]
    have hnx : S[t] = nm x := by rw [hSt]; simp [nm, List.getD_eq_getElem?_getD, hxl]
    rw [hnx]
    have hF7w : ∀ m, F m → m < w7.heap.size := fun m hm => hH7.flt hm
    have hoc : Own wc 9 1 vo (ps.map nm).length (encS (ps.map nm)) := (hoa.ext heb fun m hm hf => by have := hna m hm; have := hF7w m hf; omega).ext hec fun _ _ h => h
    refine pushS hoc (by rw [List.length_map]; omega) fun v5 w8 ho8 he8 hv8 => ?_
    have hmap : ps.map nm ++ [nm x] = (ps ++ [x]).map nm := by simp
    rw [hmap] at ho8
    have hsb := hEb5.size
    have hsc' := hec.size
    have hnod : (ps ++ al).Nodup := hperm.symm.nodup List.nodup_range
    have hers : ∀ y, y ∈ al.erase x ↔ y ≠ x ∧ y ∈ al := fun y => List.Nodup.mem_erase_iff (List.nodup_append.1 hnod).2.1
    refine hK (ps ++ [x], al.erase x) _ _ ⟨?_, ?_, ?_, ?_, ho8, ?_, fun m hm => ?_, by have := heb.size; have := hec.size; have := he8.size; omega⟩ (by simp only; rw [List.length_erase_of_mem hxA]; omega)
    · refine (hHb.ext (S := No) hec fun _ _ h => h).ext he8 fun m hf hin => ?_
      have := hna m hin; have := hF7w m hf; omega
    · simp only [List.append_assoc, List.singleton_append]
      exact ((List.perm_cons_erase hxA).symm.append_left ps).trans hperm
    · rw [List.pairwise_append]
      exact ⟨hpw, by simp, fun a ha b' hb' => by rw [List.mem_singleton] at hb'; subst hb'; exact hlt a ha _ hxA⟩
    · intro a ha y hy
      obtain ⟨hyx, hyA⟩ := (hers y).1 hy
      rcases List.mem_append.1 ha with ha | ha
      · exact hlt a ha y hyA
      · rw [List.mem_singleton] at ha; subst ha; exact hmin y hyA hyx
    · exact (hEb5.tr hec).trans he8 fun m hm hin => by have := hna m hin; omega
    · rcases hv8 m hm with h7 | h7
      · exact hna m h7
      · have := heb.size; omega

end Go.Proofs.Ythhpdcegkbfijaa.Sh
