/-
  The Fibonacci heap: contract of Pop.
-/
import Derived.Test.YthhpdcegkbfijaaFibT
namespace Go.Proofs.Ythhpdcegkbfijaa.Sh
open Go.Proofs.Ythhpdcegkbfijaa.V Go.Proofs.Ythhpdcegkbfijaa.T Go.Proofs.Ythhpdcegkbfijaa.Fib
set_option linter.all false
set_option maxRecDepth 100000
set_option linter.unusedVariables false
set_option linter.unusedSimpArgs false
set_option linter.unnecessarySimpa false

theorem encN_get (L : List Nat) {k : Nat} (hk : k < L.length) : (enc (natL L))[((k : Int)).toNat]? = some (.int .i64 (L[k] : Int)) := by
  have : ((k : Int)).toNat = k := by omega
  rw [this]
  unfold enc natL
  rw [List.getElem?_map, List.getElem?_map, List.getElem?_eq_getElem hk]; rfl
theorem natL_take (l : List Nat) {m : Nat} (h : m < l.length) : natL (l.take m) ++ [(l[m] : Int)] = natL (l.take (m + 1)) := by
  rw [List.take_succ_eq_append_getElem h]; unfold natL; rw [List.map_append]; rfl
theorem ent3 {w : World} {sv : Value} {g i : Nat} {c k : Core} (a : At w sv g i c) (hk : keyIs c k) (K : Value → Prop) : lN 3 (.pointer (some ⟨g, i * 10, none⟩)) w K = K (kv k) := by
  obtain ⟨e1, e2, e3⟩ := hk
  refine lN_eq (vs := [u64 k.n, u64 k.d, .int .i64 k.tie]) rfl (fun j hj => ?_) K
  have c1 := a.n; have c2 := a.d; have c3 := a.tie
  rw [e1] at c1; rw [e2] at c2; rw [e3] at c3
  match j, hj with
  | 0, _ => exact c1
  | 1, _ => exact c2
  | 2, _ => exact c3

theorem min_ok {w : World} {b : Nat} {sv : Value} {least : Int} {nn len : Nat} {C ky : Nat → Core} {x : Nat} (h : HM w b sv least (nn : Int) len C) (hn : 0 < nn) (hl : least = ((x + 1 : Nat) : Int)) (hx : x < len) (hk : keyIs (C x) (ky x)) :
    Ret PR 38 #[ptr b] w (fun r w' => r = .tuple #[.int .i64 (x : Int), kv (ky x), .int .i64 0] ∧ Ext No w w') := by
  subst hl
  refine f38_ret ?_
  unfold f38
  refine var_z zero60 fun w2 he2 hsz2 hb2 => ?_
  have h2 := h.no he2
  have hlen : Ret PR 24 #[ptr b] w2 (fun r w' => r = .int .i64 (nn : Int) ∧ w' = w2) := by
    refine f24_ret ?_
    unfold f24 ptr
    simp only [vs, Nat.zero_add, h2.cnt]
    exact ⟨by trivial, by trivial⟩
  refine hlen.mono ?_
  rintro _ w3 ⟨rfl, rfl⟩
  have hfew := h.few
  simp only [vs, beq_dec]
  rw [show decide ((nn : Int) = 0) = false from decide_eq_false (by omega)]
  simp only [ptr, vs, Nat.zero_add, h2.lst]
  simp (disch := omega) only [ar, vs, Nat.zero_add]
  rw [show ((x + 1 : Nat) : Int) - 1 = (x : Int) by omega]
  have h2d := h2.no (Ext.refl No w3).drew
  obtain ⟨g, a⟩ := h2d.at hx
  simp only [h2d.ent, a.ix, vs, Nat.add_zero, ent3 a hk]
  have hbd := hb2.no (Ext.refl No w3).drew
  refine hbd.stN (n := 3) rfl (by simp [Value.cells]) (by simp [oneB]) fun w5 hb5 he5 hsz5 => ?_
  rw [ovr_all _ _ (by simp [Value.cells])] at hb5
  rw [hb5.all (n := 3) rfl]
  exact ⟨rfl, (he2.drew).trans he5 fun m hm e => by omega⟩

set_option maxHeartbeats 2000000 in
theorem pop_ok {F : Nat → Prop} {w : World} {b len : Nat} {ky : Nat → Core} {al : List Nat} (h : HI w b ky al len F) (hne : al ≠ []) :
    Ret PR 25 #[ptr b] w (fun r w' => ∃ x, x ∈ al ∧ (∀ y, y ∈ al → y ≠ x → ltH ky x y) ∧ HI w' b ky (al.erase x) len F ∧ r = .tuple #[.int .i64 (x : Int), kv (ky x), .int .i64 0] ∧ Ext F w w') := by
  refine f25_ret ?_
  unfold f25
  obtain ⟨sv, least, C, R, kids, h1, h2, h3, h4, h5, h6⟩ := h.ex
  have hRne : R ≠ [] := fun e => by
    have := h3.sum
    rw [e, Fib.W_nil] at this
    exact hne (List.eq_nil_of_length_eq_zero this.symm)
  rcases h2 with ⟨e, _⟩ | ⟨x, l, rfl, hleast, hring, hmin⟩
  · exact absurd e hRne
  have hxR : x ∈ x :: l := by simp
  have hxA := h3.rA x hxR
  have hxl := h.lt x hxA
  have hal := h.allen
  have hfew := h1.few
  have hmin2 := h3.least (ltH_trans h.k.pos) (ltH_irrefl ky) (fun a b' _ _ hab => ltH_tot ky hab) hxR hmin
  have hpos : 0 < al.length := List.length_pos_of_mem hxA
  have hbl := h1.lt
  have hsl : ∀ m, inB sv m → m < w.heap.size := fun m hm => h1.lt' hm
  have ftl : ∀ m, Ft b sv m → m < w.heap.size := fun m hm => by
    rcases hm with rfl | hm
    · exact hbl
    · exact hsl m hm
  refine var_z zero60 fun w2 he2 hsz2 hb1 => ?_
  have m2 := h1.no he2
  refine (min_ok m2 hpos hleast hxl (h5 x hxA)).mono ?_
  rintro _ w5 ⟨rfl, he5⟩
  have hE5 := he2.tr he5
  simp only [vs]
  refine var_st zero60 rfl (by rfl) (by simp [oneB]) fun w11 he11 hsz11 hb9 => ?_
  have hE11 := hE5.tr he11
  have hb9 : Bk w11 w5.heap.size [u64 (ky x).n, u64 (ky x).d, .int .i64 (ky x).tie] 60 := hb9
  have hb1 : Bk w11 w.heap.size _ 60 := (hb1.no he5).no he11
  have hs5 := hE5.size
  simp only [beq_self_eq_true, vs]
  have m11 := h1.no hE11
  refine (ring_ok m11 hring h3.rN fun y hy => h.lt _ (h3.rA _ hy)).mono ?_
  rintro vr w23 ⟨hor, he23, hnr⟩
  have hE23 := hE11.tr he23
  have hb9 := hb9.no he23
  have hb1 := hb1.no he23
  have hnd := List.nodup_cons.1 h3.rN
  have hRl : (x :: l).length ≤ al.length := List.Nodup.length_le_of_subset h3.rN h3.rA
  have hsr : Sl w23 1 vr (x :: l).length (enc (natL (x :: l))) := hor.sl (by omega)
  have hs11 := hE11.size
  have hs23 := hE23.size
  have hb9l : w5.heap.size < w23.heap.size := hb9.lt
  have hb1l : w.heap.size < w23.heap.size := hb1.lt
  simp only [hsr.len, vs]
  refine for2 (n := (x :: l).length) (by omega) (fun k v' w' => Ext No w23 w' ∧ Own w' 3 1 v' (natL (l.take (k - 1))).length (enc (natL (l.take (k - 1)))) ∧ ∀ m, inB v' m → w23.heap.size ≤ m)
    ⟨Ext.refl _ _, by simpa [natL, enc] using Own.nil _ _ _, fun m hm => by simp [inB, Value.ownBlock] at hm⟩ ?_ ?_
  · rintro k v' wa hk ⟨hea, hoa, hna⟩ K hK K2 hK2
    have hsra := hsr.ext hea fun _ _ h => h
    have hgk := encN_get (x :: l) hk
    simp only
    rw [hsra.get (by omega) (by omega) hgk]
    simp only [vs, beq_dec]
    by_cases hk0 : k = 0
    · subst hk0
      simp only [List.getElem_cons_zero, decide_true, vs]
      refine hK2 _ _ fun _ => ?_
      simp (disch := omega) only [ar, vs]
      exact hK _ _ ⟨hea, by simpa using hoa, hna⟩
    · obtain ⟨m, rfl⟩ : ∃ m, k = m + 1 := ⟨k - 1, by omega⟩
      have hml : m < l.length := by simpa using hk
      have hne2 : l[m] ≠ x := fun e => hnd.1 (e ▸ List.getElem_mem hml)
      simp only [List.getElem_cons_succ]
      rw [show decide ((l[m] : Int) = (x : Int)) = false from decide_eq_false (by omega)]
      simp only [vs]
      simp only [Nat.add_sub_cancel] at hoa
      refine push84 hoa (by rw [natL_len]; simp at hRl ⊢; omega) fun v2 w2' ho2 he2' hv2 => ?_
      refine hK2 _ _ fun _ => ?_
      simp (disch := omega) only [ar, vs]
      rw [natL_take l hml] at ho2
      refine hK _ _ ⟨hea.trans he2' fun q hq hin => by have := hna q hin; omega, ho2, fun q hq => ?_⟩
      rcases hv2 q hq with h7 | h7
      · exact hna q h7
      · have := hea.size; omega
  · rintro v' wa ⟨hea, hoa, hna⟩
    have hta : l.take ((x :: l).length - 1) = l := by simp
    rw [hta] at hoa
    have hE := hE23.tr hea
    have ma := h1.no hE
    have hb9 := hb9.no hea
    have hb1 := hb1.no hea
    have hsa := hea.size
    intro K hK
    -- what is done with the roots that are left and the children
    have rest : ∀ vz wz, Own wz 3 1 vz (natL (l ++ kids x)).length (enc (natL (l ++ kids x))) → Ext (fun m => w23.heap.size ≤ m) wa wz → (∀ m, inB vz m → w23.heap.size ≤ m) → K vz wz := fun vz wz hoz hez hnz => by
      refine hK _ _ fun _ => ?_
      have mz := ma.ext hez (by omega) fun m hm e => by have := hsl m hm; omega
      have hEz : Ext No w wz := hE.trans hez fun m hm e => by omega
      simp only [ptr, vs, Nat.zero_add, mz.ent]
      refine build_st zero82 pl82 (cells := (eC ⟨0, 0, 0, 0, 0, 0, 0, 0, false, false⟩).toArray) rfl ?_
      obtain ⟨g, a⟩ := mz.at hxl
      simp only [a.ix, vs]
      refine mz.wAll hxl a.own _ fun wy my hey hszy => ?_
      have hEy : Ext (Ft b sv) w wy := (hEz.no).tr hey.row
      simp only [vs, Nat.zero_add, my.cnt]
      simp (disch := omega) only [ar, vs, Nat.zero_add]
      refine my.setCnt _ fun wx mx hex hszx => ?_
      have hEx := hEy.tr hex.one
      have hpop := h3.pop hxR
      rw [show (x :: l).erase x = l by simp] at hpop
      have hC : ∀ z, z ≠ x → upN C x (core ⟨0, 0, 0, 0, 0, 0, 0, 0, false, false⟩) z = C z := fun z hz => upN_other _ _ hz
      have hemem : ∀ z, z ∈ al.erase x ↔ z ≠ x ∧ z ∈ al := fun z => List.Nodup.mem_erase_iff h3.alN
      have hlks : LKS (upN C x (core ⟨0, 0, 0, 0, 0, 0, 0, 0, false, false⟩)) (al.erase x) kids := fun z hz => by
        obtain ⟨hzx, hzA⟩ := (hemem z).1 hz
        rw [hC z hzx]
        have h40 := h4 z hzA
        refine ⟨h40.1, h40.2.1, fun c l hk => ⟨(h40.2.2 c l hk).1, Ring.congr (rt := fun i => (C i).rt) (fun y hy => ?_) (h40.2.2 c l hk).2⟩⟩
        show (upN C x (core ⟨0, 0, 0, 0, 0, 0, 0, 0, false, false⟩) y).rt = (C y).rt
        rw [hC y fun e => h3.rk z hzA y hy (e ▸ hxR)]
      have hsz : Sl wx 1 vz (natL (l ++ kids x)).length (enc (natL (l ++ kids x))) := by
        have hle := hoz.le
        have e1 : ∀ m, inB vz m → ¬ inB sv m := fun m hm hin => by have := hnz m hm; have := hsl m hin; omega
        have e2 : ∀ m, inB vz m → ¬ (m = b) := fun m hm hin => by have := hnz m hm; omega
        exact ((hoz.sl hle).ext hey e1).ext hex e2
      have hne1 : ((al.length : Int) - 1) = ((al.erase x).length : Int) := by
        rw [List.length_erase_of_mem hxA]; omega
      rw [hne1] at mx
      change Ret PR 40 #[ptr b, vz] wx _
      refine (gath_ok mx h.k hpop hlks (fun z hz => ?_) (fun z hz => h.lt z ((hemem z).1 hz).2) (by rw [List.length_erase_of_mem hxA]; omega) hsz fun m hm hft => ?_).mono ?_
      · obtain ⟨hzx, hzA⟩ := (hemem z).1 hz
        rw [hC z hzx]; exact h5 z hzA
      · have := hnz m hm; have := ftl m hft; omega
      rintro _ wu ⟨C', least', R', kids', mu, hRu, hfu, hlu, hku, heu⟩
      have hEu := hEx.tr heu
      have hb9u : Bk wu w5.heap.size _ 60 := (((hb9.ext hez (by omega)).ext hey fun e => by have := hsl _ e; omega).ext hex (by omega)).ext heu fun e => by have := ftl _ e; omega
      have hb1u : Bk wu w.heap.size _ 60 := (((hb1.ext hez (by omega)).ext hey fun e => by have := hsl _ e; omega).ext hex (by omega)).ext heu fun e => by have := ftl _ e; omega
      have hb9d := hb9u.no (Ext.refl No wu).drew
      have hb1d := hb1u.no (Ext.refl No wu).drew
      rw [hb9d.all (n := 3) rfl]
      refine hb1d.stN (n := 3) rfl (by simp [Value.cells]) (by simp [oneB]) fun wt hbt het hszt => ?_
      rw [ovr_all _ _ (by simp [Value.cells])] at hbt
      rw [hbt.all (n := 3) rfl]
      have hEt : Ext F w wt := ((hEu.drew).mono (S' := F) fun m _ hm => (h6 m).2 hm).trans het fun m hm e => by omega
      refine ⟨x, hxA, hmin2, ⟨h.k, fun z hz => h.lt z ((hemem z).1 hz).2, sv, least', C', R', kids', ?_, hRu, hfu, hlu, hku, h6⟩, rfl, hEt⟩
      exact (mu.no (Ext.refl No wu).drew).ext het (fun e => by omega) fun m hm e => by have := hsl m hm; omega
    obtain ⟨g, a⟩ := ma.at hxl
    have hx4 := h4 x hxA
    simp only [ptr, vs, Nat.zero_add, ma.ent, a.ix, l1_eq a.ch, beq_dec]
    cases hkx : kids x with
    | nil =>
      rw [hx4.2.1 hkx]
      simp only [decide_true, vs]
      refine rest _ _ ?_ (Ext.refl _ _) hna
      rw [hkx, List.append_nil]; exact hoa
    | cons c lk =>
      obtain ⟨g1, g2⟩ := hx4.2.2 c lk hkx
      rw [g1, show decide ((c : Int) = -1) = false from decide_eq_false (by omega)]
      simp only [vs]
      rw [hkx] at g2
      have hkn : (c :: lk).Nodup := by rw [← hkx]; exact h3.kN x hxA
      have hkA : ∀ y, y ∈ c :: lk → y ∈ al := fun y hy => h3.kA x hxA y (by rw [hkx]; exact hy)
      change Ret PR 39 #[ptr b, .int .i64 (c : Int)] wa _
      refine (ring_ok ma g2 hkn fun y hy => h.lt _ (hkA y hy)).mono ?_
      rintro vc wc ⟨hoc, hec, hnc⟩
      have hkl : (c :: lk).length ≤ al.length := List.Nodup.length_le_of_subset hkn hkA
      have hsc : Sl wc 1 vc (c :: lk).length (enc (natL (c :: lk))) := hoc.sl (by omega)
      have hll : (natL l).length ≤ al.length := by rw [natL_len]; simp at hRl; omega
      refine append_own E84 (hoa.ext hec fun _ _ h => h) hsc (enc_one _) (by omega) (by omega) fun vt wt hot het hkt _ => ?_
      refine rest vt wt ?_ ((hec.no).trans het fun m hm hin => hna m hin) fun m hm => ?_
      · have e1 : enc (natL l) ++ enc (natL (c :: lk)) = enc (natL (l ++ kids x)) := by rw [hkx]; simp [natL, enc]
        have e2 : (natL l).length + (c :: lk).length = (natL (l ++ kids x)).length := by rw [hkx]; simp [natL]
        rw [e1, e2] at hot
        exact hot
      · rcases hkt m hm with h7 | h7
        · exact hna m h7
        · have := hec.size; omega

end Go.Proofs.Ythhpdcegkbfijaa.Sh
