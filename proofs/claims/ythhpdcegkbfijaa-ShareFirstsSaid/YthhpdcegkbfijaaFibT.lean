/-
  The Fibonacci heap: contracts of New, Len, Insert, Pop.
-/
import Derived.Test.YthhpdcegkbfijaaFibS
namespace Go.Proofs.Ythhpdcegkbfijaa.Sh
open Go.Proofs.Ythhpdcegkbfijaa.V Go.Proofs.Ythhpdcegkbfijaa.T Go.Proofs.Ythhpdcegkbfijaa.Fib
set_option linter.all false
set_option maxRecDepth 100000
set_option linter.unusedVariables false
set_option linter.unusedSimpArgs false
set_option linter.unnecessarySimpa false

structure HI (w : World) (b : Nat) (ky : Nat → Core) (al : List Nat) (len : Nat) (F : Nat → Prop) : Prop where
  k : KOk ky
  lt : ∀ z, z ∈ al → z < len
  ex : ∃ sv least C R kids, HM w b sv least (al.length : Int) len C ∧ RR ky C least R ∧ For (ltH ky) al R kids ∧ LKS C al kids ∧ (∀ z, z ∈ al → keyIs (C z) (ky z)) ∧ ∀ k, F k ↔ Ft b sv k
theorem HI.ext {S F : Nat → Prop} {w w' : World} {b len : Nat} {ky : Nat → Core} {al : List Nat} (h : HI w b ky al len F) (he : Ext S w w') (hn : ∀ k, F k → ¬ S k) : HI w' b ky al len F := by
  obtain ⟨sv, least, C, R, kids, h1, h2, h3, h4, h5, h6⟩ := h.ex
  exact ⟨h.k, h.lt, sv, least, C, R, kids, h1.ext he (hn b ((h6 b).2 (.inl rfl))) fun k hk => hn k ((h6 k).2 (.inr hk)), h2, h3, h4, h5, h6⟩
theorem HI.flt {F : Nat → Prop} {w : World} {b len : Nat} {ky : Nat → Core} {al : List Nat} (h : HI w b ky al len F) {k : Nat} (hk : F k) : k < w.heap.size := by
  obtain ⟨sv, least, C, R, kids, h1, h2, h3, h4, h5, h6⟩ := h.ex
  rcases (h6 k).1 hk with rfl | hk
  · exact h1.lt
  · exact h1.lt' hk
theorem HI.own {F : Nat → Prop} {w : World} {b len : Nat} {ky : Nat → Core} {al : List Nat} (h : HI w b ky al len F) : F b := by
  obtain ⟨sv, least, C, R, kids, h1, h2, h3, h4, h5, h6⟩ := h.ex
  exact (h6 b).2 (.inl rfl)
theorem HI.allen {F : Nat → Prop} {w : World} {b len : Nat} {ky : Nat → Core} {al : List Nat} (h : HI w b ky al len F) : al.length ≤ len := by
  obtain ⟨sv, least, C, R, kids, h1, h2, h3, h4, h5, h6⟩ := h.ex
  have := List.Nodup.length_le_of_subset (l₂ := List.range len) h3.alN fun y hy => List.mem_range.2 (h.lt y hy)
  simpa using this

def ky0 : Nat → Core := fun _ => ⟨0, 1, 0, 0, 0, 0⟩
theorem zero78 : (PR.info? 78).map (fun i => i.zero) = some (some (.agg #[.slice none 0 0, .int .i64 0, .int .i64 0])) := by kernel_rfl
theorem pl78 : placesO PR 78 = some ([(0, 1), (1, 1), (2, 1)].map fun p => (p.1, some p.2)) := by kernel_rfl
theorem new_ok (w : World) : Ret PR 21 #[] w (fun r w' => ∃ b, r = ptr b ∧ HI w' b ky0 [] 0 (fun k => k = b) ∧ Ext No w w' ∧ w.heap.size ≤ b) := by
  refine f21_ret ?_
  unfold f21
  refine build_st zero78 pl78 (cells := #[.slice none 0 0, .int .i64 0, .int .i64 0]) rfl ?_
  refine bx_bk fun w' he hsz hb => ?_
  have hn : ∀ k, ¬ inB (.slice none 0 0) k := fun k hk => by simp [inB, Value.ownBlock] at hk
  refine ⟨_, rfl, ⟨⟨fun _ => by simp [ky0], fun _ => by simp [ky0, W64], fun _ => by simp [ky0, W64]⟩, fun z hz => (by cases hz), .slice none 0 0, 0, ky0, [], fun _ => [], ⟨⟨78, hb⟩, hn _, by omega, [], Own.nil _ _ _, rfl, fun i hi => (by simp at hi)⟩, .inl ⟨rfl, rfl⟩, For.nil _ _, fun z hz => (by cases hz), fun z hz => (by cases hz), fun k => ⟨.inl, fun h => h.elim id fun h => absurd h (hn k)⟩⟩, he, Nat.le_refl _⟩

theorem len_ok {F : Nat → Prop} {w : World} {b len : Nat} {ky : Nat → Core} {al : List Nat} (h : HI w b ky al len F) : Ret PR 24 #[ptr b] w (fun r w' => r = .int .i64 (al.length : Int) ∧ w' = w) := by
  refine f24_ret ?_
  unfold f24 ptr
  obtain ⟨sv, least, C, R, kids, h1, h2, h3, h4, h5, h6⟩ := h.ex
  simp only [vs, Nat.zero_add, h1.cnt]
  exact ⟨by trivial, by trivial⟩

def zEnt : Value := .agg #[.int .u64 0, .int .u64 0, .int .i64 0, .int .i64 0, .int .i64 0, .int .i64 0, .int .i64 0, .int .i64 0, .bool false, .bool false]
theorem zero82 : (PR.info? 82).map (fun i => i.zero) = some (some zEnt) := by kernel_rfl
theorem pl82 : placesO PR 82 = some ([(0, 3), (3, 1), (4, 1), (5, 1), (6, 1), (7, 1), (8, 1), (9, 1)].map fun p => (p.1, some p.2)) := by kernel_rfl
theorem E76 : ElemT PR 76 82 10 72 := .of (z := zEnt) (by kernel_rfl) (by kernel_rfl) rfl (by omega)

theorem own_slice {w : World} {T sz n : Nat} {v : Value} {xs : List Value} (h : Own w T sz v n xs) : ∃ a l c, v = .slice a l c := by
  rcases h.2 with ⟨h1, _⟩ | ⟨g, cap, cur, h1, _⟩
  · exact ⟨_, _, _, h1⟩
  · exact ⟨_, _, _, h1⟩

theorem ltH_congr {k k' : Nat → Core} {x y : Nat} (hx : k' x = k x) (hy : k' y = k y) : ltH k' x y ↔ ltH k x y := by unfold ltH; rw [hx, hy]

def kv (k : Core) : Value := .agg #[u64 k.n, u64 k.d, .int .i64 k.tie]

set_option maxHeartbeats 1000000 in
theorem ins_ok {F : Nat → Prop} {w : World} {b len : Nat} {ky : Nat → Core} {al : List Nat} (h : HI w b ky al len F) (hlen : len < 1048576) {k : Core} (k1 : 0 < k.d) (k2 : k.n < W64) (k3 : k.d < W64) :
    Ret PR 23 #[ptr b, kv k] w (fun r w' => ∃ F', HI w' b (upN ky len k) (len :: al) (len + 1) F' ∧ r = .tuple #[.int .i64 (len : Int), .int .i64 0] ∧ Ext F w w' ∧ ∀ m, F' m → F m ∨ w.heap.size ≤ m) := by
  refine f23_ret ?_
  unfold f23 ptr kv
  obtain ⟨sv, least, C, R, kids, h1, h2, h3, h4, h5, h6⟩ := h.ex
  refine bx_bk fun w2 he2 hsz2 hb2 => ?_
  have hm := h1.no he2
  have hb2' : Bk w2 w.heap.size [u64 k.n, u64 k.d, .int .i64 k.tie] 60 := hb2
  simp only [vs, Nat.zero_add, Nat.add_zero, hb2'.l1 (j := 1) (v := u64 k.d) rfl, u64, beq_dec]
  rw [show decide ((k.d : Int) = 0) = false from decide_eq_false (by omega)]
  simp only [vs, hm.ent, hm.slen, ar]
  rw [show decide ((len : Int) ≥ 1048576) = false from decide_eq_false (by omega)]
  simp only [vs]
  obtain ⟨⟨T, hbk⟩, hnb, hfew, es, hown, hesl, hcore⟩ := hm
  have hbl : b < w.heap.size := h1.lt
  have hsl : ∀ m, inB sv m → m < w.heap.size := fun m hm => h1.lt' hm
  refine ⟨fun w' => Ext No w2.drew w', Ext.refl _ _, ?_⟩
  have hbkd := hbk.no (Ext.refl No w2).drew
  have hb2d := hb2'.no (Ext.refl No w2).drew
  refine Bk.l1C (fun w' hw' => hbkd.no hw') rfl ?_
  refine Bk.lNC (fun w' hw' => hb2d.no hw') (o := 0) (vs := [u64 k.n, u64 k.d, .int .i64 k.tie]) rfl rfl ?_
  let e : Ent := ⟨k.n, k.d, k.tie, -1, -1, 0, 0, 0, false, true⟩
  refine build_st zero82 pl82 (cells := (eC e).toArray) rfl ?_
  refine ⟨Ext.refl _ _, ?_⟩
  refine bs1 E76 (by omega) rfl fun v3 w4 hv3 he4 hvk4 hsz4 => ?_
  refine ⟨he4, ?_⟩
  have hs3 : Sl w4 10 v3 1 (eC e) := hv3.sl (by omega)
  have hown4 : Own w4 82 10 sv len (es.flatMap eC) := (hown.ext (S := No) (Ext.refl No w2).drew fun _ _ h => h).ext he4 fun _ _ h => h
  have hsd : w2.drew.heap.size = w2.heap.size := rfl
  refine append_own E76 hown4 hs3 (by simp [eC, Value.oneCell']) (by omega) (by omega) fun sv' w5 hown5 he5 hk5 _ => ?_
  have hrow : es.flatMap eC ++ eC e = (es ++ [e]).flatMap eC := by simp
  rw [hrow] at hown5
  have hbk5 : Bk w5 b [sv, .int .i64 least, .int .i64 (al.length : Int)] T := (hbkd.no he4).ext he5 hnb
  obtain ⟨a', l', c', hsv'⟩ := own_slice hown5
  refine hbk5.st1 (j := 0) (by simp) (by rw [hsv']; rfl) (by rw [hsv']; rfl) fun w6 hb6 he6 hsz6 => ?_
  have hnb' : ¬ inB sv' b := fun hin => by
    rcases hk5 b hin with h | h
    · exact hnb h
    · omega
  have hC' : ∀ i, i < len → upN C len (core e) i = C i := fun i hi => upN_other _ _ (by omega)
  have hm6 : HM w6 b sv' least (al.length : Int) (len + 1) (upN C len (core e)) := by
    refine ⟨⟨T, hb6⟩, hnb', by omega, es ++ [e], hown5.ext he6 fun m hm e => hnb' (e ▸ hm), by simp [hesl], fun i hi => ?_⟩
    simp only [List.length_append, List.length_cons, List.length_nil] at hi
    by_cases hlt : i < es.length
    · rw [List.getElem_append_left hlt, hC' i (by omega)]; exact hcore i hlt
    · have hi' : i = len := by omega
      subst hi'
      have hlast : (es ++ [e])[i]'(by simp; omega) = e := by
        rw [List.getElem_append_right (by omega)]; simp
      rw [hlast, upN_same]
  have hE6 : Ext F w w6 := by
    refine ((((he2.drew).tr he4).no).trans (S := F) (he5.mono (S' := F) fun m _ hm => (h6 m).2 (.inr hm)) fun _ _ h => h).trans (he6.mono (S' := F) fun m _ hm => (h6 m).2 (.inl hm)) fun _ _ h => h
  have hlenR : len ∉ R := fun hr => by have := h.lt _ (h3.rA _ hr); omega
  have hkyo : ∀ z, z ∈ al → upN ky len k z = ky z := fun z hz => upN_other _ _ (by have := h.lt z hz; omega)
  have hkok : KOk (upN ky len k) := by
    refine ⟨fun x => ?_, fun x => ?_, fun x => ?_⟩
    all_goals
      by_cases e : x = len
      · subst e; rw [upN_same]; assumption
      · rw [upN_other _ _ e]; first | exact h.k.pos x | exact h.k.n x | exact h.k.d x
  have hR' : RR (upN ky len k) (upN C len (core e)) least R := by
    rcases h2 with h2 | ⟨z, l, e1, e2, e3, e4⟩
    · exact .inl h2
    · refine .inr ⟨z, l, e1, e2, Ring.congr (rt := fun i => (C i).rt) (fun y hy => ?_) e3, fun y hy hne => ?_⟩
      · show (upN C len (core e) y).rt = (C y).rt
        rw [hC' y (h.lt _ (h3.rA _ hy))]
      · have hz : z ∈ R := by rw [e1]; simp
        exact (ltH_congr (hkyo z (h3.rA _ hz)) (hkyo y (h3.rA _ hy))).2 (e4 y hy hne)
  change Ret PR 37 #[ptr b, .int .i64 (len : Int)] w6 _
  refine (root_ok hm6 hkok hR' h3.rN hlenR (by omega) (fun y hy => by have := h.lt _ (h3.rA _ hy); omega) (fun y hy => ?_)).mono ?_
  · rcases hy with rfl | hy
    · rw [upN_same, upN_same]; exact ⟨rfl, rfl, rfl⟩
    · have hyA := h3.rA _ hy
      rw [hC' y (h.lt _ hyA), hkyo y hyA]; exact h5 y hyA
  rintro _ w7 ⟨C7, least7, ro, hm7, hR7, hnd7, hmem7, hlk7, he7⟩
  simp only [vs, Nat.zero_add, hm7.cnt]
  have hall := h.allen
  simp (disch := omega) only [ar, vs, Nat.zero_add]
  refine hm7.setCnt _ fun w8 hm8 he8 hsz8 => ?_
  have hFt : ∀ m, Ft b sv' m → F m ∨ w.heap.size ≤ m := fun m hm => by
    rcases hm with rfl | hm
    · exact .inl ((h6 _).2 (.inl rfl))
    · rcases hk5 m hm with h7 | h7
      · exact .inl ((h6 m).2 (.inr h7))
      · have := he4.size; exact .inr (by omega)
  have hs6 := hE6.size
  have hE8 : Ext F w w8 := (hE6.trans he7 fun m hm hf => (hFt m hf).resolve_right (by omega)).trans (he8.mono (S' := F) fun m _ hm => (h6 m).2 (.inl hm)) fun _ _ h => h
  -- the forest with one more
  have hf' : For (ltH (upN ky len k)) al R (upN kids len []) := by
    have hko : ∀ z, z ∈ al → upN kids len [] z = kids z := fun z hz => upN_other _ _ (by have := h.lt z hz; omega)
    refine ⟨h3.alN, h3.rN, h3.rA, fun y hy => by rw [hko y hy]; exact h3.kN y hy, fun y hy => by rw [hko y hy]; exact h3.kA y hy, fun y hy => by rw [hko y hy]; exact h3.rk y hy, fun y z hy hz => by rw [hko y hy, hko z hz]; exact h3.kk y z hy hz, fun x hx => ?_, fun y hy x hx => ?_, fun y hy => ?_, ?_⟩
    · rcases h3.cov x hx with q | ⟨y, q1, q2⟩
      · exact .inl q
      · exact .inr ⟨y, q1, by rw [hko y q1]; exact q2⟩
    · rw [hko y hy] at hx
      exact (ltH_congr (hkyo y hy) (hkyo x (h3.kA y hy x hx))).2 (h3.hp y hy x hx)
    · rw [hko y hy, W_congr (dg := fun c => (kids c).length) fun z hz => by rw [hko z (h3.kA y hy z hz)]]
      exact h3.w y hy
    · rw [W_congr (dg := fun c => (kids c).length) fun z hz => by rw [hko z (h3.rA z hz)]]
      exact h3.sum
  have hnal : len ∉ al := fun hm => by have := h.lt _ hm; omega
  have hf2 := (hf'.add hnal (upN_same _ _ _)).same hnd7 fun x => by rw [hmem7, List.mem_cons]
  refine ⟨Ft b sv', ⟨hkok, fun z hz => ?_, sv', least7, C7, ro, upN kids len [], ?_, hR7, hf2, ?_, ?_, fun _ => Iff.rfl⟩, by trivial, hE8, hFt⟩
  · rcases List.mem_cons.1 hz with rfl | hz
    · omega
    · have := h.lt z hz; omega
  · have : ((len :: al).length : Int) = (al.length : Int) + 1 := by simp
    rw [this]; exact hm8
  · have hl6 : LKS (upN C len (core e)) (len :: al) (upN kids len []) := fun z hz => by
      rcases List.mem_cons.1 hz with rfl | hz
      · rw [upN_same, upN_same]
        exact ⟨rfl, fun _ => rfl, fun c l h => (by cases h)⟩
      · have hzl := h.lt z hz
        rw [hC' z hzl, upN_other _ _ (by omega : z ≠ len)]
        have h40 := h4 z hz
        refine ⟨h40.1, h40.2.1, fun c l hk => ⟨(h40.2.2 c l hk).1, Ring.congr (rt := fun i => (C i).rt) (fun y hy => ?_) (h40.2.2 c l hk).2⟩⟩
        show (upN C len (core e) y).rt = (C y).rt
        rw [hC' y (h.lt _ (h3.kA z hz y hy))]
    exact LKS.lk hf2 hl6 hlk7 fun i hi => by rw [hmem7]; exact hi
  · intro z hz
    refine hlk7.key ?_
    rcases List.mem_cons.1 hz with rfl | hz
    · rw [upN_same, upN_same]; exact ⟨rfl, rfl, rfl⟩
    · rw [hC' z (h.lt z hz), hkyo z hz]; exact h5 z hz

end Go.Proofs.Ythhpdcegkbfijaa.Sh
