/-
  share: the law ShareMoves.
-/
import Derived.Test.YthhpdcegkbfijaaShJ
import Derived.Laws.Small
namespace Go.Proofs.Ythhpdcegkbfijaa.Sh
open Go.Proofs.Ythhpdcegkbfijaa.V Go.Proofs.Ythhpdcegkbfijaa.T
set_option linter.all false
set_option maxRecDepth 100000
set_option linter.unusedVariables false
set_option linter.unusedSimpArgs false
set_option linter.unnecessarySimpa false

/-! ### the reference's Formed and Add -/
theorem formedR_ok {v : List Int} (hv : v.length = 4) (w : World) : Ret PR 28 #[vec v] w (fun r w' => r = .bool (formed v) ∧ Ext No w w') := by
  suffices hs : ∀ R : Kv, (∀ w', Ext No w w' → R (.bool (formed v)) w') → f28 (vec v) w R from f28_ret (hs _ fun w' he => ⟨rfl, he⟩)
  intro R hR
  unfold f28
  refine bx_bk fun w2 he2 _ hb2 => ?_
  have hb2' : Bk w2 w.heap.size (enc v) 23 := hb2
  refine for1 (n := 4) (by omega) (fun k w' => w' = w2 ∧ (v.take k).all okN = true) ⟨rfl, by simp⟩ ?_ ?_
  · rintro k w' hk ⟨rfl, hall⟩ K hK
    have hkl : k < v.length := by omega
    have hga : (enc v)[((k : Int)).toNat]? = some (.int .i64 v[k]) := by simp [enc_get, hkl]
    rw [ixa1 (by omega) (by omega)]
    simp only [ar, vs, hb2'.l1 hga]
    have no : okN v[k] = false → R (.bool false) w' := fun h => by
      have : formed v = false := by
        unfold formed
        rw [List.all_eq_false]
        exact ⟨_, List.getElem_mem hkl, by simp [h]⟩
      rw [← this]; exact hR _ he2
    by_cases h0 : v[k] < 0
    · simp only [h0, decide_true, vs]
      exact no (by simp [okN]; omega)
    · by_cases h1 : v[k] > 1099511627776
      · simp only [h0, h1, decide_true, decide_false, vs, hb2'.l1 hga]
        exact no (by simp [okN]; omega)
      · simp only [h0, h1, decide_false, vs, hb2'.l1 hga]
        simp (disch := omega) only [ar, vs]
        refine hK _ ⟨rfl, ?_⟩
        rw [all_take hkl, hall]
        simp [okN]; omega
  · rintro w' ⟨rfl, hall⟩
    rw [List.take_of_length_le (by omega)] at hall
    have := hR w' he2
    rw [show formed v = true from hall] at this
    exact this

theorem okN_iff {n : Int} : okN n = true ↔ 0 ≤ n ∧ n ≤ 1099511627776 := by simp [okN]
theorem formed_at {v : List Int} (h : formed v = true) {k : Nat} (hk : k < v.length) : 0 ≤ v[k] ∧ v[k] ≤ 1099511627776 := okN_iff.1 (List.all_eq_true.1 h _ (List.getElem_mem hk))
def addV (a b : List Int) : List Int := List.zipWith (· + ·) a b

set_option maxHeartbeats 1000000 in
theorem addV_ok {a b : List Int} (ha : a.length = 4) (hb : b.length = 4) (w : World) :
    Ret PR 14 #[vec a, vec b] w (fun r w' => Ext No w w' ∧ ∃ s e, s.length = 4 ∧ r = .tuple #[vec s, .int .i64 e] ∧ (e = 0 → formed a = true ∧ formed b = true ∧ s = addV a b ∧ formed s = true)) := by
  suffices hs : ∀ R : Kv, (∀ w' s e, Ext No w w' → s.length = 4 → (e = 0 → formed a = true ∧ formed b = true ∧ s = addV a b ∧ formed s = true) → R (.tuple #[vec s, .int .i64 e]) w') → f14 (vec a) (vec b) w R from
    f14_ret (hs _ fun w' s e h1 h2 h3 => ⟨h1, s, e, h2, rfl, h3⟩)
  intro R hR
  unfold f14
  refine bx_bk fun w2 he2 hsz2 hb1 => ?_
  refine bx_bk fun w4 he4 hsz4 hb3 => ?_
  refine var_z zero23 fun w6 he6 hsz6 hb5 => ?_
  have hb1 : Bk w6 w.heap.size (enc a) 23 := (hb1.no he4).no he6
  have hb3 : Bk w6 w2.heap.size (enc b) 23 := hb3.no he6
  have hE6 : Ext No w w6 := (he2.tr he4).tr he6
  rw [hb1.all (by rw [enc_len]; exact ha)]
  have h4 : w.heap.size ≤ w4.heap.size := (he2.tr he4).size
  have out : ∀ (s : List Int) (e : Int), s.length = 4 → (e = 0 → formed a = true ∧ formed b = true ∧ s = addV a b ∧ formed s = true) → ∀ w', Ext No w6 w' →
      stW 4 (.pointer (some ⟨w4.heap.size, 0, none⟩)) (vec s) w' fun w621 => lN 4 (.pointer (some ⟨w4.heap.size, 0, none⟩)) w621 fun v622 => R (.tuple #[v622, .int .i64 e]) w621 := fun s e hs hsp w' hx => by
    refine (hb5.no hx).stN (by simp [enc, hs]) (by simp [Value.cells]) (fun u hu => by simp [enc] at hu; obtain ⟨n, _, rfl⟩ := hu; rfl) fun w11 hb11 he11 _ => ?_
    rw [ovr_all _ _ (by simp [Value.cells, enc, hs])] at hb11
    rw [hb11.all (n := 4) (by simp [enc, hs])]
    exact hR w11 s e ((hE6.tr hx).trans he11 fun k hk e => by omega) hs hsp
  have arr0 : ∀ {wz : World} {K : Kv}, K (vec [0, 0, 0, 0]) wz → sv PR (Instr.build 23 #[]) wz K := fun hK =>
    build_arr (sz := 1) zero23 Try.underlying23 (by kernel_rfl) (cells := #[.int .i64 0, .int .i64 0, .int .i64 0, .int .i64 0]) rfl hK
  refine (formedR_ok ha w6).mono ?_
  rintro _ w11 ⟨rfl, he11⟩
  have hb3' := hb3.no he11
  cases hfa : formed a with
  | false =>
    simp only [vs]
    exact arr0 (out _ 4 rfl (fun h => by omega) _ he11)
  | true =>
  simp only [vs]
  rw [hb3'.all (by rw [enc_len]; exact hb)]
  refine (formedR_ok hb w11).mono ?_
  rintro _ w16 ⟨rfl, he16⟩
  have hx16 := he11.tr he16
  cases hfb : formed b with
  | false =>
    simp only [vs]
    exact arr0 (out _ 4 rfl (fun h => by omega) _ hx16)
  | true =>
  simp only [vs]
  refine var_z zero23 fun w135 he135 hsz135 hbo => ?_
  have hx135 := hx16.tr he135
  have hlt2 : w2.heap.size < w6.heap.size := hb3.lt
  have hlt1 : w.heap.size < w6.heap.size := hb1.lt
  have hlt5 : w4.heap.size < w6.heap.size := hb5.lt
  have hs16 := hx16.size
  have hzl : (addV a b).length = 4 := by simp [addV, ha, hb]
  refine for1 (n := 4) (by omega) (fun k w' => Ext No w6 w' ∧ ∃ cs, Bk w' w16.heap.size (enc cs) 23 ∧ cs.length = 4 ∧ cs.take k = (addV a b).take k) ⟨hx135, [0, 0, 0, 0], hbo, rfl, rfl⟩ ?_ ?_
  · rintro k wa hk ⟨hea, cs, hbc, hcl, hct⟩ K hK
    have hxa := hea.drew
    have h1 := hb1.no hxa
    have h3 := hb3.no hxa
    have hka : k < a.length := by omega
    have hkb : k < b.length := by omega
    have hkc : k < cs.length := by omega
    have g1 : (enc a)[((k : Int)).toNat]? = some (.int .i64 a[k]) := by simp [enc_get, hka]
    have g3 : (enc b)[((k : Int)).toNat]? = some (.int .i64 b[k]) := by simp [enc_get, hkb]
    have fa := formed_at hfa hka
    have fb := formed_at hfb hkb
    have hbd := hbc.no (Ext.refl No wa).drew
    simp only [ixa1 (show (0 : Int) ≤ (k : Int) by omega) (show (k : Int) < ((4 : Nat) : Int) by omega), vs, h1.l1 g1, h3.l1 g3]
    simp (disch := omega) only [ar, vs]
    have hkt : ((k : Int)).toNat = k := by omega
    refine hbd.st1 (by rw [enc_len, hkt]; exact hkc) rfl rfl fun wb hbb heb hsb => ?_
    rw [hkt] at hbb
    have hset : (enc cs).set k (.int .i64 (a[k] + b[k])) = enc (cs.set k (a[k] + b[k])) := by simp [enc, List.map_set]
    rw [hset] at hbb
    refine hK _ ⟨hxa.trans heb fun m hm e => by omega, cs.set k (a[k] + b[k]), hbb, by simp [hcl], ?_⟩
    have hkz : k < (addV a b).length := by omega
    have hz : (addV a b)[k] = a[k] + b[k] := by simp [addV]
    rw [List.take_succ_eq_append_getElem hkz, hz, ← hct, List.take_succ_eq_append_getElem (by simp; omega), List.take_set_of_le (Nat.le_refl _)]
    simp
  · rintro wa ⟨hea, cs, hbc, hcl, hct⟩
    have hcs : cs = addV a b := by
      rw [List.take_of_length_le (by omega), List.take_of_length_le (by omega)] at hct; exact hct
    subst hcs
    rw [hbc.all (by rw [enc_len]; exact hcl)]
    change Ret PR 28 #[vec (addV a b)] wa _
    refine (formedR_ok hcl wa).mono ?_
    rintro _ wb ⟨rfl, heb⟩
    have hxb := hea.tr heb
    cases hfs : formed (addV a b) with
    | false =>
      simp only [vs]
      exact arr0 (out _ 7 rfl (fun h => by omega) _ hxb)
    | true =>
      simp only [vs]
      rw [(hbc.no heb).all (by rw [enc_len]; exact hcl)]
      exact out (addV a b) 0 hcl (fun _ => ⟨hfa, hfb, rfl, hfs⟩) _ hxb

/-! ### places -/
open Classical in
/-- the place in a sorted list: how many are less -/
theorem place_count {α : Type} {lt : α → α → Prop} (hi : ∀ a, ¬ lt a a) (has : ∀ a b, lt a b → lt b a → False) {p tl : List α} {u : α} (hp : p.Perm (u :: tl)) (hs : p.Pairwise lt) {k : Nat} (hk : k < p.length) (hku : p[k] = u) : k = tl.countP fun x => decide (lt x u) := by
  have h1 : p.countP (fun x => decide (lt x u)) = tl.countP fun x => decide (lt x u) := by
    rw [hp.countP_eq, List.countP_cons_of_neg]
    simpa using hi u
  rw [← h1]
  have hsplit : p = p.take k ++ u :: p.drop (k + 1) := by
    conv => lhs; rw [← List.take_append_drop k p, List.drop_eq_getElem_cons hk, hku]
  have hA : (p.take k).countP (fun x => decide (lt x u)) = k := by
    have : (p.take k).countP (fun x => decide (lt x u)) = (p.take k).length := by
      rw [List.countP_eq_length]
      intro x hx
      obtain ⟨j, hj, rfl⟩ := List.mem_take_iff_getElem.1 hx
      have := (List.pairwise_iff_getElem.1 hs) j k (by omega) hk (by omega)
      rw [hku] at this
      simpa using this
    rw [this]; simp; omega
  have hB : (p.drop (k + 1)).countP (fun x => decide (lt x u)) = 0 := by
    rw [List.countP_eq_zero]
    intro x hx
    obtain ⟨j, hj, rfl⟩ := List.mem_drop_iff_getElem.1 hx
    have := (List.pairwise_iff_getElem.1 hs) k (k + 1 + j) hk (by omega) (by omega)
    rw [hku] at this
    simpa using fun h => has _ _ h this
  rw [hsplit, List.countP_append, hA, List.countP_cons_of_neg (by simpa using hi u), hB]; omega

theorem IsShare.mono {v v' all : List Nat} {wt wt' N D N' D' : Nat} (h : IsShare v all wt 4 N D) (h' : IsShare v' all wt' 4 N' D') (hw : 0 < wt) (hw' : 0 < wt') (hv : v.length = v'.length)
    (hm : ∀ i (hi : i < v.length) (hi' : i < v'.length), v[i] * wt' ≤ v'[i] * wt) : N * D' ≤ N' * D := by
  rcases h.eq with h0 | ⟨i, hi, hai, hik, hne, he⟩
  · subst h0; simp
  · have hi' : i < v'.length := by omega
    have h2 := h'.ge i hi' hai hik hne
    have hmi := hm i hi hi'
    have p1 : 0 < all[i] * wt := Nat.mul_pos (by omega) hw
    have p2 : 0 < all[i] * wt' := Nat.mul_pos (by omega) hw'
    have h3 : v[i] * (all[i] * wt') ≤ v'[i] * (all[i] * wt) := by
      calc v[i] * (all[i] * wt') = v[i] * wt' * all[i] := by rw [Nat.mul_left_comm, Nat.mul_comm]
        _ ≤ v'[i] * wt * all[i] := Nat.mul_le_mul_right _ hmi
        _ = v'[i] * (all[i] * wt) := by rw [Nat.mul_left_comm, Nat.mul_comm]
    exact frac_le p2 (frac_le p1 (Nat.le_of_eq he.symm) h3) h2

/-- whose share is no greater, comes no later -/
theorem ltU_mono {whole : List Int} {x u u' : Us} (hx : 0 < (shareV whole x).2) (hu : 0 < (shareV whole u).2) (hu' : 0 < (shareV whole u').2) (hn : u'.nm = u.nm) (hle : (shareV whole u).1 * (shareV whole u').2 ≤ (shareV whole u').1 * (shareV whole u).2) (h : ltU whole x u) : ltU whole x u' := by
  rcases h with h | ⟨h, hnm⟩
  · exact .inl (frac_lt hu hx hu' h hle)
  · rcases Nat.lt_or_ge ((shareV whole x).1 * (shareV whole u').2) ((shareV whole u').1 * (shareV whole x).2) with h1 | h1
    · exact .inl h1
    · have h2 : (shareV whole x).1 * (shareV whole u').2 ≤ (shareV whole u').1 * (shareV whole x).2 := frac_le hu (Nat.le_of_eq h) hle
      exact .inr ⟨by omega, by rw [hn]; exact hnm⟩

theorem OrdR.place {whole : List Int} {u : Us} {tl : List Us} {o : List Str} (h : OrdR whole (u :: tl) o 0) {k : Nat} (hk : k < o.length) (hko : o[k] = u.nm) : ∃ p : List Us, p.Perm (u :: tl) ∧ p.Pairwise (ltU whole) ∧ ∃ hkp : k < p.length, p[k] = u := by
  obtain ⟨hok, hn, p, hp, hs, rfl⟩ := h.okD
  rw [List.length_map] at hk
  refine ⟨p, hp, hs, hk, ?_⟩
  rw [List.getElem_map] at hko
  have hm : p[k] ∈ u :: tl := hp.mem_iff.1 (List.getElem_mem hk)
  rcases List.mem_cons.1 hm with e | e
  · exact e
  · exfalso
    rw [List.map_cons, List.nodup_cons] at hn
    exact hn.1 (hko ▸ List.mem_map_of_mem e)

theorem OrdR.moves {whole : List Int} (hw : whole.length = 4) {u u' : Us} {tl : List Us} {o o' : List Str} (h : OrdR whole (u :: tl) o 0) (h' : OrdR whole (u' :: tl) o' 0) (hn : u'.nm = u.nm) (hle : (shareV whole u).1 * (shareV whole u').2 ≤ (shareV whole u').1 * (shareV whole u).2)
    {k k' : Nat} (hk : k < o.length) (hko : o[k] = u.nm) (hk' : k' < o'.length) (hko' : o'[k'] = u'.nm) : k ≤ k' := by
  obtain ⟨p, hp, hs, hkp, hpu⟩ := h.place hk hko
  obtain ⟨p', hp', hs', hkp', hpu'⟩ := h'.place hk' hko'
  rw [place_count (ltU_irrefl whole) (ltU_asym whole) hp hs hkp hpu, place_count (ltU_irrefl whole) (ltU_asym whole) hp' hs' hkp' hpu']
  have hok := h.okD.1
  have hok' := h'.okD.1
  refine List.countP_mono_left fun x hx hlt => ?_
  simp only [decide_eq_true_eq] at *
  exact ltU_mono (shareV_pos hw (hok x (List.mem_cons_of_mem _ hx))) (shareV_pos hw (hok u (by simp))) (shareV_pos hw (hok' u' (by simp))) hn hle hlt

/-- another first one, of the same name, that is formed -/
theorem OrdR.other {whole : List Int} {u u' : Us} {tl : List Us} {o o' : List Str} {e' : Int} (h : OrdR whole (u :: tl) o 0) (hn : u'.nm = u.nm) (hok' : okU whole u') (h' : OrdR whole (u' :: tl) o' e') : e' = 0 ∧ o'.length = o.length := by
  obtain ⟨hok, hnd, _⟩ := h.okD
  have hall : ∀ x, x ∈ u' :: tl → okU whole x := fun x hx => by
    rcases List.mem_cons.1 hx with rfl | hx
    · exact hok'
    · exact hok x (List.mem_cons_of_mem _ hx)
  have hnd' : ((u' :: tl).map (·.nm)).Nodup := by
    rw [List.map_cons, hn]; rw [List.map_cons] at hnd; exact hnd
  cases h' with
  | err i hi h0 h1 => exact absurd (hall _ (List.getElem_mem hi)) h1
  | dup _ g => exact absurd hnd' g
  | ok _ _ p hp hs => exact ⟨rfl, by rw [List.length_map, hp.length_eq, h.len]; rfl⟩

end Go.Proofs.Ythhpdcegkbfijaa.Sh
