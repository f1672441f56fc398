/-
  share: contracts: vector.Formed, vector.Share.
-/
import Derived.Test.YthhpdcegkbfijaaShB
namespace Go.Proofs.Ythhpdcegkbfijaa.Sh
open Go.Proofs.Ythhpdcegkbfijaa.V Go.Proofs.Ythhpdcegkbfijaa.T
set_option linter.all false
set_option maxRecDepth 100000
set_option linter.unusedVariables false
set_option linter.unusedSimpArgs false
set_option linter.unnecessarySimpa false

def vec (v : List Int) : Value := .agg (enc v).toArray
def okN (n : Int) : Bool := decide (0 ≤ n) && decide (n ≤ 1099511627776)
def formed (v : List Int) : Bool := v.all okN
def errS (v all : List Int) (wt : Int) : Int := if formed v && formed all then (if 1 ≤ wt ∧ wt ≤ 1000 then 0 else 2) else 4

theorem all_take {l : List Int} {k : Nat} (hk : k < l.length) (p : Int → Bool) : (l.take (k + 1)).all p = ((l.take k).all p && p l[k]) := by
  rw [List.take_succ_eq_append_getElem hk, List.all_append]; simp
theorem arr23 {v : List Int} {i : Nat} (hv : v.length = 4) (hi : i < 4) {w : World} {K : Kv} (hK : K (.int .i64 (v[i]'(by omega))) w) : sv PR (Instr.index 23 (vec v) (.int .i64 (i : Int))) w K :=
  idx_arr (n := 4) Try.underlying23 (by kernel_rfl) (by kernel_rfl) (by omega) (by omega) (by simp [enc, hv, hi]) hK

theorem formed_ok {v : List Int} (hv : v.length = 4) (w : World) : Ret PR 30 #[vec v] w (fun r w' => r = .bool (formed v) ∧ Ext No w w') := by
  suffices hs : ∀ R : Kv, (∀ w', Ext No w w' → R (.bool (formed v)) w') → f30 (vec v) w R from f30_ret (hs _ fun w' he => ⟨rfl, he⟩)
  intro R hR
  unfold f30
  refine bx_bk fun w2 he2 _ hb2 => ?_
  have hb2' : Bk w2 w.heap.size (enc v) 23 := hb2
  rw [hb2'.all (by rw [enc_len]; exact hv)]
  refine for1 (n := 4) (by omega) (fun k w' => w' = w2 ∧ (v.take k).all okN = true) ⟨rfl, by simp⟩ ?_ ?_
  · rintro k w' hk ⟨rfl, hall⟩ K hK
    have hkl : k < v.length := by omega
    refine arr23 hv hk ?_
    simp only [ar, vs]
    have no : okN v[k] = false → R (.bool false) w' := fun h => by
      have : formed v = false := by
        unfold formed
        rw [List.all_eq_false]
        exact ⟨_, List.getElem_mem hkl, by simp [h]⟩
      rw [← this]; exact hR _ he2
    by_cases h0 : v[k] < 0
    · simp only [h0, decide_true, vs]
      exact no (by simp [okN]; omega)
    · by_cases h1 : v[k] > 1099511627776
      · simp only [h0, h1, decide_true, decide_false, vs]
        exact no (by simp [okN]; omega)
      · simp only [h0, h1, decide_false, vs]
        simp (disch := omega) only [ar, vs]
        refine hK _ ⟨rfl, ?_⟩
        rw [all_take hkl, hall]
        simp [okN]; omega
  · rintro w' ⟨rfl, hall⟩
    rw [List.take_of_length_le (by omega)] at hall
    have := hR w' he2
    rw [show formed v = true from hall] at this
    exact this

/-- the greatest share of one -/
structure IsShare (v all : List Nat) (wt : Nat) (k N D : Nat) : Prop where
  pos : 0 < D
  ge : ∀ i (hi : i < v.length) (ha : i < all.length), i < k → all[i] ≠ 0 → v[i] * D ≤ N * (all[i] * wt)
  eq : N = 0 ∨ ∃ i, ∃ hi : i < v.length, ∃ ha : i < all.length, i < k ∧ all[i] ≠ 0 ∧ v[i] * D = N * (all[i] * wt)

theorem gcd_frac (n d : Nat) (hd : 0 < d) : n / Nat.gcd n d * d = n * (d / Nat.gcd n d) ∧ 0 < d / Nat.gcd n d ∧ n / Nat.gcd n d ≤ n ∧ d / Nat.gcd n d ≤ d := by
  have hg : 0 < Nat.gcd n d := Nat.gcd_pos_of_pos_right n hd
  obtain ⟨a, ha⟩ := Nat.gcd_dvd_left n d
  obtain ⟨b, hb⟩ := Nat.gcd_dvd_right n d
  have e1 : n / Nat.gcd n d = a := Nat.div_eq_of_eq_mul_right hg ha
  have e2 : d / Nat.gcd n d = b := Nat.div_eq_of_eq_mul_right hg hb
  refine ⟨?_, Nat.div_pos (Nat.le_of_dvd hd (Nat.gcd_dvd_right n d)) hg, Nat.div_le_self _ _, Nat.div_le_self _ _⟩
  rw [e1, e2]
  generalize Nat.gcd n d = g at *
  subst ha
  rw [hb, ← Nat.mul_assoc, Nat.mul_comm a g]

/-- a b' ≤ c d' and such, carried from one fraction to another: x/y ≤ N/D, N/D ≤ n/d -/
theorem frac_le {x y N D n d : Nat} (hD : 0 < D) (h1 : x * D ≤ N * y) (h2 : N * d ≤ n * D) : x * d ≤ n * y := by
  refine Nat.le_of_mul_le_mul_right ?_ hD
  calc x * d * D = x * D * d := by rw [Nat.mul_right_comm]
    _ ≤ N * y * d := Nat.mul_le_mul_right _ h1
    _ = N * d * y := by rw [Nat.mul_right_comm]
    _ ≤ n * D * y := Nat.mul_le_mul_right _ h2
    _ = n * y * D := by rw [Nat.mul_right_comm]
theorem frac_eq {x y N D n d : Nat} (hD : 0 < D) (h1 : x * D = N * y) (h2 : N * d = n * D) : x * d = n * y := by
  refine Nat.eq_of_mul_eq_mul_right hD ?_
  calc x * d * D = x * D * d := by rw [Nat.mul_right_comm]
    _ = N * y * d := by rw [h1]
    _ = N * d * y := by rw [Nat.mul_right_comm]
    _ = n * D * y := by rw [h2]
    _ = n * y * D := by rw [Nat.mul_right_comm]

theorem IsShare.skip {v all : List Nat} {wt k N D : Nat} (h : IsShare v all wt k N D) (ha : k < all.length) (h0 : all[k] = 0) : IsShare v all wt (k + 1) N D := by
  refine ⟨h.pos, fun i hi hai hik hne => ?_, h.eq.imp id fun ⟨i, hi, hai, hik, h1⟩ => ⟨i, hi, hai, by omega, h1⟩⟩
  by_cases e : i = k
  · subst e; exact absurd h0 hne
  · exact h.ge i hi hai (by omega) hne
theorem IsShare.keep {v all : List Nat} {wt k N D : Nat} (h : IsShare v all wt k N D) (hv : k < v.length) (ha : k < all.length) (h0 : v[k] * D ≤ N * (all[k] * wt)) : IsShare v all wt (k + 1) N D := by
  refine ⟨h.pos, fun i hi hai hik hne => ?_, h.eq.imp id fun ⟨i, hi, hai, hik, h1⟩ => ⟨i, hi, hai, by omega, h1⟩⟩
  by_cases e : i = k
  · subst e; exact h0
  · exact h.ge i hi hai (by omega) hne
theorem IsShare.take {v all : List Nat} {wt k N D n d : Nat} (h : IsShare v all wt k N D) (hv : k < v.length) (ha : k < all.length) (hne : all[k] ≠ 0) (hd : 0 < d) (h0 : n * (all[k] * wt) = v[k] * d) (h1 : N * d ≤ n * D) : IsShare v all wt (k + 1) n d := by
  refine ⟨hd, fun i hi hai hik hne => ?_, .inr ⟨k, hv, ha, by omega, hne, h0.symm⟩⟩
  by_cases e : i = k
  · subst e; omega
  · exact frac_le h.pos (h.ge i hi hai (by omega) hne) h1
/-- two that are, are alike -/
theorem IsShare.uniq {v all : List Nat} {wt k N D N' D' : Nat} (hw : 0 < wt) (h : IsShare v all wt k N D) (h' : IsShare v all wt k N' D') : N * D' = N' * D := by
  have key : ∀ {N D N' D' : Nat}, IsShare v all wt k N D → IsShare v all wt k N' D' → N * D' ≤ N' * D := fun {N D N' D'} h h' => by
    rcases h.eq with h0 | ⟨i, hi, hai, hik, hne, he⟩
    · subst h0; simp
    · have h2 := h'.ge i hi hai hik hne
      have hp : 0 < all[i] * wt := Nat.mul_pos (by omega) hw
      exact frac_le (x := N) (y := D) (N := v[i]) (D := all[i] * wt) hp (by omega) h2
  exact Nat.le_antisymm (key h h') (key h' h)

def natL (l : List Nat) : List Int := l.map fun (n : Nat) => (n : Int)
theorem natL_len (l : List Nat) : (natL l).length = l.length := by simp [natL]
theorem nat_of : ∀ {l : List Int}, (∀ n, n ∈ l → 0 ≤ n) → ∃ m : List Nat, l = natL m
  | [], _ => ⟨[], rfl⟩
  | a :: l, h => by
    obtain ⟨m, hm⟩ := nat_of fun n hn => h n (List.mem_cons_of_mem _ hn)
    have := h a (by simp)
    exact ⟨a.toNat :: m, by simp [natL, hm]; omega⟩
theorem formed_nat {v : List Int} (h : formed v = true) : ∃ m : List Nat, v = natL m ∧ ∀ n, n ∈ m → n ≤ 1099511627776 := by
  have hall := List.all_eq_true.1 h
  obtain ⟨m, rfl⟩ := nat_of fun n hn => by have := hall n hn; simp [okN] at this; omega
  refine ⟨m, rfl, fun n hn => ?_⟩
  have := hall (n : Int) (by simp only [natL, List.mem_map]; exact ⟨n, hn, rfl⟩)
  simp [okN] at this
  omega

theorem ixa1 {n b : Nat} {k : IntKind} {i : Int} (h0 : 0 ≤ i) (hi : i < n) : ixaO n 1 (.pointer (some ⟨b, 0, none⟩)) (.int k i) = some (.pointer (some ⟨b, i.toNat, none⟩)) := by
  simp only [ixaO]
  rw [if_pos ⟨h0, hi⟩, add_lit]
  congr 4; omega
theorem cviu {k : IntKind} {n : Nat} (h : n < 18446744073709551616) : cviO .u64 (.int k (n : Int)) = some (u64 n) := by
  simp only [cviO, wrapu]
  rw [Int.emod_eq_of_lt (by omega) (by omega)]

set_option maxHeartbeats 1000000 in
theorem share_ok {v all : List Int} (hv : v.length = 4) (ha : all.length = 4) {wt : Int} (w : World) :
    Ret PR 17 #[vec v, vec all, .int .i64 wt] w (fun r w' => Ext No w w' ∧ ((errS v all wt ≠ 0 ∧ r = .tuple #[rat 0 0, .int .i64 (errS v all wt)]) ∨
      (errS v all wt = 0 ∧ ∃ N D vn an, ∃ wn : Nat, v = natL vn ∧ all = natL an ∧ wt = wn ∧ IsShare vn an wn 4 N D ∧ N < W64 ∧ D < W64 ∧ r = .tuple #[rat N D, .int .i64 0]))) := by
  suffices hs : ∀ R : Kv, (∀ w', Ext No w w' → errS v all wt ≠ 0 → R (.tuple #[rat 0 0, .int .i64 (errS v all wt)]) w') →
      (∀ w' N D vn an, ∀ wn : Nat, Ext No w w' → errS v all wt = 0 → v = natL vn → all = natL an → wt = wn → IsShare vn an wn 4 N D → N < W64 → D < W64 → R (.tuple #[rat N D, .int .i64 0]) w') → f17 (vec v) (vec all) (.int .i64 wt) w R from
    f17_ret (hs _ (fun w' he h0 => ⟨he, .inl ⟨h0, rfl⟩⟩) fun w' N D vn an wn he h0 h1 h2 h3 h4 h5 h6 => ⟨he, .inr ⟨h0, N, D, vn, an, wn, h1, h2, h3, h4, h5, h6, rfl⟩⟩)
  intro R hR0 hR
  unfold f17
  refine bx_bk fun w2 he2 hsz2 hb1 => ?_
  refine bx_bk fun w4 he4 hsz4 hb3 => ?_
  refine var_z zero48 fun w6 he6 hsz6 hb5 => ?_
  have hb1 : Bk w6 w.heap.size (enc v) 23 := (hb1.no he4).no he6
  have hb3 : Bk w6 w2.heap.size (enc all) 23 := hb3.no he6
  have hE6 : Ext No w w6 := (he2.trans he4 fun _ _ h => h).trans he6 fun _ _ h => h
  rw [hb1.all (by rw [enc_len]; exact hv)]
  have bad : ∀ e : Int, errS v all wt = e → e ≠ 0 → ∀ w', Ext No w6 w' → sv PR (Instr.build 48 #[]) w' fun v619 w620 => stW 2 (.pointer (some ⟨w4.heap.size, 0, none⟩)) v619 w620 fun w621 => lN 2 (.pointer (some ⟨w4.heap.size, 0, none⟩)) w621 fun v622 => R (.tuple #[v622, .int .i64 e]) w621 := fun e he h0 w' hx => by
    refine build_st zero48 pl48 (cells := #[u64 0, u64 0]) rfl ?_
    refine (hb5.no hx).stN rfl (by simp [Value.cells]) (by simp [oneB]) fun w11 hb11 he11 _ => ?_
    rw [ovr_all _ _ (by simp [Value.cells])] at hb11
    rw [hb11.all (n := 2) rfl]
    have := hR0 w11 ((hE6.trans hx fun _ _ h => h).trans he11 fun k hk e => by have := he2.size; have := he4.size; omega) (by rw [he]; exact h0)
    rw [he] at this
    exact this
  refine (formed_ok hv w6).mono ?_
  rintro _ w11 ⟨rfl, he11⟩
  have hb3' := hb3.no he11
  cases hfv : formed v with
  | false =>
    simp only [vs]
    exact bad 4 (by simp [errS, hfv]) (by omega) _ he11
  | true =>
  simp only [vs]
  rw [hb3'.all (by rw [enc_len]; exact ha)]
  refine (formed_ok ha w11).mono ?_
  rintro _ w16 ⟨rfl, he16⟩
  have hx16 : Ext No w6 w16 := he11.trans he16 fun _ _ h => h
  cases hfa : formed all with
  | false =>
    simp only [vs]
    exact bad 4 (by simp [errS, hfa]) (by omega) _ hx16
  | true =>
  simp only [vs, ar]
  by_cases hw1 : wt < 1
  · simp only [hw1, decide_true, vs]
    exact bad 2 (by simp [errS, hfa, hfv]; omega) (by omega) _ hx16
  by_cases hw2 : wt > 1000
  · simp only [hw1, hw2, decide_true, decide_false, vs]
    exact bad 2 (by simp [errS, hfa, hfv]; omega) (by omega) _ hx16
  simp only [hw1, hw2, decide_false, vs]
  have he0 : errS v all wt = 0 := by simp [errS, hfa, hfv]; omega
  obtain ⟨vn, rfl, hvn⟩ := formed_nat hfv
  obtain ⟨an, rfl, han⟩ := formed_nat hfa
  obtain ⟨wn, rfl⟩ : ∃ wn : Nat, wt = wn := ⟨wt.toNat, by omega⟩
  rw [natL_len] at hv ha
  refine build_st zero48 pl48 (cells := #[u64 0, u64 1]) rfl ?_
  refine var_st zero48 rfl (by rfl) (by simp [oneB]) fun w33 he33 hsz33 hbb => ?_
  have hx33 : Ext No w6 w33 := hx16.trans he33 fun _ _ h => h
  rw [(hb1.no hx33).all (by rw [enc_len, natL_len]; exact hv)]
  change Bk w33 w16.heap.size [u64 0, u64 1] 48 at hbb
  have hlt : w6.heap.size ≤ w16.heap.size := hx16.size
  have h3lt : w2.heap.size < w6.heap.size := hb3.lt
  have h5lt : w4.heap.size < w6.heap.size := hb5.lt
  refine for1 (n := 4) (by omega) (fun k w' => Ext No w6 w' ∧ ∃ N D, Bk w' w16.heap.size [u64 N, u64 D] 48 ∧ IsShare vn an wn k N D ∧ N < W64 ∧ D < W64) ⟨hx33, 0, 1, hbb, ⟨by omega, fun i _ _ h => by omega, .inl rfl⟩, by decide, by decide⟩ ?_ ?_
  · rintro k wa hk ⟨hea, N, D, hba, hI, hN, hD⟩ K hK K2 hK2
    have hkv : k < vn.length := by omega
    have hka : k < an.length := by omega
    have next : ∀ wb N D, Ext No w6 wb → Bk wb w16.heap.size [u64 N, u64 D] 48 → IsShare vn an wn (k + 1) N D → N < W64 → D < W64 → K2 () wb := fun wb N D h1 h2 h3 h4 h5 => by
      refine hK2 _ _ fun _ => ?_
      simp (disch := omega) only [ar, vs]
      exact hK _ ⟨h1, N, D, h2, h3, h4, h5⟩
    refine arr23 (by rw [natL_len]; exact hv) hk ?_
    have hb3a := hb3.no hea
    have hga : (enc (natL an))[((k : Int)).toNat]? = some (.int .i64 (an[k] : Int)) := by simp [enc_get, natL, hka]
    rw [ixa1 (by omega) (by omega)]
    simp only [vs, hb3a.l1 hga, beq_dec]
    by_cases h0 : an[k] = 0
    · rw [show decide ((an[k] : Int) = 0) = true from decide_eq_true (by omega)]
      simp only [vs]
      exact next _ N D hea hba (hI.skip hka h0) hN hD
    rw [show decide ((an[k] : Int) = 0) = false from decide_eq_false (by omega)]
    have bv := hvn _ (List.getElem_mem hkv)
    have ba := han _ (List.getElem_mem hka)
    have hgv : (natL vn)[k]'(by rw [natL_len]; exact hkv) = (vn[k] : Int) := by simp [natL]
    have hprod : an[k] * wn ≤ 1099511627776 * 1000 := Nat.mul_le_mul ba (by omega)
    have hppos : 0 < an[k] * wn := Nat.mul_pos (by omega) (by omega)
    have hm : ((an[k] : Int) * (wn : Int)) % 18446744073709551616 = ((an[k] * wn : Nat) : Int) := by
      rw [← Int.natCast_mul, Int.emod_eq_of_lt (by omega) (by omega)]
    simp only [hgv, vs, hb3a.l1 hga, cviu (show vn[k] < 18446744073709551616 by omega), cviu (show an[k] < 18446744073709551616 by omega), cviu (show wn < 18446744073709551616 by omega), u64, u64_mul, hm]
    obtain ⟨g1, g2, g3, g4⟩ := gcd_frac vn[k] (an[k] * wn) hppos
    have b64 : vn[k] < W64 ∧ an[k] * wn < W64 := by unfold W64; omega
    refine (rnew_ok b64.1 b64.2 hppos wa).mono ?_
    rintro _ wb ⟨rfl, heb⟩
    generalize vn[k] / Nat.gcd vn[k] (an[k] * wn) = n at *
    generalize an[k] * wn / Nat.gcd vn[k] (an[k] * wn) = d at *
    have hn64 : n < W64 := by unfold W64; omega
    have hd64 : d < W64 := by unfold W64; omega
    simp only [vs]
    have hE1 : Ext No w6 wb := hea.trans heb fun _ _ h => h
    have hbb1 := hba.no heb
    refine var_st zero48 rfl (by rfl) (by simp [oneB]) fun wc hec hszc hbc => ?_
    have hbc' : Bk wc wb.heap.size [u64 n, u64 d] 48 := hbc
    have hbbc := hbb1.no hec
    rw [hbc'.all (n := 2) rfl, hbbc.all (n := 2) rfl]
    refine (rcmp_ok hn64 hd64 hN hD g2 hI.pos wc).mono ?_
    rintro _ wd ⟨rfl, hed⟩
    have hE3 : Ext No w6 wd := (hE1.trans hec fun _ _ h => h).trans hed fun _ _ h => h
    simp only [vs, ar]
    by_cases hgt : N * d < n * D
    · rw [show cmpI ((n * D : Nat) : Int) ((N * d : Nat) : Int) = 1 by unfold cmpI; rw [if_neg (by omega), if_pos (by omega)]]
      simp only [vs, show decide ((1 : Int) > 0) = true from rfl, (hbc'.no hed).all (n := 2) rfl]
      refine (hbbc.no hed).stN rfl (by simp) (by simp [oneB]) fun we hbe hee _ => ?_
      rw [ovr_all _ _ (by simp)] at hbe
      exact next we n d (hE3.trans hee fun m hm e => by omega) hbe (hI.take hkv hka h0 g2 g1 (by omega)) hn64 hd64
    · have hle : decide (cmpI ((n * D : Nat) : Int) ((N * d : Nat) : Int) > 0) = false := by
        unfold cmpI
        split
        · rfl
        · rw [if_neg (by omega)]; rfl
      simp only [vs, hle]
      refine next wd N D hE3 (hbbc.no hed) (hI.keep hkv hka ?_) hN hD
      exact frac_le (x := vn[k]) (y := an[k] * wn) (N := n) (D := d) g2 (by omega) (by omega)
  · rintro wa ⟨hea, N, D, hba, hI, hN, hD⟩
    rw [hba.all (n := 2) rfl]
    refine (hb5.no hea).stN rfl (by simp [Value.cells]) (by simp [oneB]) fun wb hbb2 heb _ => ?_
    rw [ovr_all _ _ (by simp [Value.cells])] at hbb2
    rw [hbb2.all (n := 2) rfl]
    exact hR wb N D vn an wn ((hE6.trans hea fun _ _ h => h).trans heb fun m hm e => by have := he2.size; have := he4.size; omega) he0 rfl rfl rfl hI hN hD

end Go.Proofs.Ythhpdcegkbfijaa.Sh
