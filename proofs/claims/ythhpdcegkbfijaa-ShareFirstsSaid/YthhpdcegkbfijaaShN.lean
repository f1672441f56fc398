/-
  share: contracts of the reference: over, New, Share, before.
-/
import Derived.Test.YthhpdcegkbfijaaShM
namespace Go.Proofs.Ythhpdcegkbfijaa.Sh
open Go.Proofs.Ythhpdcegkbfijaa.V Go.Proofs.Ythhpdcegkbfijaa.T
set_option linter.all false
set_option maxRecDepth 100000
set_option linter.unusedVariables false
set_option linter.unusedSimpArgs false
set_option linter.unnecessarySimpa false

abbrev i64n (n : Nat) : Value := .int .i64 (n : Int)
theorem i64n_quo {n : Nat} (h : n ≤ 9223372036854775807) : arithO .quo (i64n n) (.int .i64 1048576) = some (i64n (n / 1048576)) := by
  unfold i64n
  have h1 : (n : Int).tdiv 1048576 = ((n / 1048576 : Nat) : Int) := by rw [Int.tdiv_eq_ediv_of_nonneg (by omega)]; rfl
  simp only [arithO]
  rw [if_pos ⟨by trivial, by omega⟩, h1, wrap64' (by omega) (by omega)]
theorem i64n_rem {n : Nat} : arithO .rem (i64n n) (.int .i64 1048576) = some (i64n (n % 1048576)) := by
  unfold i64n
  have h1 : (n : Int).tmod 1048576 = ((n % 1048576 : Nat) : Int) := by rw [Int.tmod_eq_emod_of_nonneg (by omega)]; rfl
  simp only [arithO]
  rw [if_pos ⟨by trivial, by omega⟩, h1]
theorem i64n_mul {a b : Nat} (ha : a ≤ 1048576) (hb : b ≤ 1048576) : arithO .mul (i64n a) (i64n b) = some (i64n (a * b)) := by
  unfold i64n
  have h : a * b ≤ 1048576 * 1048576 := Nat.mul_le_mul ha hb
  have e : (a : Int) * (b : Int) = ((a * b : Nat) : Int) := by simp
  simp only [arithO]
  rw [if_pos (by trivial), e, wrap64' (by omega) (by omega)]
theorem i64n_add {a b : Nat} (h : a + b ≤ 9223372036854775807) : arithO .add (i64n a) (i64n b) = some (i64n (a + b)) := by
  unfold i64n
  have e : (a : Int) + (b : Int) = ((a + b : Nat) : Int) := by simp
  simp only [arithO]
  rw [if_pos (by trivial), e, wrap64' (by omega) (by omega)]
theorem i64_ne {a b : Nat} : (!((a : Int) == (b : Int))) = decide (a ≠ b) := by
  by_cases h : a = b
  · subst h; simp
  · rw [show ((a : Int) == (b : Int)) = false by simp; omega, decide_eq_true h]; rfl

theorem halves (a b : Nat) : a * b = 1048576 * (1048576 * (a / 1048576 * (b / 1048576)) + (a / 1048576 * (b % 1048576) + a % 1048576 * (b / 1048576))) + a % 1048576 * (b % 1048576) := by
  have ha : a = 1048576 * (a / 1048576) + a % 1048576 := by omega
  have hb : b = 1048576 * (b / 1048576) + b % 1048576 := by omega
  generalize a / 1048576 = p at *
  generalize a % 1048576 = q at *
  generalize b / 1048576 = r at *
  generalize b % 1048576 = s at *
  subst ha hb
  grind
theorem zero108 : (PR.info? 108).map (fun i => i.zero) = some (some (.agg #[.int .i64 0, .int .i64 0, .int .i64 0])) := by kernel_rfl

theorem over_ok {a b c d : Nat} (ha : a ≤ 1099511627776) (hb : b ≤ 1099511627776) (hc : c ≤ 1099511627776) (hd : d ≤ 1099511627776) (w : World) :
    Ret PR 41 #[i64n a, i64n b, i64n c, i64n d] w (fun r w' => r = .bool (decide (a * b > c * d)) ∧ Ext No w w') := by
  suffices hs : ∀ R : Kv, (∀ w', Ext No w w' → R (.bool (decide (a * b > c * d))) w') → f41 (i64n a) (i64n b) (i64n c) (i64n d) w R from f41_ret (hs _ fun w' he => ⟨rfl, he⟩)
  intro R hR
  unfold f41
  have h1 := halves a b
  have h2 := halves c d
  have bd : ∀ {x y : Nat}, x ≤ 1048576 → y ≤ 1048576 → x * y ≤ 1048576 * 1048576 := fun h h' => Nat.mul_le_mul h h'
  have a1 := bd (show a / 1048576 ≤ 1048576 by omega) (show b / 1048576 ≤ 1048576 by omega)
  have a2 := bd (show a / 1048576 ≤ 1048576 by omega) (show b % 1048576 ≤ 1048576 by omega)
  have a3 := bd (show a % 1048576 ≤ 1048576 by omega) (show b / 1048576 ≤ 1048576 by omega)
  have a4 := bd (show a % 1048576 ≤ 1048576 by omega) (show b % 1048576 ≤ 1048576 by omega)
  have c1 := bd (show c / 1048576 ≤ 1048576 by omega) (show d / 1048576 ≤ 1048576 by omega)
  have c2 := bd (show c / 1048576 ≤ 1048576 by omega) (show d % 1048576 ≤ 1048576 by omega)
  have c3 := bd (show c % 1048576 ≤ 1048576 by omega) (show d / 1048576 ≤ 1048576 by omega)
  have c4 := bd (show c % 1048576 ≤ 1048576 by omega) (show d % 1048576 ≤ 1048576 by omega)
  simp (disch := omega) only [i64n_quo, i64n_rem, i64n_mul, vs]
  generalize a / 1048576 * (b / 1048576) = x0 at *
  generalize a / 1048576 * (b % 1048576) = x1 at *
  generalize a % 1048576 * (b / 1048576) = x1' at *
  generalize a % 1048576 * (b % 1048576) = x2 at *
  generalize c / 1048576 * (d / 1048576) = y0 at *
  generalize c / 1048576 * (d % 1048576) = y1 at *
  generalize c % 1048576 * (d / 1048576) = y1' at *
  generalize c % 1048576 * (d % 1048576) = y2 at *
  simp (disch := omega) only [i64n_add, vs]
  refine build_arr (sz := 1) zero108 Try.underlying108 (by kernel_rfl) (cells := #[i64n x0, i64n (x1 + x1'), i64n x2]) rfl ?_
  refine var_st zero108 rfl (by rfl) (by simp [oneB]) fun wa hea hsa hba => ?_
  refine build_arr (sz := 1) zero108 Try.underlying108 (by kernel_rfl) (cells := #[i64n y0, i64n (y1 + y1'), i64n y2]) rfl ?_
  refine var_st zero108 rfl (by rfl) (by simp [oneB]) fun wb heb hsb hbb => ?_
  have hba : Bk wb w.heap.size [i64n x0, i64n (x1 + x1'), i64n x2] 108 := (show Bk wa w.heap.size _ 108 from hba).no heb
  have hbb : Bk wb wa.heap.size [i64n y0, i64n (y1 + y1'), i64n y2] 108 := hbb
  have hne : w.heap.size ≠ wa.heap.size := by omega
  have hE : Ext No w wb := hea.tr heb
  have i0 : ∀ g, ixaO 3 1 (.pointer (some ⟨g, 0, none⟩)) (.int .i64 0) = some (.pointer (some ⟨g, 0, none⟩)) := fun g => ixa1 (n := 3) (by omega) (by omega)
  have i1 : ∀ g, ixaO 3 1 (.pointer (some ⟨g, 0, none⟩)) (.int .i64 1) = some (.pointer (some ⟨g, 1, none⟩)) := fun g => ixa1 (n := 3) (by omega) (by omega)
  have i2 : ∀ g, ixaO 3 1 (.pointer (some ⟨g, 0, none⟩)) (.int .i64 2) = some (.pointer (some ⟨g, 2, none⟩)) := fun g => ixa1 (n := 3) (by omega) (by omega)
  simp (disch := omega) only [i0, i1, i2, vs, hba.l1 (j := 1) rfl, hba.l1 (j := 2) rfl, i64n_quo, i64n_add]
  refine hba.st1 (by show _ < 3; omega) rfl rfl fun wc hac hec _ => ?_
  have hac : Bk wc w.heap.size [i64n x0, i64n (x1 + x1' + x2 / 1048576), i64n x2] 108 := hac
  have hbc := hbb.ext hec (fun e => hne e.symm)
  simp (disch := omega) only [i0, i1, i2, vs, hbc.l1 (j := 1) rfl, hbc.l1 (j := 2) rfl, i64n_quo, i64n_add]
  refine hbc.st1 (by show _ < 3; omega) rfl rfl fun wd hbd hed _ => ?_
  have hbd : Bk wd wa.heap.size [i64n y0, i64n (y1 + y1' + y2 / 1048576), i64n y2] 108 := hbd
  have had := hac.ext hed hne
  simp (disch := omega) only [i0, i1, i2, vs, had.l1 (j := 0) rfl, had.l1 (j := 1) rfl, i64n_quo, i64n_add]
  refine had.st1 (by show _ < 3; omega) rfl rfl fun we hae hee _ => ?_
  have hae : Bk we w.heap.size [i64n (x0 + (x1 + x1' + x2 / 1048576) / 1048576), i64n (x1 + x1' + x2 / 1048576), i64n x2] 108 := hae
  have hbe := hbd.ext hee (fun e => hne e.symm)
  simp (disch := omega) only [i0, i1, i2, vs, hbe.l1 (j := 0) rfl, hbe.l1 (j := 1) rfl, i64n_quo, i64n_add]
  refine hbe.st1 (by show _ < 3; omega) rfl rfl fun wf hbf hef _ => ?_
  have hbf : Bk wf wa.heap.size [i64n (y0 + (y1 + y1' + y2 / 1048576) / 1048576), i64n (y1 + y1' + y2 / 1048576), i64n y2] 108 := hbf
  have haf := hae.ext hef hne
  simp only [i0, i1, i2, vs, haf.l1 (j := 0) rfl, hbf.l1 (j := 0) rfl, haf.l1 (j := 1) rfl, hbf.l1 (j := 1) rfl, haf.l1 (j := 2) rfl, hbf.l1 (j := 2) rfl, i64n_rem, i64_ne, ar]
  have hl1 : w.heap.size < wb.heap.size := hba.lt
  have hlast := hR wf ((((hE.trans hec fun m hm e => by omega).trans hed fun m hm e => by omega).trans hee fun m hm e => by omega).trans hef fun m hm e => by omega)
  rw [h1, h2] at hlast
  generalize hX : x0 + (x1 + x1' + x2 / 1048576) / 1048576 = X0 at *
  generalize hY : y0 + (y1 + y1' + y2 / 1048576) / 1048576 = Y0 at *
  by_cases k0 : X0 = Y0
  case neg =>
    rw [show decide (X0 ≠ Y0) = true from decide_eq_true k0]
    simp only [vs]
    by_cases k : X0 > Y0
    · rw [decide_eq_true (by omega)] at hlast ⊢; exact hlast
    · rw [decide_eq_false (by omega)] at hlast ⊢; exact hlast
  rw [show decide (X0 ≠ Y0) = false from decide_eq_false fun h => h k0]
  simp only [vs]
  by_cases k1 : (x1 + x1' + x2 / 1048576) % 1048576 = (y1 + y1' + y2 / 1048576) % 1048576
  case neg =>
    rw [show decide (_ ≠ _) = true from decide_eq_true k1]
    simp only [vs]
    by_cases k : (x1 + x1' + x2 / 1048576) % 1048576 > (y1 + y1' + y2 / 1048576) % 1048576
    · rw [decide_eq_true (by omega)] at hlast ⊢; exact hlast
    · rw [decide_eq_false (by omega)] at hlast ⊢; exact hlast
  rw [show decide (_ ≠ _) = false from decide_eq_false fun h => h k1]
  simp only [vs]
  by_cases k : x2 % 1048576 > y2 % 1048576
  · rw [decide_eq_true (by omega)] at hlast ⊢; exact hlast
  · rw [decide_eq_false (by omega)] at hlast ⊢; exact hlast

/-! ### New, Share -/
/-- the same share, in other numbers -/
theorem IsShare.same {v all : List Nat} {wt k N D n d : Nat} (h : IsShare v all wt k N D) (hd : 0 < d) (he : n * D = N * d) : IsShare v all wt k n d := by
  refine ⟨hd, fun i hi ha hik h0 => ?_, ?_⟩
  · have h1 := h.ge i hi ha hik h0
    refine Nat.le_of_mul_le_mul_right (c := D) ?_ h.pos
    calc v[i] * d * D = v[i] * D * d := Nat.mul_right_comm _ _ _
      _ ≤ N * (all[i] * wt) * d := Nat.mul_le_mul_right _ h1
      _ = n * (all[i] * wt) * D := by rw [Nat.mul_right_comm N, ← he, Nat.mul_right_comm]
  · rcases h.eq with h1 | ⟨i, hi, ha, hik, h0, h1⟩
    · subst h1
      rw [Nat.zero_mul] at he
      exact .inl ((Nat.mul_eq_zero.1 he).resolve_right (by have := h.pos; omega))
    · refine .inr ⟨i, hi, ha, hik, h0, ?_⟩
      refine Nat.eq_of_mul_eq_mul_right h.pos ?_
      calc v[i] * d * D = v[i] * D * d := Nat.mul_right_comm _ _ _
        _ = N * (all[i] * wt) * d := by rw [h1]
        _ = n * (all[i] * wt) * D := by rw [Nat.mul_right_comm N, ← he, Nat.mul_right_comm]

theorem zero64 : (PR.info? 64).map (fun i => i.zero) = some (some (.agg #[.int .u64 0, .int .u64 0])) := by kernel_rfl
theorem pl64 : placesO PR 64 = some ([(0, 1), (1, 1)].map fun p => (p.1, some p.2)) := by kernel_rfl

theorem rnew2_ok {n d : Nat} (hn : n < W64) (hd : d < W64) (h0 : 0 < d) (w : World) : Ret PR 42 #[u64 n, u64 d] w (fun r w' => r = .tuple #[rat (n / Nat.gcd n d) (d / Nat.gcd n d), .int .i64 0] ∧ Ext No w w') := by
  suffices hs : ∀ R : Kv, (∀ w', Ext No w w' → R (.tuple #[rat (n / Nat.gcd n d) (d / Nat.gcd n d), .int .i64 0]) w') → f42 (u64 n) (u64 d) w R from f42_ret (hs _ fun w' he => ⟨rfl, he⟩)
  intro R hR
  unfold f42
  refine var_z zero64 fun w2 he2 hsz2 hb2 => ?_
  have q1 : ((d : Int) == 0) = false := by simp; omega
  simp only [vs, u64, q1]
  refine loopG (Γ := Nat × Nat) (fun γ x w' => x = (u64 γ.1, u64 γ.2) ∧ Nat.gcd γ.1 γ.2 = Nat.gcd n d ∧ γ.1 < W64 ∧ γ.2 < W64 ∧ Ext No w2 w') (fun γ => γ.2) (n, d) ⟨rfl, rfl, hn, hd, Ext.refl _ _⟩ ?_
  rintro ⟨x, y⟩ _ wa ⟨rfl, hg, hx, hy, he⟩ K hK _
  simp only at hg hx hy
  simp only [u64, vs, beq_dec]
  by_cases hz : y = 0
  · subst hz
    simp only [Int.natCast_zero, decide_true, vs]
    rw [Nat.gcd_zero_right] at hg
    subst hg
    have hgp : 0 < Nat.gcd n d := Nat.gcd_pos_of_pos_right n h0
    unfold W64 at hn hd
    simp only [vs, u64_quo (show (0 : Int) ≤ (n : Int) by omega) (by omega) (show (0 : Int) < ((Nat.gcd n d : Nat) : Int) by omega), u64_quo (show (0 : Int) ≤ (d : Int) by omega) (by omega) (show (0 : Int) < ((Nat.gcd n d : Nat) : Int) by omega)]
    refine build_st zero64 pl64 (cells := #[u64 (n / Nat.gcd n d), u64 (d / Nat.gcd n d)]) rfl ?_
    have hb5 := hb2.no he.drew
    refine hb5.stN rfl (by simp [Value.cells]) (by simp [oneB]) fun w11 hb11 he11 _ => ?_
    rw [ovr_all _ _ (by simp [Value.cells])] at hb11
    rw [hb11.all (n := 2) rfl]
    exact hR _ ((he2.tr he.drew).trans he11 fun k hk e => by omega)
  · rw [show decide ((y : Int) = 0) = false from decide_eq_false (by omega)]
    simp only [vs, u64_rem (show (0 : Int) ≤ (x : Int) by omega) (show (0 : Int) < (y : Int) by omega), Bool.not_false]
    refine hK (y, x % y) _ _ ⟨rfl, ?_, hy, Nat.lt_of_lt_of_le (Nat.mod_lt _ (by omega)) (Nat.le_of_lt hy), he⟩ (Nat.mod_lt _ (by omega))
    show Nat.gcd y (x % y) = _
    rw [Nat.gcd_comm y, ← Nat.gcd_rec, Nat.gcd_comm]; exact hg

theorem share2_ok {v all : List Int} (hv : v.length = 4) (ha : all.length = 4) {wt : Int} (w : World) :
    Ret PR 26 #[vec v, vec all, .int .i64 wt] w (fun r w' => Ext No w w' ∧ ((errS v all wt ≠ 0 ∧ r = .tuple #[rat 0 0, .int .i64 (errS v all wt)]) ∨
      (errS v all wt = 0 ∧ ∃ N D vn an, ∃ wn : Nat, v = natL vn ∧ all = natL an ∧ wt = wn ∧ IsShare vn an wn 4 N D ∧ N < W64 ∧ D < W64 ∧ r = .tuple #[rat N D, .int .i64 0]))) := by
  suffices hs : ∀ R : Kv, (∀ w', Ext No w w' → errS v all wt ≠ 0 → R (.tuple #[rat 0 0, .int .i64 (errS v all wt)]) w') →
      (∀ w' N D vn an, ∀ wn : Nat, Ext No w w' → errS v all wt = 0 → v = natL vn → all = natL an → wt = wn → IsShare vn an wn 4 N D → N < W64 → D < W64 → R (.tuple #[rat N D, .int .i64 0]) w') → f26 (vec v) (vec all) (.int .i64 wt) w R from
    f26_ret (hs _ (fun w' he h0 => ⟨he, .inl ⟨h0, rfl⟩⟩) fun w' N D vn an wn he h0 h1 h2 h3 h4 h5 h6 => ⟨he, .inr ⟨h0, N, D, vn, an, wn, h1, h2, h3, h4, h5, h6, rfl⟩⟩)
  intro R hR0 hR
  unfold f26
  refine bx_bk fun w2 he2 hsz2 hb1 => ?_
  refine bx_bk fun w4 he4 hsz4 hb3 => ?_
  refine var_z zero64 fun w6 he6 hsz6 hb5 => ?_
  have hb1 : Bk w6 w.heap.size (enc v) 23 := (hb1.no he4).no he6
  have hb3 : Bk w6 w2.heap.size (enc all) 23 := hb3.no he6
  have hE6 : Ext No w w6 := (he2.trans he4 fun _ _ h => h).trans he6 fun _ _ h => h
  rw [hb1.all (by rw [enc_len]; exact hv)]
  have bad : ∀ e : Int, errS v all wt = e → e ≠ 0 → ∀ w', Ext No w6 w' → sv PR (Instr.build 64 #[]) w' fun v619 w620 => stW 2 (.pointer (some ⟨w4.heap.size, 0, none⟩)) v619 w620 fun w621 => lN 2 (.pointer (some ⟨w4.heap.size, 0, none⟩)) w621 fun v622 => R (.tuple #[v622, .int .i64 e]) w621 := fun e he h0 w' hx => by
    refine build_st zero64 pl64 (cells := #[u64 0, u64 0]) rfl ?_
    refine (hb5.no hx).stN rfl (by simp [Value.cells]) (by simp [oneB]) fun w11 hb11 he11 _ => ?_
    rw [ovr_all _ _ (by simp [Value.cells])] at hb11
    rw [hb11.all (n := 2) rfl]
    have := hR0 w11 ((hE6.trans hx fun _ _ h => h).trans he11 fun k hk e => by have := he2.size; have := he4.size; omega) (by rw [he]; exact h0)
    rw [he] at this
    exact this
  refine (formedR_ok hv w6).mono ?_
  rintro _ w11 ⟨rfl, he11⟩
  have hb3' := hb3.no he11
  cases hfv : formed v with
  | false =>
    simp only [vs]
    exact bad 4 (by simp [errS, hfv]) (by omega) _ he11
  | true =>
  simp only [vs]
  rw [hb3'.all (by rw [enc_len]; exact ha)]
  refine (formedR_ok ha w11).mono ?_
  rintro _ w16 ⟨rfl, he16⟩
  have hx16 : Ext No w6 w16 := he11.trans he16 fun _ _ h => h
  cases hfa : formed all with
  | false =>
    simp only [vs]
    exact bad 4 (by simp [errS, hfa]) (by omega) _ hx16
  | true =>
  simp only [vs, ar]
  by_cases hw1 : wt < 1
  · simp only [hw1, decide_true, vs]
    exact bad 2 (by simp [errS, hfa, hfv]; omega) (by omega) _ hx16
  by_cases hw2 : wt > 1000
  · simp only [hw1, hw2, decide_true, decide_false, vs]
    exact bad 2 (by simp [errS, hfa, hfv]; omega) (by omega) _ hx16
  simp only [hw1, hw2, decide_false, vs]
  have he0 : errS v all wt = 0 := by simp [errS, hfa, hfv]; omega
  obtain ⟨vn, rfl, hvn⟩ := formed_nat hfv
  obtain ⟨an, rfl, han⟩ := formed_nat hfa
  obtain ⟨wn, rfl⟩ : ∃ wn : Nat, wt = wn := ⟨wt.toNat, by omega⟩
  rw [natL_len] at hv ha
  have hwn : 0 < wn := by omega
  have h5lt : w4.heap.size < w6.heap.size := hb5.lt
  refine loopG (Γ := Nat × Nat × Nat) (fun γ x w' => x = (i64n γ.1, i64n γ.2.1, i64n γ.2.2) ∧ γ.2.2 ≤ 4 ∧ γ.1 ≤ 1099511627776 ∧ γ.2.1 ≤ 1099511627776 ∧ 0 < γ.2.1 ∧ IsShare vn an wn γ.2.2 γ.1 (γ.2.1 * wn) ∧ Ext No w6 w') (fun γ => 4 - γ.2.2) (0, 1, 0)
    ⟨rfl, by decide, by decide, by decide, by decide, ⟨by simpa using hwn, fun i _ _ h => absurd h (Nat.not_lt_zero i), .inl rfl⟩, hx16⟩ ?_
  rintro ⟨N, D, k⟩ _ wa ⟨rfl, hk, hN, hD, hD0, hI, hea⟩ K hK _
  simp only at hk hN hD hD0 hI
  simp only [ar, vs]
  by_cases hlt : k < 4
  · rw [show decide ((k : Int) < 4) = true from decide_eq_true (by omega)]
    simp only [vs]
    have hkv : k < vn.length := by omega
    have hka : k < an.length := by omega
    intro K2 hK2
    have next : ∀ wb N D, N ≤ 1099511627776 → D ≤ 1099511627776 → 0 < D → Ext No w6 wb → IsShare vn an wn (k + 1) N (D * wn) → K2 (i64n N, i64n D) wb := fun wb N D g1 g2 g3 g4 g5 => by
      refine hK2 _ _ fun _ => ?_
      simp (disch := omega) only [ar, vs]
      exact hK (N, D, k + 1) _ _ ⟨by simp, by show k + 1 ≤ 4; omega, g1, g2, g3, g5, g4⟩ (by show 4 - (k + 1) < 4 - k; omega)
    have hb3a := hb3.no hea
    have hb1a := hb1.no hea
    have hga : (enc (natL an))[k]? = some (.int .i64 (an[k] : Int)) := by simp [enc_get, natL, hka]
    have hgv : (enc (natL vn))[k]? = some (.int .i64 (vn[k] : Int)) := by simp [enc_get, natL, hkv]
    simp only [ixa1 (n := 4) (b := w2.heap.size) (k := .i64) (show (0 : Int) ≤ (k : Int) by omega) (show (k : Int) < (4 : Nat) by omega), ixa1 (n := 4) (b := w.heap.size) (k := .i64) (show (0 : Int) ≤ (k : Int) by omega) (show (k : Int) < (4 : Nat) by omega), Int.toNat_natCast, vs, hb3a.l1 hga, beq_dec]
    by_cases h0 : an[k] = 0
    · rw [show decide ((an[k] : Int) = 0) = true from decide_eq_true (by omega)]
      simp only [vs]
      exact next _ N D hN hD hD0 hea (hI.skip hka h0)
    rw [show decide ((an[k] : Int) = 0) = false from decide_eq_false (by omega)]
    have bv := hvn _ (List.getElem_mem hkv)
    have ba := han _ (List.getElem_mem hka)
    have hdr : Ext No wa wa.drew := (Ext.refl No wa).drew
    simp only [vs, (hb1a.no hdr).l1 hgv, (hb3a.no hdr).l1 hga]
    refine (over_ok bv hD hN ba _).mono ?_
    rintro _ wb ⟨rfl, heb⟩
    have hxb := (hea.tr hdr).tr heb
    have mle : an[k] * wn = an[k] * wn := rfl
    by_cases hgt : vn[k] * D > N * an[k]
    · rw [decide_eq_true hgt]
      simp only [vs, ((hb1a.no hdr).no heb).l1 hgv, ((hb3a.no hdr).no heb).l1 hga]
      refine next _ vn[k] an[k] bv ba (by omega) hxb (hI.take hkv hka h0 (Nat.mul_pos (by omega) hwn) rfl ?_)
      rw [← Nat.mul_assoc, ← Nat.mul_assoc]
      exact Nat.mul_le_mul_right _ (Nat.le_of_lt hgt)
    · rw [decide_eq_false hgt]
      simp only [vs]
      refine next _ N D hN hD hD0 hxb (hI.keep hkv hka ?_)
      rw [← Nat.mul_assoc, ← Nat.mul_assoc]
      exact Nat.mul_le_mul_right _ (Nat.le_of_not_lt hgt)
  · rw [show decide ((k : Int) < 4) = false from decide_eq_false (by omega)]
    simp only [vs]
    obtain rfl : k = 4 := by omega
    have hprod : D * wn ≤ 1099511627776 * 1000 := Nat.mul_le_mul hD (by omega)
    have hm : ((D : Int) * (wn : Int)) % 18446744073709551616 = ((D * wn : Nat) : Int) := by
      rw [← Int.natCast_mul, Int.emod_eq_of_lt (by omega) (by omega)]
    simp only [cviu (show N < 18446744073709551616 by omega), cviu (show D < 18446744073709551616 by omega), cviu (show wn < 18446744073709551616 by omega), vs, u64, u64_mul, hm]
    have hpos : 0 < D * wn := Nat.mul_pos hD0 hwn
    obtain ⟨g1, g2, g3, g4⟩ := gcd_frac N (D * wn) hpos
    have b64 : N < W64 ∧ D * wn < W64 := by unfold W64; omega
    refine (rnew2_ok b64.1 b64.2 hpos wa).mono ?_
    rintro _ wb ⟨rfl, heb⟩
    generalize N / Nat.gcd N (D * wn) = n at *
    generalize D * wn / Nat.gcd N (D * wn) = d at *
    simp only [vs]
    refine (hb5.no (hea.tr heb)).stN rfl (by simp [Value.cells]) (by simp [oneB]) fun wc hbc hec _ => ?_
    rw [ovr_all _ _ (by simp [Value.cells])] at hbc
    rw [hbc.all (n := 2) rfl]
    refine hR wc n d vn an wn ((hE6.tr (hea.tr heb)).trans hec fun m hm e => by have := he2.size; have := he4.size; omega) he0 rfl rfl rfl (hI.same g2 g1) (by unfold W64; omega) (by unfold W64; omega)

end Go.Proofs.Ythhpdcegkbfijaa.Sh
