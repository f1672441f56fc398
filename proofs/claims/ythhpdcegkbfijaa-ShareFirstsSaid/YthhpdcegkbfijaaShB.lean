/-
  share: contracts: ratio.Cmp, New; vector.Formed, Share.
-/
import Derived.Test.YthhpdcegkbfijaaShA
namespace Go.Proofs.Ythhpdcegkbfijaa.Sh
open Go.Proofs.Ythhpdcegkbfijaa.V Go.Proofs.Ythhpdcegkbfijaa.T
set_option linter.all false
set_option maxRecDepth 100000
set_option linter.unusedVariables false
set_option linter.unusedSimpArgs false
set_option linter.unnecessarySimpa false

abbrev u64 (n : Nat) : Value := .int .u64 (n : Int)
def rat (n d : Nat) : Value := .agg #[u64 n, u64 d]
def W64 : Nat := 18446744073709551616

/-- comparing by two words -/
theorem cmp_words (a b : Nat) : orL [cmpI ((a / 18446744073709551616 : Nat) : Int) ((b / 18446744073709551616 : Nat) : Int), cmpI ((a % 18446744073709551616 : Nat) : Int) ((b % 18446744073709551616 : Nat) : Int)] = cmpI a b := by
  unfold cmpI orL orL orL
  by_cases h1 : a / 18446744073709551616 < b / 18446744073709551616
  · rw [if_pos (show ((a / 18446744073709551616 : Nat) : Int) < _ by omega), if_pos (show (a : Int) < b by omega)]; simp
  · by_cases h2 : a / 18446744073709551616 > b / 18446744073709551616
    · rw [if_neg (show ¬ ((a / 18446744073709551616 : Nat) : Int) < _ by omega), if_pos (show ((a / 18446744073709551616 : Nat) : Int) > _ by omega), if_neg (show ¬ (a : Int) < b by omega), if_pos (show (a : Int) > b by omega)]; simp
    · rw [if_neg (show ¬ ((a / 18446744073709551616 : Nat) : Int) < _ by omega), if_neg (show ¬ ((a / 18446744073709551616 : Nat) : Int) > _ by omega)]
      simp only [if_true]
      by_cases h3 : a < b
      · rw [if_pos (show ((a % 18446744073709551616 : Nat) : Int) < _ by omega), if_pos (show (a : Int) < b by omega)]; simp
      · by_cases h4 : a > b
        · rw [if_neg (show ¬ ((a % 18446744073709551616 : Nat) : Int) < _ by omega), if_pos (show ((a % 18446744073709551616 : Nat) : Int) > _ by omega), if_neg (show ¬ (a : Int) < b by omega), if_pos (show (a : Int) > b by omega)]; simp
        · rw [if_neg (show ¬ ((a % 18446744073709551616 : Nat) : Int) < _ by omega), if_neg (show ¬ ((a % 18446744073709551616 : Nat) : Int) > _ by omega), if_neg (show ¬ (a : Int) < b by omega), if_neg (show ¬ (a : Int) > b by omega)]; simp

theorem rcmp_ok {n1 d1 n2 d2 : Nat} (h1 : n1 < W64) (h2 : d1 < W64) (h3 : n2 < W64) (h4 : d2 < W64) (p1 : 0 < d1) (p2 : 0 < d2) (w : World) :
    Ret PR 32 #[rat n1 d1, rat n2 d2] w (fun r w' => r = .tuple #[.int .i64 (cmpI ((n1 * d2 : Nat) : Int) ((n2 * d1 : Nat) : Int)), .int .i64 0] ∧ Ext No w w') := by
  refine f32_ret ?_
  unfold f32
  unfold rat
  refine bx_bk fun w2 he2 _ hb2 => ?_
  refine bx_bk fun w4 he4 _ hb4 => ?_
  have hb2 := hb2.no he4
  have e1 := hb2.l1 (j := 0) (v := u64 n1) rfl
  have e2 := hb2.l1 (j := 1) (v := u64 d1) rfl
  have e3 := hb4.l1 (j := 0) (v := u64 n2) rfl
  have e4 := hb4.l1 (j := 1) (v := u64 d2) rfl
  have q1 : ((d1 : Int) == 0) = false := by simp; omega
  have q2 : ((d2 : Int) == 0) = false := by simp; omega
  simp only [vs, Nat.zero_add, e1, e2, e3, e4, q1, q2, u64]
  refine (mul_ok h1 h4 w4).mono ?_
  rintro _ w5 ⟨rfl, rfl⟩
  simp only [vs, e1, e2, e3, e4]
  refine (mul_ok h3 h2 w5).mono ?_
  rintro _ w6 ⟨rfl, rfl⟩
  simp only [vs]
  refine (cmp48 _ _ _ w6).mono ?_
  rintro _ w7 ⟨rfl, rfl⟩
  refine (cmp48 _ _ _ w7).mono ?_
  rintro _ w8 ⟨rfl, rfl⟩
  refine or_of (l := [_, _]) (by simp) (by simp) fun w9 he9 => ?_
  rw [cmp_words]
  exact ⟨rfl, (he2.trans he4 fun _ _ h => h).trans he9 fun _ _ h => h⟩

theorem gcd_ok {a b : Nat} (ha : a < W64) (hb : b < W64) (w : World) : Ret PR 66 #[u64 a, u64 b] w (fun r w' => r = u64 (Nat.gcd a b) ∧ Ext No w w') := by
  refine f66_ret ?_
  unfold f66
  refine loopG (Γ := Nat × Nat) (fun γ x w' => x = (u64 γ.1, u64 γ.2) ∧ Nat.gcd γ.1 γ.2 = Nat.gcd a b ∧ γ.1 < W64 ∧ γ.2 < W64 ∧ Ext No w w') (fun γ => γ.2) (a, b) ⟨rfl, rfl, ha, hb, Ext.refl _ _⟩ ?_
  rintro ⟨x, y⟩ _ wa ⟨rfl, hg, hx, hy, he⟩ K hK _
  simp only at hg hx hy
  simp only [u64, vs, beq_dec]
  by_cases h0 : y = 0
  · subst h0
    simp only [Int.natCast_zero, decide_true, vs]
    rw [Nat.gcd_zero_right] at hg
    exact ⟨by rw [hg], he⟩
  · rw [show decide ((y : Int) = 0) = false from decide_eq_false (by omega)]
    simp only [vs, u64_rem (show (0 : Int) ≤ (x : Int) by omega) (show (0 : Int) < (y : Int) by omega)]
    refine hK (y, x % y) _ _ ⟨rfl, ?_, hy, Nat.lt_of_lt_of_le (Nat.mod_lt _ (by omega)) (Nat.le_of_lt hy), he.drew⟩ (Nat.mod_lt _ (by omega))
    show Nat.gcd y (x % y) = _
    rw [Nat.gcd_comm y, ← Nat.gcd_rec, Nat.gcd_comm]; exact hg

theorem zero48 : (PR.info? 48).map (fun i => i.zero) = some (some (.agg #[.int .u64 0, .int .u64 0])) := by kernel_rfl
theorem pl48 : placesO PR 48 = some ([(0, 1), (1, 1)].map fun p => (p.1, some p.2)) := by kernel_rfl

theorem low_ok {n d : Nat} (hn : n < W64) (hd : d < W64) (h0 : 0 < d) (w : World) : Ret PR 45 #[u64 n, u64 d] w (fun r w' => r = rat (n / Nat.gcd n d) (d / Nat.gcd n d) ∧ Ext No w w') := by
  refine f45_ret ?_
  unfold f45
  refine var_z zero48 fun w2 he2 hsz2 hb2 => ?_
  refine (gcd_ok hn hd w2).mono ?_
  rintro _ w5 ⟨rfl, he5⟩
  have hg : 0 < Nat.gcd n d := Nat.gcd_pos_of_pos_right n h0
  unfold W64 at hn hd
  simp only [vs, u64, u64_quo (show (0 : Int) ≤ (n : Int) by omega) (by omega) (show (0 : Int) < ((Nat.gcd n d : Nat) : Int) by omega), u64_quo (show (0 : Int) ≤ (d : Int) by omega) (by omega) (show (0 : Int) < ((Nat.gcd n d : Nat) : Int) by omega)]
  refine build_st zero48 pl48 (cells := #[u64 (n / Nat.gcd n d), u64 (d / Nat.gcd n d)]) rfl ?_
  have hb5 := (hb2.no he5).no (Ext.refl No w5).drew
  refine hb5.stN rfl (by simp [Value.cells]) (by simp [oneB]) fun w11 hb11 he11 _ => ?_
  rw [ovr_all _ _ (by simp [Value.cells])] at hb11
  rw [hb11.all (n := 2) rfl]
  refine ⟨rfl, ((he2.trans he5 fun _ _ h => h).drew).trans he11 fun k hk e => by omega⟩

theorem rnew_ok {n d : Nat} (hn : n < W64) (hd : d < W64) (h0 : 0 < d) (w : World) : Ret PR 31 #[u64 n, u64 d] w (fun r w' => r = .tuple #[rat (n / Nat.gcd n d) (d / Nat.gcd n d), .int .i64 0] ∧ Ext No w w') := by
  refine f31_ret ?_
  unfold f31
  refine var_z zero48 fun w2 he2 hsz2 hb2 => ?_
  have q1 : ((d : Int) == 0) = false := by simp; omega
  simp only [vs, u64, q1]
  refine (low_ok hn hd h0 w2).mono ?_
  rintro _ w5 ⟨rfl, he5⟩
  have hb5 := hb2.no he5
  refine hb5.stN rfl (by simp [Value.cells]) (by simp [oneB]) fun w11 hb11 he11 _ => ?_
  rw [ovr_all _ _ (by simp [Value.cells])] at hb11
  rw [hb11.all (n := 2) rfl]
  exact ⟨rfl, (he2.trans he5 fun _ _ h => h).trans he11 fun k hk e => by omega⟩

end Go.Proofs.Ythhpdcegkbfijaa.Sh
