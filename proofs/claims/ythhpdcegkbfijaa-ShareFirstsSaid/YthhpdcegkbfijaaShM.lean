/-
  share: contracts of the reference's numbers of 256 bits: Of, plus, up, Times, Compare; Cmp.
-/
import Derived.Test.YthhpdcegkbfijaaShL
namespace Go.Proofs.Ythhpdcegkbfijaa.Sh
open Go.Proofs.Ythhpdcegkbfijaa.V Go.Proofs.Ythhpdcegkbfijaa.T
set_option linter.all false
set_option maxRecDepth 100000
set_option linter.unusedVariables false
set_option linter.unusedSimpArgs false
set_option linter.unnecessarySimpa false

def bits (f : Nat → Bool) : List Value := (List.range 256).map fun i => .bool (f i)
theorem bits_len (f : Nat → Bool) : (bits f).length = 256 := by unfold bits; rw [List.length_map, List.length_range]
theorem bits_size (f : Nat → Bool) : (bits f).toArray.size = 256 := bits_len f
theorem bits_get (f : Nat → Bool) {i : Nat} (h : i < 256) : (bits f)[i]? = some (.bool (f i)) := by
  unfold bits; rw [List.getElem?_map, List.getElem?_range h]; rfl
theorem bits_congr {f g : Nat → Bool} (h : ∀ i, i < 256 → f i = g i) : bits f = bits g := by
  unfold bits
  refine List.map_congr_left fun i hi => ?_
  rw [h i (List.mem_range.1 hi)]
theorem bits_set (f : Nat → Bool) (k : Nat) (b : Bool) : (bits f).set k (.bool b) = bits (fun i => if i = k then b else f i) := by
  refine List.ext_getElem? fun i => ?_
  by_cases hi : i < 256
  · rw [bits_get _ hi, List.getElem?_set]
    by_cases hk : k = i
    · subst hk
      rw [if_pos rfl, if_pos (by rw [bits_len]; exact hi), if_pos rfl]
    · rw [if_neg hk, bits_get _ hi, if_neg (by omega)]
  · rw [List.getElem?_eq_none (by rw [List.length_set, bits_len]; omega), List.getElem?_eq_none (by rw [bits_len]; omega)]
theorem bits_one (f : Nat → Bool) : ∀ u, u ∈ (bits f).toArray.toList → oneB u = true := by
  intro u hu
  simp only [bits, List.mem_map] at hu
  obtain ⟨i, _, rfl⟩ := hu
  rfl
theorem zero111 : (PR.info? 111).map (fun i => i.zero) = some (some (.agg (bits fun _ => false).toArray)) := by kernel_rfl
attribute [irreducible] bits
def big (n : Nat) : Value := .agg (bits n.testBit).toArray
def Big256 : Nat := 115792089237316195423570985008687907853269984665640564039457584007913129639936
theorem big256 : Big256 = 2 ^ 256 := by decide

/-! ### comparing -/
theorem lt_of_bit {a b k : Nat} (ha : a.testBit k = false) (hb : b.testBit k = true) (h : ∀ j, k + 1 ≤ j → a.testBit j = b.testBit j) : a < b := by
  have e : a / 2 ^ (k + 1) = b / 2 ^ (k + 1) := Nat.eq_of_testBit_eq fun j => by
    rw [Nat.testBit_div_two_pow, Nat.testBit_div_two_pow]; exact h _ (by omega)
  rw [Nat.testBit_eq_decide_div_mod_eq] at ha hb
  have ha := of_decide_eq_false ha
  have hb := of_decide_eq_true hb
  rw [Nat.pow_succ, ← Nat.div_div_eq_div_mul, ← Nat.div_div_eq_div_mul] at e
  refine Nat.lt_of_not_le fun hle => ?_
  have := Nat.div_le_div_right (c := 2 ^ k) hle
  omega

theorem bcmp_ok {a b : Nat} (ha : a < 2 ^ 256) (hb : b < 2 ^ 256) (w : World) : Ret PR 63 #[big a, big b] w (fun r w' => r = .int .i64 (cmpI (a : Int) (b : Int)) ∧ Ext No w w') := by
  suffices hs : ∀ R : Kv, (∀ w', Ext No w w' → R (.int .i64 (cmpI (a : Int) (b : Int))) w') → f63 (big a) (big b) w R from f63_ret (hs _ fun w' he => ⟨rfl, he⟩)
  intro R hR
  unfold f63
  refine bx_bk fun w2 he2 _ hb1 => ?_
  refine bx_bk fun w4 he4 _ hb3 => ?_
  have hb1 : Bk w4 w.heap.size (bits a.testBit) 111 := hb1.no he4
  have hb3 : Bk w4 w2.heap.size (bits b.testBit) 111 := hb3
  have hE4 : Ext No w w4 := he2.tr he4
  refine loopG (Γ := Nat) (fun k x w' => x = .int .i64 ((k : Int) - 1) ∧ k ≤ 256 ∧ (∀ j, k ≤ j → a.testBit j = b.testBit j) ∧ Ext No w4 w') (fun k => k) 256 ⟨rfl, Nat.le_refl _, fun j hj => ?_, Ext.refl _ _⟩ ?_
  · rw [Nat.testBit_lt_two_pow (Nat.lt_of_lt_of_le ha (Nat.pow_le_pow_right (by omega) hj)), Nat.testBit_lt_two_pow (Nat.lt_of_lt_of_le hb (Nat.pow_le_pow_right (by omega) hj))]
  rintro k _ w' ⟨rfl, hk, heq, he⟩ K hK _
  have hd : Ext No w4 w'.drew := he.drew
  simp only [ar, vs]
  match k with
  | 0 =>
    rw [show decide (((0 : Nat) : Int) - 1 ≥ 0) = false from rfl]
    simp only [vs]
    have : a = b := Nat.eq_of_testBit_eq fun j => heq j (Nat.zero_le _)
    subst this
    have := hR w' (hE4.tr he)
    rw [show cmpI (a : Int) (a : Int) = 0 by unfold cmpI; rw [if_neg (by omega), if_neg (by omega)]] at this
    exact this
  | k + 1 =>
    rw [show (((k + 1 : Nat) : Int) - 1) = (k : Int) by omega, show decide ((k : Int) ≥ 0) = true from decide_eq_true (by omega)]
    simp only [vs, ixa1 (n := 256) (b := w.heap.size) (k := .i64) (show (0 : Int) ≤ (k : Int) by omega) (by omega), ixa1 (n := 256) (b := w2.heap.size) (k := .i64) (show (0 : Int) ≤ (k : Int) by omega) (by omega), Int.toNat_natCast,
      (hb1.no hd).l1 (bits_get a.testBit (show k < 256 by omega)), (hb3.no hd).l1 (bits_get b.testBit (show k < 256 by omega))]
    cases hx : a.testBit k <;> cases hy : b.testBit k
    · simp (disch := omega) only [beq_self_eq_true, Bool.bne_true, Bool.not_true, vs, ar]
      exact hK k _ _ ⟨rfl, by omega, (fun j hj => (Nat.eq_or_lt_of_le hj).elim (fun e => by rw [← e, hx, hy]) fun h => heq j h), hd⟩ (Nat.lt_succ_self k)
    · have hlt : a < b := lt_of_bit (k := k) hx hy fun j hj => heq j hj
      simp only [show (false == true) = false from rfl, vs]
      have := hR w'.drew (hE4.tr hd)
      rw [show cmpI (a : Int) (b : Int) = -1 by unfold cmpI; rw [if_pos (by omega)]] at this
      exact this
    · have hlt : b < a := lt_of_bit (k := k) hy hx fun j hj => (heq j hj).symm
      simp only [show (true == false) = false from rfl, vs]
      have := hR w'.drew (hE4.tr hd)
      rw [show cmpI (a : Int) (b : Int) = 1 by unfold cmpI; rw [if_neg (by omega), if_pos (by omega)]] at this
      exact this
    · simp (disch := omega) only [beq_self_eq_true, Bool.bne_true, Bool.not_true, vs, ar]
      exact hK k _ _ ⟨rfl, by omega, (fun j hj => (Nat.eq_or_lt_of_le hj).elim (fun e => by rw [← e, hx, hy]) fun h => heq j h), hd⟩ (Nat.lt_succ_self k)

/-! ### a word's bits -/
theorem u64_shr {a i : Nat} (hi : i < 64) : arithO .shr (u64 a) (.int .u64 (i : Int)) = some (u64 (a / 2 ^ i)) := by
  unfold u64
  simp only [arithO]
  rw [if_pos (by omega)]
  congr 2
  show (a : Int).fdiv (2 ^ min i 64) = _
  rw [Nat.min_eq_left (by omega), Int.fdiv_eq_ediv_of_nonneg _ (by exact Int.le_of_lt (Int.pow_pos (by omega))), Int.natCast_ediv, Int.natCast_pow]
  rfl
theorem u64_odd {a : Nat} (ha : a < 18446744073709551616) : arithO .and (u64 a) (.int .u64 1) = some (u64 (a % 2)) := by
  unfold u64
  have h1 : (BitVec.ofInt 64 (a : Int) &&& BitVec.ofInt 64 1).toNat = a % 2 := by
    rw [BitVec.toNat_and, BitVec.toNat_ofInt, BitVec.toNat_ofInt]
    have e1 : ((a : Int) % ((2 ^ 64 : Nat) : Int)).toNat = a := by
      rw [show (((2 ^ 64 : Nat)) : Int) = 18446744073709551616 by decide, Int.emod_eq_of_lt (by omega) (by omega)]; rfl
    have e2 : ((1 : Int) % ((2 ^ 64 : Nat) : Int)).toNat = 2 ^ 1 - 1 := by decide
    rw [e1, e2, Nat.and_two_pow_sub_one_eq_mod]
  show (if IntKind.u64 = IntKind.u64 then some (Value.int .u64 (IntKind.u64.wrap ((BitVec.ofInt 64 (a : Int) &&& BitVec.ofInt 64 1).toNat : Int))) else none) = _
  rw [if_pos rfl, h1, wrapu, Int.emod_eq_of_lt (by omega) (by omega)]
theorem bit_eq {a i : Nat} : (((a / 2 ^ i % 2 : Nat) : Int) == 1) = a.testBit i := by
  rw [Nat.testBit_eq_decide_div_mod_eq, beq_dec]
  by_cases h : a / 2 ^ i % 2 = 1
  · rw [decide_eq_true h, decide_eq_true (by omega)]
  · rw [decide_eq_false h, decide_eq_false (by omega)]

theorem of_ok {n : Nat} (hn : n < W64) (w : World) : Ret PR 64 #[u64 n] w (fun r w' => r = big n ∧ Ext No w w') := by
  suffices hs : ∀ R : Kv, (∀ w', Ext No w w' → R (big n) w') → f64 (u64 n) w R from f64_ret (hs _ fun w' he => ⟨rfl, he⟩)
  intro R hR
  unfold W64 at hn
  unfold f64
  refine var_z zero111 fun w2 he2 hsz2 hb1 => ?_
  refine var_z zero111 fun w5 he5 hsz5 hb4 => ?_
  have hb1 : Bk w5 w.heap.size (bits fun _ => false) 111 := hb1.no he5
  have hb4 : Bk w5 w2.heap.size (bits fun _ => false) 111 := hb4
  have hE5 : Ext No w w5 := he2.tr he5
  refine for1 (n := 64) (by omega) (fun k w' => Ext No w w' ∧ Bk w' w.heap.size (bits fun _ => false) 111 ∧ Bk w' w2.heap.size (bits fun i => decide (i < k) && n.testBit i) 111) ⟨hE5, hb1, ?_⟩ ?_ ?_
  · rw [bits_congr (g := fun _ => false) fun i _ => by rw [decide_eq_false (by omega)]; rfl]
    exact hb4
  · rintro k w' hk ⟨he, h1, h4⟩ K hK
    have hdiv : n / 2 ^ k < 18446744073709551616 := Nat.lt_of_le_of_lt (Nat.div_le_self _ _) hn
    simp only [cviu (show k < 18446744073709551616 by omega), vs, u64_shr hk, u64_odd hdiv, bit_eq, ixa1 (n := 256) (b := w2.heap.size) (k := .i64) (show (0 : Int) ≤ (k : Int) by omega) (by omega), Int.toNat_natCast]
    refine h4.st1 (by rw [bits_len]; omega) rfl rfl fun wa hba hea _ => ?_
    simp (disch := omega) only [vs, ar]
    refine hK _ ⟨he.trans hea fun m hm e => by omega, h1.ext hea (by omega), ?_⟩
    rw [bits_set] at hba
    rw [bits_congr (g := fun i => if i = k then n.testBit k else decide (i < k) && n.testBit i) fun i _ => ?_]
    · exact hba
    · by_cases hik : i = k
      · subst hik; rw [if_pos rfl, decide_eq_true (by omega)]; rfl
      · rw [if_neg hik]
        by_cases hlt : i < k
        · rw [decide_eq_true hlt, decide_eq_true (by omega)]
        · rw [decide_eq_false hlt, decide_eq_false (by omega)]
  · rintro w' ⟨he, h1, h4⟩
    rw [h4.all (bits_len _)]
    refine h1.stN (bits_size _) (by rw [bits_len]; omega) (bits_one _) fun wa hba hea _ => ?_
    rw [ovr_all _ _ (by rw [bits_len]; exact (bits_len _).symm), List.toList_toArray] at hba
    rw [hba.all (bits_len _), bits_congr (g := n.testBit) fun i hi => ?_]
    · exact hR _ (he.trans hea fun m hm e => by omega)
    · by_cases hlt : i < 64
      · rw [decide_eq_true hlt]; rfl
      · rw [decide_eq_false hlt, Nat.testBit_lt_two_pow (Nat.lt_of_lt_of_le hn (Nat.pow_le_pow_right (n := 2) (i := 64) (by omega) (by omega)))]; rfl

/-! ### doubling, adding, multiplying -/
theorem up_ok {a : Nat} (w : World) : Ret PR 76 #[big a] w (fun r w' => r = big (2 * a) ∧ Ext No w w') := by
  suffices hs : ∀ R : Kv, (∀ w', Ext No w w' → R (big (2 * a)) w') → f76 (big a) w R from f76_ret (hs _ fun w' he => ⟨rfl, he⟩)
  intro R hR
  unfold f76
  refine bx_bk fun w2 he2 _ hb1 => ?_
  refine var_z zero111 fun w4 he4 hsz4 hb3 => ?_
  refine var_z zero111 fun w7 he7 hsz7 hb6 => ?_
  have hb1 : Bk w7 w.heap.size (bits a.testBit) 111 := (hb1.no he4).no he7
  have hb3 : Bk w7 w2.heap.size (bits fun _ => false) 111 := hb3.no he7
  have hb6 : Bk w7 w4.heap.size (bits fun _ => false) 111 := hb6
  have hE7 : Ext No w w7 := (he2.tr he4).tr he7
  have two : ∀ i, (2 * a).testBit i = (decide (i ≥ 1) && a.testBit (i - 1)) := fun i => by
    have := Nat.testBit_two_pow_mul (i := 1) (a := a) (j := i)
    rw [Nat.pow_one] at this; exact this
  have hlt1 := hb1.lt
  refine loopG (Γ := Nat) (fun k x w' => x = .int .i64 (k : Int) ∧ 1 ≤ k ∧ k ≤ 256 ∧ Ext No w w' ∧ Bk w' w.heap.size (bits a.testBit) 111 ∧ Bk w' w2.heap.size (bits fun _ => false) 111 ∧ Bk w' w4.heap.size (bits fun i => decide (i < k) && (2 * a).testBit i) 111) (fun k => 256 - k) 1 ⟨rfl, by omega, by omega, hE7, hb1, hb3, ?_⟩ ?_
  · rw [bits_congr (g := fun _ => false) fun i _ => ?_]
    · exact hb6
    · rw [two]
      by_cases hi : i < 1
      · rw [decide_eq_false (show ¬ i ≥ 1 by omega)]; simp
      · rw [decide_eq_false (show ¬ i < 1 by omega)]; rfl
  rintro k _ w' ⟨rfl, hk1, hk, he, h1, h3, h6⟩ K hK _
  simp only [ar, vs]
  by_cases hlt : k < 256
  · rw [show decide ((k : Int) < 256) = true from decide_eq_true (by omega)]
    simp (disch := omega) only [vs, ar]
    simp only [ixa1 (n := 256) (b := w.heap.size) (k := .i64) (show (0 : Int) ≤ (k : Int) - 1 by omega) (by omega), ixa1 (n := 256) (b := w4.heap.size) (k := .i64) (show (0 : Int) ≤ (k : Int) by omega) (by omega), Int.toNat_natCast, vs,
      show ((k : Int) - 1).toNat = k - 1 by omega, h1.l1 (bits_get a.testBit (show k - 1 < 256 by omega))]
    refine h6.st1 (by rw [bits_len]; omega) rfl rfl fun wa hba hea _ => ?_
    have hs2 := he2.size
    refine hK (k + 1) _ _ ⟨by simp, by omega, by omega, he.trans hea fun m hm e => by have := he2.size; have := he4.size; omega, h1.ext hea (by have := he4.size; omega), h3.ext hea (by omega), ?_⟩ (by omega)
    rw [bits_set] at hba
    rw [bits_congr (g := fun i => if i = k then a.testBit (k - 1) else decide (i < k) && (2 * a).testBit i) fun i _ => ?_]
    · exact hba
    · by_cases hik : i = k
      · subst hik; rw [if_pos rfl, decide_eq_true (by omega), two, decide_eq_true hk1]; rfl
      · rw [if_neg hik]
        by_cases hlt : i < k
        · rw [decide_eq_true hlt, decide_eq_true (by omega)]
        · rw [decide_eq_false hlt, decide_eq_false (by omega)]
  · rw [show decide ((k : Int) < 256) = false from decide_eq_false (by omega)]
    simp only [vs]
    rw [h6.all (bits_len _)]
    refine h3.stN (bits_size _) (by rw [bits_len]; omega) (bits_one _) fun wa hba hea _ => ?_
    rw [ovr_all _ _ (by rw [bits_len]; exact (bits_len _).symm), List.toList_toArray] at hba
    rw [hba.all (bits_len _), bits_congr (g := (2 * a).testBit) fun i hi => by rw [decide_eq_true (by omega)]; rfl]
    exact hR _ (he.trans hea fun m hm e => by have := he2.size; omega)

def cy (a b k : Nat) : Bool := BitVec.carry k (BitVec.ofNat 256 a) (BitVec.ofNat 256 b) false
theorem cy_zero (a b : Nat) : cy a b 0 = false := BitVec.carry_zero
theorem lsb {a i : Nat} (hi : i < 256) : (BitVec.ofNat 256 a).getLsbD i = a.testBit i := by
  rw [BitVec.getLsbD_ofNat, decide_eq_true hi]; rfl
theorem cy_succ (a b : Nat) {k : Nat} (hk : k < 256) : cy a b (k + 1) = (a.testBit k && b.testBit k || cy a b k && (a.testBit k || b.testBit k)) := by
  unfold cy
  rw [BitVec.carry_succ, lsb hk, lsb hk]
  generalize BitVec.carry k _ _ false = c
  cases a.testBit k <;> cases b.testBit k <;> cases c <;> rfl
theorem cy_bit (a b : Nat) {k : Nat} (hk : k < 256) : (a + b).testBit k = ((a.testBit k != b.testBit k) != cy a b k) := by
  have h := BitVec.getLsbD_add hk (BitVec.ofNat 256 a) (BitVec.ofNat 256 b)
  rw [← BitVec.ofNat_add, lsb hk, lsb hk, lsb hk] at h
  rw [h]
  unfold cy
  generalize BitVec.carry k _ _ false = c
  cases a.testBit k <;> cases b.testBit k <;> cases c <;> rfl

theorem plus_ok {a b : Nat} (w : World) : Ret PR 75 #[big a, big b] w (fun r w' => r = big (a + b) ∧ Ext No w w') := by
  suffices hs : ∀ R : Kv, (∀ w', Ext No w w' → R (big (a + b)) w') → f75 (big a) (big b) w R from f75_ret (hs _ fun w' he => ⟨rfl, he⟩)
  intro R hR
  unfold f75
  refine bx_bk fun w2 he2 _ hb1 => ?_
  refine bx_bk fun w4 he4 _ hb3 => ?_
  refine var_z zero111 fun w6 he6 hsz6 hb5 => ?_
  refine var_z zero111 fun w9 he9 hsz9 hb8 => ?_
  have hb1 : Bk w9 w.heap.size (bits a.testBit) 111 := ((hb1.no he4).no he6).no he9
  have hb3 : Bk w9 w2.heap.size (bits b.testBit) 111 := (hb3.no he6).no he9
  have hb5 : Bk w9 w4.heap.size (bits fun _ => false) 111 := hb5.no he9
  have hb8 : Bk w9 w6.heap.size (bits fun _ => false) 111 := hb8
  have hE9 : Ext No w w9 := ((he2.tr he4).tr he6).tr he9
  have hs2 := he2.size
  have hs4 := he4.size
  have hs6 := he6.size
  refine for2 (n := 256) (by omega) (fun k c w' => c = .bool (cy a b k) ∧ Ext No w w' ∧ Bk w' w.heap.size (bits a.testBit) 111 ∧ Bk w' w2.heap.size (bits b.testBit) 111 ∧ Bk w' w4.heap.size (bits fun _ => false) 111 ∧ Bk w' w6.heap.size (bits fun i => decide (i < k) && (a + b).testBit i) 111) ⟨by rw [cy_zero], hE9, hb1, hb3, hb5, ?_⟩ ?_ ?_
  · rw [bits_congr (g := fun _ => false) fun i _ => by rw [decide_eq_false (by omega)]; rfl]
    exact hb8
  · rintro k _ w' hk ⟨rfl, he, h1, h3, h5, h8⟩ K hK
    have hdr : Ext No w' w'.drew := (Ext.refl No w').drew
    simp only [vs, ixa1 (n := 256) (b := w.heap.size) (k := .i64) (show (0 : Int) ≤ (k : Int) by omega) (show (k : Int) < (256 : Nat) by omega), ixa1 (n := 256) (b := w2.heap.size) (k := .i64) (show (0 : Int) ≤ (k : Int) by omega) (show (k : Int) < (256 : Nat) by omega), ixa1 (n := 256) (b := w6.heap.size) (k := .i64) (show (0 : Int) ≤ (k : Int) by omega) (show (k : Int) < (256 : Nat) by omega), Int.toNat_natCast,
      (h1.no hdr).l1 (bits_get a.testBit hk), (h3.no hdr).l1 (bits_get b.testBit hk)]
    refine (h8.no hdr).st1 (by rw [bits_len]; omega) rfl rfl fun wa hba hea _ => ?_
    rw [bits_set] at hba
    have fin : ∀ c, c = cy a b (k + 1) → K (.bool c, .int .i64 ((k : Int) + 1)) wa := fun c hc => by
      refine hK _ _ ⟨by rw [hc], (he.tr hdr).trans hea fun m hm e => by omega, (h1.no hdr).ext hea (by omega), (h3.no hdr).ext hea (by omega), (h5.no hdr).ext hea (by omega), ?_⟩
      refine (bits_congr fun i _ => ?_) ▸ hba
      by_cases hik : i = k
      · subst hik
        rw [if_pos rfl, decide_eq_true (by omega), cy_bit a b hk]
        cases a.testBit i <;> cases b.testBit i <;> cases cy a b i <;> rfl
      · rw [if_neg hik]
        by_cases hlt : i < k
        · rw [decide_eq_true hlt, decide_eq_true (by omega)]
        · rw [decide_eq_false hlt, decide_eq_false (by omega)]
    have hcs := cy_succ a b hk
    revert hcs fin
    generalize a.testBit k = x
    generalize b.testBit k = y
    generalize cy a b k = c
    intro fin hcs
    cases x <;> cases y <;> cases c <;> (simp (disch := omega) only [vs, ar]; exact fin _ hcs.symm)
  · rintro _ w' ⟨rfl, he, h1, h3, h5, h8⟩
    rw [h8.all (bits_len _)]
    refine h5.stN (bits_size _) (by rw [bits_len]; omega) (bits_one _) fun wa hba hea _ => ?_
    rw [ovr_all _ _ (by rw [bits_len]; exact (bits_len _).symm), List.toList_toArray] at hba
    rw [hba.all (bits_len _), bits_congr (g := (a + b).testBit) fun i hi => by rw [decide_eq_true (by omega)]; rfl]
    exact hR _ (he.trans hea fun m hm e => by omega)

theorem big_zero : big 0 = .agg (bits fun _ => false).toArray := by
  unfold big
  rw [bits_congr (g := fun _ => false) fun i _ => by rw [Nat.zero_testBit]]
theorem mod_step (n k : Nat) : n % 2 ^ (k + 1) = n % 2 ^ k + 2 ^ k * (n / 2 ^ k % 2) := Nat.mod_pow_succ

theorem times_ok {a n : Nat} (hn : n < W64) (w : World) : Ret PR 65 #[big a, u64 n] w (fun r w' => r = big (a * n) ∧ Ext No w w') := by
  suffices hs : ∀ R : Kv, (∀ w', Ext No w w' → R (big (a * n)) w') → f65 (big a) (u64 n) w R from f65_ret (hs _ fun w' he => ⟨rfl, he⟩)
  intro R hR
  unfold W64 at hn
  unfold f65
  refine bx_bk fun w2 he2 _ hb1 => ?_
  refine var_z zero111 fun w4 he4 hsz4 hb3 => ?_
  refine var_z zero111 fun w7 he7 hsz7 hb6 => ?_
  have hb1 : Bk w7 w.heap.size (bits a.testBit) 111 := (hb1.no he4).no he7
  have hb3 : Bk w7 w2.heap.size (bits fun _ => false) 111 := hb3.no he7
  have hb6 : Bk w7 w4.heap.size (bits fun _ => false) 111 := hb6
  have hE7 : Ext No w w7 := (he2.tr he4).tr he7
  have hs2 := he2.size
  have hs4 := he4.size
  have hlt1 := hb1.lt
  have h12 : w.heap.size < w2.heap.size := by omega
  refine for1 (n := 64) (by omega) (fun k w' => Ext No w w' ∧ Bk w' w.heap.size (bits (a * 2 ^ k).testBit) 111 ∧ Bk w' w2.heap.size (bits fun _ => false) 111 ∧ Bk w' w4.heap.size (bits (a * (n % 2 ^ k)).testBit) 111) ⟨hE7, by rw [Nat.pow_zero, Nat.mul_one]; exact hb1, hb3, ?_⟩ ?_ ?_
  · rw [Nat.pow_zero, Nat.mod_one, Nat.mul_zero, bits_congr (g := fun _ => false) fun i _ => by rw [Nat.zero_testBit]]
    exact hb6
  · rintro k w' hk ⟨he, h1, h3, h6⟩ K hK
    intro K2 hK2
    have next : ∀ wa, Ext No w wa → Bk wa w.heap.size (bits (a * 2 ^ k).testBit) 111 → Bk wa w2.heap.size (bits fun _ => false) 111 → Bk wa w4.heap.size (bits (a * (n % 2 ^ (k + 1))).testBit) 111 → K2 () wa := fun wa hea g1 g3 g6 => by
      refine hK2 _ _ fun _ => ?_
      rw [g1.all (bits_len _)]
      refine (up_ok (a := a * 2 ^ k) wa).mono ?_
      rintro _ wb ⟨rfl, heb⟩
      refine (g1.no heb).stN (bits_size _) (by rw [bits_len]; omega) (bits_one _) fun wc hbc hec _ => ?_
      rw [ovr_all _ _ (by rw [bits_len]; exact (bits_len _).symm), List.toList_toArray] at hbc
      simp (disch := omega) only [vs, ar]
      refine hK _ ⟨(hea.tr heb).trans hec fun m hm e => by omega, ?_, (g3.no heb).ext hec (by omega), (g6.no heb).ext hec (by omega)⟩
      rw [Nat.pow_succ, ← Nat.mul_assoc, Nat.mul_comm (a * 2 ^ k) 2]
      exact hbc
    have hdiv : n / 2 ^ k < 18446744073709551616 := Nat.lt_of_le_of_lt (Nat.div_le_self _ _) hn
    simp only [cviu (show k < 18446744073709551616 by omega), vs, u64_shr hk, u64_odd hdiv, bit_eq]
    have hms := mod_step n k
    have hbit := Nat.testBit_eq_decide_div_mod_eq (i := k) (x := n)
    cases hb : n.testBit k with
    | false =>
      rw [hb] at hbit
      have := of_decide_eq_false hbit.symm
      rw [show n / 2 ^ k % 2 = 0 by omega, Nat.mul_zero, Nat.add_zero] at hms
      simp only [vs]
      exact next _ he h1 h3 (by rw [hms]; exact h6)
    | true =>
      rw [hb] at hbit
      have := of_decide_eq_true hbit.symm
      rw [this, Nat.mul_one] at hms
      simp only [vs]
      rw [h6.all (bits_len _), h1.all (bits_len _)]
      refine (plus_ok (a := a * (n % 2 ^ k)) (b := a * 2 ^ k) w').mono ?_
      rintro _ wb ⟨rfl, heb⟩
      refine (h6.no heb).stN (bits_size _) (by rw [bits_len]; omega) (bits_one _) fun wc hbc hec _ => ?_
      rw [ovr_all _ _ (by rw [bits_len]; exact (bits_len _).symm), List.toList_toArray] at hbc
      refine next _ ((he.tr heb).trans hec fun m hm e => by omega) ((h1.no heb).ext hec (by omega)) ((h3.no heb).ext hec (by omega)) ?_
      rw [hms, Nat.mul_add]
      exact hbc
  · rintro w' ⟨he, h1, h3, h6⟩
    rw [h6.all (bits_len _)]
    refine h3.stN (bits_size _) (by rw [bits_len]; omega) (bits_one _) fun wa hba hea _ => ?_
    rw [ovr_all _ _ (by rw [bits_len]; exact (bits_len _).symm), List.toList_toArray] at hba
    rw [hba.all (bits_len _), Nat.mod_eq_of_lt (show n < 2 ^ 64 from hn)]
    exact hR _ (he.trans hea fun m hm e => by omega)

theorem lt256 {a b : Nat} (ha : a < W64) (hb : b < W64) : a * b < 2 ^ 256 := by
  have : a * b < W64 * W64 := Nat.mul_lt_mul'' ha hb
  exact Nat.lt_trans this (by decide)

theorem rcmp2_ok {n1 d1 n2 d2 : Nat} (h1 : n1 < W64) (h2 : d1 < W64) (h3 : n2 < W64) (h4 : d2 < W64) (p1 : 0 < d1) (p2 : 0 < d2) (w : World) :
    Ret PR 43 #[rat n1 d1, rat n2 d2] w (fun r w' => r = .tuple #[.int .i64 (cmpI ((n1 * d2 : Nat) : Int) ((n2 * d1 : Nat) : Int)), .int .i64 0] ∧ Ext No w w') := by
  suffices hs : ∀ R : Kv, (∀ w', Ext No w w' → R (.tuple #[.int .i64 (cmpI ((n1 * d2 : Nat) : Int) ((n2 * d1 : Nat) : Int)), .int .i64 0]) w') → f43 (rat n1 d1) (rat n2 d2) w R from f43_ret (hs _ fun w' he => ⟨rfl, he⟩)
  intro R hR
  unfold f43 rat
  refine bx_bk fun w2 he2 _ hb2 => ?_
  refine bx_bk fun w4 he4 _ hb4 => ?_
  have hb2 : Bk w4 w.heap.size [u64 n1, u64 d1] 64 := hb2.no he4
  have hb4 : Bk w4 w2.heap.size [u64 n2, u64 d2] 64 := hb4
  have hE4 : Ext No w w4 := he2.tr he4
  have e1 := hb2.l1 (j := 0) (v := u64 n1) rfl
  have e2 := hb2.l1 (j := 1) (v := u64 d1) rfl
  have e3 := hb4.l1 (j := 0) (v := u64 n2) rfl
  have e4 := hb4.l1 (j := 1) (v := u64 d2) rfl
  have q1 : ((d1 : Int) == 0) = false := by simp; omega
  have q2 : ((d2 : Int) == 0) = false := by simp; omega
  simp only [vs, Nat.zero_add, e1, e2, e3, e4, q1, q2, u64, ar]
  have hC : ∀ w', Ext No w4 w' → Bk w' w.heap.size [u64 n1, u64 d1] 64 := fun w' he => hb2.no he
  have hC' : ∀ w', Ext No w4 w' → Bk w' w2.heap.size [u64 n2, u64 d2] 64 := fun w' he => hb4.no he
  have hdr : Ext No w4 w4.drew := (Ext.refl No w4).drew
  have large : ∃ C760 : World → Prop, C760 w4.drew ∧
      l1C C760 (.pointer (some ⟨w.heap.size, 0, none⟩)) fun v765 =>
      l1C C760 (.pointer (some ⟨w2.heap.size, 1, none⟩)) fun v766 =>
      l1C C760 (.pointer (some ⟨w2.heap.size, 0, none⟩)) fun v767 =>
      l1C C760 (.pointer (some ⟨w.heap.size, 1, none⟩)) fun v768 =>
      Ret PR 64 #[v765] w4.drew fun v769 w770 =>
      C760 w770 ∧
      Ret PR 65 #[v769, v766] w770 fun v771 w772 =>
      C760 w772 ∧
      Ret PR 64 #[v767] w772 fun v773 w774 =>
      C760 w774 ∧
      Ret PR 65 #[v773, v768] w774 fun v775 w776 =>
      Ret PR 63 #[v771, v775] w776 fun v777 w778 =>
      R (.tuple #[v777, (.int .i64 0)]) w778 := by
    refine ⟨fun w' => Ext No w4 w', hdr, ?_⟩
    refine Bk.l1C hC (j := 0) (v := u64 n1) rfl ?_
    refine Bk.l1C hC' (j := 1) (v := u64 d2) rfl ?_
    refine Bk.l1C hC' (j := 0) (v := u64 n2) rfl ?_
    refine Bk.l1C hC (j := 1) (v := u64 d1) rfl ?_
    refine (of_ok h1 _).mono ?_
    rintro _ wa ⟨rfl, hea⟩
    refine ⟨hdr.tr hea, (times_ok h4 wa).mono ?_⟩
    rintro _ wb ⟨rfl, heb⟩
    refine ⟨(hdr.tr hea).tr heb, (of_ok h3 wb).mono ?_⟩
    rintro _ wc ⟨rfl, hec⟩
    refine ⟨((hdr.tr hea).tr heb).tr hec, (times_ok h2 wc).mono ?_⟩
    rintro _ wd ⟨rfl, hed⟩
    refine (bcmp_ok (lt256 h1 h4) (lt256 h3 h2) wd).mono ?_
    rintro _ we ⟨rfl, hee⟩
    exact hR we (hE4.tr (((((hdr.tr hea).tr heb).tr hec).tr hed).tr hee))
  by_cases s1 : n1 < 4294967296
  case neg =>
    simp only [e1, e2, e3, e4, ar, vs, show decide ((n1 : Int) < 4294967296) = false from decide_eq_false (by omega), vs]
    exact large
  simp only [e1, e2, e3, e4, ar, vs, show decide ((n1 : Int) < 4294967296) = true from decide_eq_true (by omega), vs]
  by_cases s2 : d1 < 4294967296
  case neg =>
    simp only [e1, e2, e3, e4, ar, vs, show decide ((d1 : Int) < 4294967296) = false from decide_eq_false (by omega), vs]
    exact large
  simp only [e1, e2, e3, e4, ar, vs, show decide ((d1 : Int) < 4294967296) = true from decide_eq_true (by omega), vs]
  by_cases s3 : n2 < 4294967296
  case neg =>
    simp only [e1, e2, e3, e4, ar, vs, show decide ((n2 : Int) < 4294967296) = false from decide_eq_false (by omega), vs]
    exact large
  have t3 : decide ((n2 : Int) < 4294967296) = true := decide_eq_true (by omega)
  by_cases s4 : d2 < 4294967296
  case neg =>
    have t4 : decide ((d2 : Int) < 4294967296) = false := decide_eq_false (by omega)
    simp only [vs, e3, ar, t3]
    simp only [vs, e4, ar, t4]
    exact large
  have t4 : decide ((d2 : Int) < 4294967296) = true := decide_eq_true (by omega)
  simp only [vs, e3, ar, t3]
  simp only [vs, e4, ar, t4]
  have m1 : n1 * d2 < W64 := Nat.lt_of_lt_of_le (Nat.mul_lt_mul'' s1 s4) (by decide)
  have m2 : n2 * d1 < W64 := Nat.lt_of_lt_of_le (Nat.mul_lt_mul'' s3 s2) (by decide)
  have x1 : ((n1 : Int) * (d2 : Int)) % 18446744073709551616 = ((n1 * d2 : Nat) : Int) := by
    unfold W64 at m1
    rw [← Int.natCast_mul, Int.emod_eq_of_lt (by omega) (by omega)]
  have x2 : ((n2 : Int) * (d1 : Int)) % 18446744073709551616 = ((n2 * d1 : Nat) : Int) := by
    unfold W64 at m2
    rw [← Int.natCast_mul, Int.emod_eq_of_lt (by omega) (by omega)]
  refine ⟨fun w' => Ext No w4 w', hdr, ?_⟩
  refine Bk.l1C hC (j := 0) (v := u64 n1) rfl ?_
  refine Bk.l1C hC' (j := 1) (v := u64 d2) rfl ?_
  simp only [u64, u64_mul, x1, vs]
  refine Bk.l1C hC' (j := 0) (v := u64 n2) rfl ?_
  refine Bk.l1C hC (j := 1) (v := u64 d1) rfl ?_
  simp only [u64, u64_mul, x2, vs]
  refine (of_ok m1 _).mono ?_
  rintro _ wa ⟨rfl, hea⟩
  refine ⟨hdr.tr hea, (of_ok m2 wa).mono ?_⟩
  rintro _ wb ⟨rfl, heb⟩
  refine (bcmp_ok (lt256 h1 h4) (lt256 h3 h2) wb).mono ?_
  rintro _ we ⟨rfl, hee⟩
  exact hR we (hE4.tr (((hdr.tr hea).tr heb).tr hee))

end Go.Proofs.Ythhpdcegkbfijaa.Sh
