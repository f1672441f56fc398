/-
  Loops that count, and small words.
-/
import Derived.Test.YthhpdcegkbfijaaVBuild
namespace Go.Proofs.Ythhpdcegkbfijaa.V
set_option linter.all false
set_option linter.unusedVariables false
set_option linter.unusedSimpArgs false
set_option linter.unnecessarySimpa false

def num : Value → Int | .int _ n => n | _ => 0
def enc (l : List Int) : List Value := l.map (Value.int .i64)
theorem enc_len (l : List Int) : (enc l).length = l.length := by simp [enc]
theorem enc_get (l : List Int) (i : Nat) : (enc l)[i]? = (l[i]?).map (Value.int .i64) := by simp [enc]
theorem enc_app (l m : List Int) : enc (l ++ m) = enc l ++ enc m := by simp [enc]
theorem enc_one (l : List Int) : ∀ u ∈ enc l, u.oneCell' = true := by
  intro u hu
  simp only [enc, List.mem_map] at hu
  obtain ⟨n, _, rfl⟩ := hu
  rfl

/-- for i := 0; i < n; i++ : nothing else is carried on. -/
theorem for1 {n : Nat} {w : World} {BODY : (Value → World → Prop) → Value → World → Prop} {EXIT : Value → World → Prop} (hn : n ≤ 9223372036854775807) (J : Nat → World → Prop) (h0 : J 0 w)
    (hb : ∀ k w, k < n → J k w → ∀ K : Value → World → Prop, (∀ w', J (k + 1) w' → K (.int .i64 ((k : Int) + 1)) w') → BODY K (.int .i64 k) w)
    (he : ∀ w, J n w → EXIT (.int .i64 n) w) :
    loopV (X := Value) (.int .i64 0) w (fun K x w => ∀ _ : Env, pO (arithO .lss x (.int .i64 n)) fun c => cnd c (BODY K x w) (EXIT x w)) := by
  refine ⟨fun x w => ∃ k : Nat, k ≤ n ∧ x = .int .i64 k ∧ J k w, fun x _ => n - (num x).toNat, ⟨0, Nat.zero_le _, rfl, h0⟩, ?_⟩
  rintro x w ⟨k, hk, rfl, hJ⟩ _
  simp only [ar, vs]
  by_cases hlt : k < n
  · rw [show decide ((k : Int) < n) = true from decide_eq_true (by omega)]
    simp only [vs]
    refine hb k w hlt hJ _ fun w' h' => ⟨⟨k + 1, by omega, by simp, h'⟩, ?_⟩
    simp only [num]; omega
  · rw [show decide ((k : Int) < n) = false from decide_eq_false (by omega)]
    simp only [vs]
    obtain rfl : k = n := by omega
    exact he w hJ
/-- .. with one thing carried on ahead of the counter. -/
theorem for2 {n : Nat} {w : World} {a0 : Value} {BODY : (Value × Value → World → Prop) → Value × Value → World → Prop} {EXIT : Value × Value → World → Prop} (hn : n ≤ 9223372036854775807) (J : Nat → Value → World → Prop) (h0 : J 0 a0 w)
    (hb : ∀ k a w, k < n → J k a w → ∀ K : Value × Value → World → Prop, (∀ a' w', J (k + 1) a' w' → K (a', .int .i64 ((k : Int) + 1)) w') → BODY K (a, .int .i64 k) w)
    (he : ∀ a w, J n a w → EXIT (a, .int .i64 n) w) :
    loopV (X := Value × Value) (a0, .int .i64 0) w (fun K x w => ∀ _ : Env, pO (arithO .lss x.2 (.int .i64 n)) fun c => cnd c (BODY K x w) (EXIT x w)) := by
  refine ⟨fun x w => ∃ k : Nat, k ≤ n ∧ x.2 = .int .i64 k ∧ J k x.1 w, fun x _ => n - (num x.2).toNat, ⟨0, Nat.zero_le _, rfl, h0⟩, ?_⟩
  rintro ⟨a, x⟩ w ⟨k, hk, hx, hJ⟩ _
  simp only at hx hJ
  subst hx
  simp only [ar, vs]
  by_cases hlt : k < n
  · rw [show decide ((k : Int) < n) = true from decide_eq_true (by omega)]
    simp only [vs]
    refine hb k a w hlt hJ _ fun a' w' h' => ⟨⟨k + 1, by omega, by simp, h'⟩, ?_⟩
    simp only [num]; omega
  · rw [show decide ((k : Int) < n) = false from decide_eq_false (by omega)]
    simp only [vs]
    obtain rfl : k = n := by omega
    exact he a w hJ
/-- .. behind the counter. -/
theorem for2' {n : Nat} {w : World} {a0 : Value} {BODY : (Value × Value → World → Prop) → Value × Value → World → Prop} {EXIT : Value × Value → World → Prop} (hn : n ≤ 9223372036854775807) (J : Nat → Value → World → Prop) (h0 : J 0 a0 w)
    (hb : ∀ k a w, k < n → J k a w → ∀ K : Value × Value → World → Prop, (∀ a' w', J (k + 1) a' w' → K (.int .i64 ((k : Int) + 1), a') w') → BODY K (.int .i64 k, a) w)
    (he : ∀ a w, J n a w → EXIT (.int .i64 n, a) w) :
    loopV (X := Value × Value) (.int .i64 0, a0) w (fun K x w => ∀ _ : Env, pO (arithO .lss x.1 (.int .i64 n)) fun c => cnd c (BODY K x w) (EXIT x w)) := by
  refine ⟨fun x w => ∃ k : Nat, k ≤ n ∧ x.1 = .int .i64 k ∧ J k x.2 w, fun x _ => n - (num x.1).toNat, ⟨0, Nat.zero_le _, rfl, h0⟩, ?_⟩
  rintro ⟨x, a⟩ w ⟨k, hk, hx, hJ⟩ _
  simp only at hx hJ
  subst hx
  simp only [ar, vs]
  by_cases hlt : k < n
  · rw [show decide ((k : Int) < n) = true from decide_eq_true (by omega)]
    simp only [vs]
    refine hb k a w hlt hJ _ fun a' w' h' => ⟨⟨k + 1, by omega, by simp, h'⟩, ?_⟩
    simp only [num]; omega
  · rw [show decide ((k : Int) < n) = false from decide_eq_false (by omega)]
    simp only [vs]
    obtain rfl : k = n := by omega
    exact he a w hJ

theorem least {p : Nat → Prop} (h : ∃ n, p n) : ∃ n, p n ∧ ∀ m, p m → n ≤ m := by
  obtain ⟨n, hn⟩ := h
  induction n using Nat.strongRecOn with
  | _ n ih =>
    by_cases hs : ∃ m, m < n ∧ p m
    · obtain ⟨m, hlt, hm⟩ := hs; exact ih m hlt hm
    · exact ⟨n, hn, fun m hm => Nat.le_of_not_lt fun hlt => hs ⟨m, hlt, hm⟩⟩
open Classical in
/-- A loop whose state is told in plain data, which stand in no variable. -/
theorem loopG {X Γ : Type} {x : X} {w : World} {body : (X → World → Prop) → X → World → Prop} (J : Γ → X → World → Prop) (μ : Γ → Nat) (γ0 : Γ) (h0 : J γ0 x w)
    (hb : ∀ γ x w, J γ x w → ∀ K : X → World → Prop, (∀ γ' x' w', J γ' x' w' → μ γ' < μ γ → K x' w') → body K x w) : loopV x w body := by
  let p : X → World → Nat → Prop := fun x w n => ∃ γ, J γ x w ∧ μ γ = n
  refine ⟨fun x w => ∃ γ, J γ x w, fun x w => if h : ∃ n, p x w n then Classical.choose (least h) else 0, ⟨γ0, h0⟩, ?_⟩
  rintro x w ⟨γ, hγ⟩
  have hex : ∃ n, p x w n := ⟨μ γ, γ, hγ, rfl⟩
  obtain ⟨⟨γm, hm, hmu⟩, hmin⟩ := Classical.choose_spec (least hex)
  refine hb γm x w hm _ fun γ' x' w' h' hlt => ⟨⟨γ', h'⟩, ?_⟩
  have hex' : ∃ n, p x' w' n := ⟨μ γ', γ', h', rfl⟩
  change (if h : ∃ n, p x' w' n then Classical.choose (least h) else 0) < (if h : ∃ n, p x w n then Classical.choose (least h) else 0)
  rw [dif_pos hex, dif_pos hex']
  have := (Classical.choose_spec (least hex')).2 (μ γ') ⟨γ', h', rfl⟩
  omega

end Go.Proofs.Ythhpdcegkbfijaa.V
