/-
  share: slices that are cut; the arguments that came in.
-/
import Derived.Test.YthhpdcegkbfijaaShG
namespace Go.Proofs.Ythhpdcegkbfijaa.Sh
open Go.Proofs.Ythhpdcegkbfijaa.V Go.Proofs.Ythhpdcegkbfijaa.T
set_option linter.all false
set_option maxRecDepth 100000
set_option linter.unusedVariables false
set_option linter.unusedSimpArgs false
set_option linter.unnecessarySimpa false

theorem inB_some {b : Nat} {o n c : Nat} {k : Nat} (h : inB (.slice (some ⟨b, o, none⟩) n c) k) : k = b := by
  simp only [inB, Value.ownBlock, Option.some.injEq] at h; exact h.symm
/-- the rest of a slice -/
theorem cutLo {w : World} {sz : Nat} {v : Value} {n : Nat} {xs : List Value} (h : Sl w sz v n xs) {m : Nat} (hm : m ≤ n) :
    ∃ v', cutO sz v (some (.int .i64 (m : Int))) none = some v' ∧ Sl w sz v' (n - m) (xs.drop (m * sz)) := by
  obtain ⟨h1, h2, h3⟩ := h
  have hlen : (xs.drop (m * sz)).length = (n - m) * sz := by rw [List.length_drop, h1, Nat.sub_mul]
  rcases h3 with ⟨rfl, rfl⟩ | ⟨b, o, cap, rfl, hc, hb, hx⟩ | ⟨a, cap, rfl, rfl⟩
  · obtain rfl : m = 0 := by omega
    refine ⟨.slice none 0 0, by simp [cutO, loO, hiO], ⟨hlen, by omega, .inl ⟨rfl, rfl⟩⟩⟩
  · by_cases e : cap = m
    · have : n - m = 0 := by omega
      refine ⟨.slice (some ⟨b, o, none⟩) (n - m) (cap - m), ?_, ⟨hlen, by omega, .inr (.inr ⟨_, _, by rw [this], this⟩)⟩⟩
      simp only [cutO, loO, hiO]
      rw [if_pos ⟨by omega, by omega, by omega⟩, if_pos (by omega)]
      simp
    · refine ⟨.slice (some ⟨b, o + m * sz, none⟩) (n - m) (cap - m), ?_, ⟨hlen, by omega, .inr (.inl ⟨b, o + m * sz, cap - m, rfl, by omega, hb, fun j u hj => ?_⟩)⟩⟩
      · simp only [cutO, loO, hiO]
        rw [if_pos ⟨by omega, by omega, by omega⟩, if_neg (by omega)]
        simp [add_lit]
      · rw [List.getElem?_drop] at hj
        have := hx _ u hj
        rwa [← Nat.add_assoc] at this
  · obtain rfl : m = 0 := by omega
    refine ⟨.slice (some a) 0 cap, ?_, ⟨hlen, by omega, .inr (.inr ⟨a, cap, rfl, rfl⟩)⟩⟩
    simp only [cutO, loO, hiO]
    rw [if_pos ⟨by omega, by omega, by omega⟩]
    have ha : a.add 0 = a := by cases a with | mk b o s => cases s <;> simp [Addr.add]
    simp [ha]
/-- the first ones of a slice -/
theorem cutHi {w : World} {sz : Nat} {v : Value} {n : Nat} {xs : List Value} (h : Sl w sz v n xs) {m : Nat} (hm : m ≤ n) :
    ∃ v', cutO sz v none (some (.int .i64 (m : Int))) = some v' ∧ Sl w sz v' m (xs.take (m * sz)) := by
  obtain ⟨h1, h2, h3⟩ := h
  have hlen : (xs.take (m * sz)).length = m * sz := by rw [List.length_take, h1]; exact Nat.min_eq_left (Nat.mul_le_mul_right _ hm)
  have ha : ∀ a : Addr, a.add 0 = a := fun a => by cases a with | mk b o s => cases s <;> simp [Addr.add]
  rcases h3 with ⟨rfl, rfl⟩ | ⟨b, o, cap, rfl, hc, hb, hx⟩ | ⟨a, cap, rfl, rfl⟩
  · obtain rfl : m = 0 := by omega
    refine ⟨.slice none 0 0, by simp [cutO, loO, hiO], ⟨hlen, by omega, .inl ⟨rfl, rfl⟩⟩⟩
  · refine ⟨.slice (some ⟨b, o, none⟩) m cap, ?_, ⟨hlen, by omega, .inr (.inl ⟨b, o, cap, rfl, by omega, hb, fun j u hj => ?_⟩)⟩⟩
    · simp only [cutO, loO, hiO]
      rw [if_pos ⟨by omega, by omega, by omega⟩]
      simp [ha]
    · rw [List.getElem?_take] at hj
      split at hj
      · exact hx j u hj
      · cases hj
  · obtain rfl : m = 0 := by omega
    refine ⟨.slice (some a) 0 cap, ?_, ⟨hlen, by omega, .inr (.inr ⟨a, cap, rfl, rfl⟩)⟩⟩
    simp only [cutO, loO, hiO]
    rw [if_pos ⟨by omega, by omega, by omega⟩]
    simp [ha]
theorem flat_drop {α : Type} (f : α → List Value) {sz : Nat} (hf : ∀ a, (f a).length = sz) : ∀ (L : List α) (m : Nat), (L.flatMap f).drop (m * sz) = (L.drop m).flatMap f
  | L, 0 => by simp
  | [], m + 1 => by simp
  | a :: L, m + 1 => by
    rw [List.flatMap_cons, List.drop_succ_cons, ← flat_drop f hf L m, show (m + 1) * sz = (f a).length + m * sz by rw [hf, Nat.add_mul]; omega, List.drop_length_add_append]
theorem flat_take {α : Type} (f : α → List Value) {sz : Nat} (hf : ∀ a, (f a).length = sz) : ∀ (L : List α) (m : Nat), (L.flatMap f).take (m * sz) = (L.take m).flatMap f
  | L, 0 => by simp
  | [], m + 1 => by simp
  | a :: L, m + 1 => by
    rw [List.flatMap_cons, List.take_succ_cons, List.flatMap_cons, ← flat_take f hf L m, show (m + 1) * sz = (f a).length + m * sz by rw [hf, Nat.add_mul]; omega, List.take_length_add_append]
theorem UsL.cutLo {w : World} {v : Value} {l : List Us} (h : UsL w v l) {m : Nat} (hm : m ≤ l.length) : ∃ v', cutO 6 v (some (.int .i64 (m : Int))) none = some v' ∧ UsL w v' (l.drop m) := by
  obtain ⟨v', h1, h2⟩ := Sh.cutLo (sz := 6) h hm
  rw [flat_drop uC uC_len] at h2
  exact ⟨v', h1, by unfold UsL; rw [List.length_drop]; exact h2⟩
theorem UsL.cutHi {w : World} {v : Value} {l : List Us} (h : UsL w v l) {m : Nat} (hm : m ≤ l.length) : ∃ v', cutO 6 v none (some (.int .i64 (m : Int))) = some v' ∧ UsL w v' (l.take m) := by
  obtain ⟨v', h1, h2⟩ := Sh.cutHi (sz := 6) h hm
  rw [flat_take uC uC_len] at h2
  exact ⟨v', h1, by unfold UsL; rw [List.length_take, Nat.min_eq_left hm]; exact h2⟩

theorem E24 : ElemT PR 24 37 6 56 := .of (z := .agg #[.string ⟨#[]⟩, .int .i64 0, .int .i64 0, .int .i64 0, .int .i64 0, .int .i64 0]) (by kernel_rfl) (by kernel_rfl) rfl (by omega)
theorem uC_one (l : List Us) : ∀ u ∈ l.flatMap uC, u.oneCell' = true := by
  intro u hu
  obtain ⟨a, _, ha⟩ := List.mem_flatMap.1 hu
  simp only [uC, List.mem_cons, List.not_mem_nil, or_false] at ha
  rcases ha with rfl | rfl | rfl | rfl | rfl | rfl <;> rfl

/-! ### arguments -/
section
variable {H : Type} {en : TypeId × Value → H} {w : World} {base : Nat} {spare : Nat → Bool} {held : Bool}
theorem cells2 : PR.cellsOf 2 = 1 := by kernel_rfl
theorem cells9 : PR.cellsOf 9 = 1 := by kernel_rfl
theorem cells23 : PR.cellsOf 23 = 4 := by kernel_rfl
theorem cells37 : PR.cellsOf 37 = 6 := by kernel_rfl
theorem read_str {cs : List Value} (h : Reads en PR w base spare held 9 cs) : ∃ s : Str, cs = [str s] := by
  obtain ⟨s, rfl, _⟩ := reads_string Try.underlying9 h
  refine ⟨s.data.toList, ?_⟩
  unfold str
  simp
theorem read_vec {cs : List Value} (h : Reads en PR w base spare held 23 cs) : ∃ v : List Int, v.length = 4 ∧ cs = enc v := by
  obtain ⟨hl, he⟩ := reads_array Try.underlying23 h
  rw [cells23] at hl
  match cs, hl with
  | [a, b, c, d], _ =>
    have g : ∀ i, i < 4 → ∃ n : Int, (([a, b, c, d] : List Value).drop (i * 1)).take 1 = [.int .i64 n] := fun i hi => by
      have := he i hi
      rw [cells2] at this
      obtain ⟨n, h1, _⟩ := reads_int Try.underlying2 this
      exact ⟨n, h1⟩
    obtain ⟨n0, e0⟩ := g 0 (by omega)
    obtain ⟨n1, e1⟩ := g 1 (by omega)
    obtain ⟨n2, e2⟩ := g 2 (by omega)
    obtain ⟨n3, e3⟩ := g 3 (by omega)
    simp at e0 e1 e2 e3
    exact ⟨[n0, n1, n2, n3], rfl, by simp [enc, e0, e1, e2, e3]⟩
theorem read_us {v : Value} (h : Reads en PR w base spare held 24 [v]) : ∃ l, UsL w v l := by
  obtain ⟨v', rows, hv, hr, hs, hm⟩ := reads_slice Try.underlying24 cells37 (by omega) h
  obtain rfl : v = v' := by simpa using hv
  obtain ⟨l, rfl, _⟩ := list_of uC (fun _ => True) rows fun r hmem => by
    obtain ⟨hl, hread⟩ := hr r hmem
    obtain ⟨_, hf⟩ := reads_struct Try.underlying37 hread
    match r, hl with
    | [c0, c1, c2, c3, c4, c5], _ =>
      obtain ⟨s, h0⟩ := read_str (cs := [c0]) (hf 0 _ rfl)
      obtain ⟨k, h1, _⟩ := reads_int Try.underlying2 (cs := [c1]) (hf 1 _ rfl)
      obtain ⟨v, h2, h3⟩ := read_vec (cs := [c2, c3, c4, c5]) (hf 2 _ rfl)
      match v, h2 with
      | [a, b, c, d], _ =>
        simp [enc] at h0 h1 h3
        exact ⟨⟨s, k, a, b, c, d⟩, by rw [h0, h1, h3.1, h3.2.1, h3.2.2.1, h3.2.2.2]; rfl, trivial⟩
  refine ⟨l, ?_⟩
  unfold UsL
  rw [List.flatMap_def]
  simpa using hs
theorem strs_flat : ∀ l : List Str, (l.map fun s : Str => [str s]).flatten = encS l
  | [] => rfl
  | a :: l => by
    rw [List.map_cons, List.flatten_cons, strs_flat l]; rfl
theorem read_strs {v : Value} (h : Reads en PR w base spare held 26 [v]) : ∃ l : List Str, Sl w 1 v l.length (encS l) := by
  obtain ⟨v', rows, hv, hr, hs, hm⟩ := reads_slice Try.underlying26 cells9 (by omega) h
  obtain rfl : v = v' := by simpa using hv
  obtain ⟨l, rfl, _⟩ := list_of (fun s : Str => [str s]) (fun _ => True) rows fun r hmem => by
    obtain ⟨s, hs⟩ := read_str (hr r hmem).2
    exact ⟨s, hs, trivial⟩
  refine ⟨l, ?_⟩
  rw [strs_flat] at hs
  simpa using hs
end

end Go.Proofs.Ythhpdcegkbfijaa.Sh
