/-
  How the conditions are reckoned with: the pure words, memory, slices.
-/
import Derived.Test.YthhpdcegkbfijaaVText
import Derived.WalkKit
namespace Go.Proofs.Ythhpdcegkbfijaa.V
set_option linter.all false
set_option linter.unusedVariables false
set_option linter.unusedSimpArgs false
set_option linter.unnecessarySimpa false

theorem wrap64' {n : Int} (h1 : -9223372036854775808 ≤ n) (h2 : n ≤ 9223372036854775807) : IntKind.i64.wrap n = n := by
  simp only [IntKind.wrap, IntKind.bits, IntKind.signed, Bool.true_and]
  split
  · rename_i h; simp at h; omega
  · rename_i h; simp at h; omega
theorem wrapu64' {n : Int} (h1 : 0 ≤ n) (h2 : n ≤ 18446744073709551615) : IntKind.u64.wrap n = n := by
  simp only [IntKind.wrap, IntKind.bits, IntKind.signed, Bool.false_and]
  simp; omega
theorem wrapu8' {n : Int} (h1 : 0 ≤ n) (h2 : n ≤ 255) : IntKind.u8.wrap n = n := by
  simp only [IntKind.wrap, IntKind.bits, IntKind.signed, Bool.false_and]
  simp; omega
theorem wrapi32' {n : Int} (h1 : -2147483648 ≤ n) (h2 : n ≤ 2147483647) : IntKind.i32.wrap n = n := by
  simp only [IntKind.wrap, IntKind.bits, IntKind.signed, Bool.true_and]
  split
  · rename_i h; simp at h; omega
  · rename_i h; simp at h; omega

theorem cnd_bool (b : Bool) (A B : Prop) : cnd (.bool b) A B = ((b = true → A) ∧ (b = false → B)) := by
  cases b <;> simp [cnd]
theorem add_lit (b o n : Nat) : (⟨b, o, none⟩ : Addr).add n = ⟨b, o + n, none⟩ := by
  unfold Addr.add; split <;> simp_all

/-- The pure words, all of them: for 'simp only [vs]'. -/
theorem vs : (∀ (v : Value) (K : Value → Prop), pO (some v) K = K v) ∧ (∀ A B : Prop, cnd (.bool true) A B = A) ∧ (∀ A B : Prop, cnd (.bool false) A B = B)
    ∧ (∀ (X : Type) (u : X) A w K, gB (.bool true) true u A w K = A K) ∧ (∀ (X : Type) (u : X) A w K, gB (.bool false) true u A w K = K u w)
    ∧ (∀ (X : Type) (u : X) A w K, gB (.bool false) false u A w K = A K) ∧ (∀ (X : Type) (u : X) A w K, gB (.bool true) false u A w K = K u w)
    ∧ (∀ A w K, gd (.bool true) true A w K = A K) ∧ (∀ A w K, gd (.bool false) true A w K = K undef w)
    ∧ (∀ A w K, gd (.bool false) false A w K = A K) ∧ (∀ A w K, gd (.bool true) false A w K = K undef w)
    ∧ (∀ a b, pkO (.bool true) a b = some a) ∧ (∀ a b, pkO (.bool false) a b = some b)
    ∧ (∀ a, ncO (.pointer (some a)) = some (.pointer (some a))) ∧ (∀ n b o, faO n (.pointer (some ⟨b, o, none⟩)) = some (.pointer (some ⟨b, o + n, none⟩)))
    ∧ (∀ b, unO .not (.bool b) = some (.bool !b)) ∧ (∀ neg b, cmpO neg (some b) = some (.bool (b != neg)))
    ∧ (∀ k a b, eqlO (.int k a) (.int k b) = some (a == b)) ∧ (∀ a b, eqbO (.bool a) (.bool b) = some (a == b)) ∧ (∀ a, eqpO (.pointer (some a)) (.pointer none) = some false) ∧ (eqpO (.pointer none) (.pointer none) = some true)
    ∧ (∀ a n c x y, eqsO (.slice (some a) n c) (.slice none x y) = some false) ∧ (∀ n c x y, eqsO (.slice none n c) (.slice none x y) = some true)
    ∧ (∀ v vs, exO (.tuple #[v, vs]) 0 = some v) ∧ (∀ v vs, exO (.tuple #[v, vs]) 1 = some vs)
    ∧ (∀ u v x, exO (.tuple #[u, v, x]) 0 = some u) ∧ (∀ u v x, exO (.tuple #[u, v, x]) 1 = some v) ∧ (∀ u v x, exO (.tuple #[u, v, x]) 2 = some x)
    ∧ (∀ a n c, lenO (.slice a n c) = some (.int .i64 n)) ∧ (∀ s, lenSO (.string s) = some (.int .i64 s.size))
    ∧ (∀ b : Bool, (b != false) = b) ∧ (∀ b : Bool, (b != true) = !b) ∧ ((!true) = false) ∧ ((!false) = true)
    ∧ (∀ (X : Type) (u : X) b A w K, gB undef b u A w K = K u w) ∧ (∀ b A w K, gd undef b A w K = K undef w) := by
  refine ⟨fun _ _ => rfl, fun _ _ => rfl, fun _ _ => rfl, ?_, ?_, ?_, ?_, ?_, ?_, ?_, ?_, fun _ _ => rfl, fun _ _ => rfl, fun _ => rfl, ?_, fun _ => rfl, fun _ _ => rfl, ?_, fun _ _ => rfl, fun _ => rfl, rfl,
    fun _ _ _ _ _ => rfl, fun _ _ _ _ => rfl, fun _ _ => rfl, fun _ _ => rfl, fun _ _ _ => rfl, fun _ _ _ => rfl, fun _ _ _ => rfl, fun _ _ _ => rfl, fun _ => rfl, ?_, ?_, rfl, rfl, ?_, ?_⟩
  iterate 8 (intros; simp [gB, gd])
  · intro n b o; simp only [faO, add_lit]
  · intro k a b; simp [eqlO]
  · intro b; cases b <;> rfl
  · intro b; cases b <;> rfl
  · intros; simp [gB, undef]
  · intros; simp [gd, undef]

/-- int's arithmetic, where it fits: for 'simp (disch := omega) only [ar]'. -/
theorem ar : (∀ a b : Int, -9223372036854775808 ≤ a + b → a + b ≤ 9223372036854775807 → arithO .add (.int .i64 a) (.int .i64 b) = some (.int .i64 (a + b)))
    ∧ (∀ a b : Int, -9223372036854775808 ≤ a - b → a - b ≤ 9223372036854775807 → arithO .sub (.int .i64 a) (.int .i64 b) = some (.int .i64 (a - b)))
    ∧ (∀ k (a b : Int), arithO .lss (.int k a) (.int k b) = some (.bool (decide (a < b)))) ∧ (∀ k (a b : Int), arithO .leq (.int k a) (.int k b) = some (.bool (decide (a ≤ b))))
    ∧ (∀ k (a b : Int), arithO .gtr (.int k a) (.int k b) = some (.bool (decide (a > b)))) ∧ (∀ k (a b : Int), arithO .geq (.int k a) (.int k b) = some (.bool (decide (a ≥ b)))) := by
  refine ⟨fun a b h1 h2 => ?_, fun a b h1 h2 => ?_, ?_, ?_, ?_, ?_⟩
  · simp [arithO, wrap64' h1 h2]
  · simp [arithO, wrap64' h1 h2]
  all_goals (intros; simp [arithO])

/-! ### What a call may change -/
structure Ext (S : Nat → Prop) (w w' : World) : Prop where
  os : w'.os = w.os
  tape : w'.tape = w.tape
  output : w'.output = w.output
  size : w.heap.size ≤ w'.heap.size
  block : ∀ k, k < w.heap.size → ¬ S k → w'.heap[k]? = w.heap[k]?
def No : Nat → Prop := fun _ => False
theorem Ext.refl (S : Nat → Prop) (w : World) : Ext S w w := ⟨rfl, rfl, rfl, Nat.le_refl _, fun _ _ _ => rfl⟩
theorem Ext.trans {S S' : Nat → Prop} {a b c : World} (h : Ext S a b) (h' : Ext S' b c) (hs : ∀ k, k < a.heap.size → S' k → S k) : Ext S a c :=
  ⟨h'.os.trans h.os, h'.tape.trans h.tape, h'.output.trans h.output, Nat.le_trans h.size h'.size, fun k hk hn => (h'.block k (Nat.lt_of_lt_of_le hk h.size) (fun h2 => hn (hs k hk h2))).trans (h.block k hk hn)⟩
theorem Ext.mono {S S' : Nat → Prop} {a b : World} (h : Ext S a b) (hs : ∀ k, k < a.heap.size → S k → S' k) : Ext S' a b :=
  ⟨h.os, h.tape, h.output, h.size, fun k hk hn => h.block k hk fun h2 => hn (hs k hk h2)⟩
theorem Ext.no {S : Nat → Prop} {a b : World} (h : Ext No a b) : Ext S a b := h.mono fun _ _ h => h.elim
theorem Ext.drew {S : Nat → Prop} {a w : World} (h : Ext S a w) : Ext S a w.drew := ⟨h.os, h.tape, h.output, h.size, h.block⟩
theorem Ext.undrew {S : Nat → Prop} {a w : World} (h : Ext S a.drew w) : Ext S a w := ⟨h.os, h.tape, h.output, h.size, h.block⟩
theorem Ext.alloc {S : Nat → Prop} {a w : World} (h : Ext S a w) (o : Obj) : Ext S a (w.alloc o) :=
  h.trans (S' := No) ⟨rfl, rfl, rfl, by simp, fun k hk _ => RowKit.Below.heap_alloc w o k hk⟩ fun _ _ h => h.elim
theorem Ext.setCell {S : Nat → Prop} {a w : World} (h : Ext S a w) {b o : Nat} (hb : b < a.heap.size → S b) (v : Value) : Ext S a (w.setCell ⟨b, o, none⟩ v) :=
  h.trans (S' := fun k => k = b) ⟨rfl, rfl, rfl, by simp, fun k hk hn => heap_setCell_other w ⟨b, o, none⟩ k v hn⟩ fun k hk e => by subst e; exact hb hk
theorem Ext.below {w w' : World} (h : Ext No w w') : RowKit.Below w.heap.size w w' := ⟨h.os, h.tape, h.output, h.size, fun k hk => h.block k hk fun h => h⟩
theorem Ext.cell {S : Nat → Prop} {w w' : World} (h : Ext S w w') {a : Addr} {v : Value} (hc : w.cell? a = some v) (hn : ¬ S a.block) : w'.cell? a = some v := by
  rw [← hc]; exact World.cell?_of_block (h.block a.block (block_lt_of_cell hc) hn)
theorem Ext.heap {S : Nat → Prop} {w w' : World} (h : Ext S w w') {b : Nat} {o : Obj} (hc : w.heap[b]? = some o) (hn : ¬ S b) : w'.heap[b]? = some o := by
  rw [← hc]; exact h.block b (Array.getElem?_eq_some_iff.1 hc).1 hn

/-! ### Slices -/
/-- The slice v reads as n elements, the cells xs, sz cells each. -/
def Sl (w : World) (sz : Nat) (v : Value) (n : Nat) (xs : List Value) : Prop :=
  xs.length = n * sz ∧ n ≤ 9223372036854775807 ∧ ((v = .slice none 0 0 ∧ n = 0) ∨ (∃ b o cap, v = .slice (some ⟨b, o, none⟩) n cap ∧ n ≤ cap ∧ b < w.heap.size ∧ ∀ j u, xs[j]? = some u → w.cell? ⟨b, o + j, none⟩ = some u) ∨ ∃ a cap, v = .slice (some a) 0 cap ∧ n = 0)
/-- It owns the whole of its block. -/
def Own (w : World) (T : TypeId) (sz : Nat) (v : Value) (n : Nat) (xs : List Value) : Prop := w.ownsRow 0 T sz v n xs
def inB (v : Value) : Nat → Prop := fun k => v.ownBlock = some k

theorem Own.nil (w : World) (T sz : Nat) : Own w T sz (.slice none 0 0) 0 [] := World.ownsRow_nil w 0 T sz
theorem Own.sl {w : World} {T sz : Nat} {v : Value} {n : Nat} {xs : List Value} (h : Own w T sz v n xs) (hn : n ≤ 9223372036854775807) : Sl w sz v n xs := by
  obtain ⟨h1, h2⟩ := h
  refine ⟨h1, hn, ?_⟩
  rcases h2 with h2 | ⟨g, cap, cur, hv, _, hg, hc, _, hs, ht⟩
  · exact .inl h2
  · refine .inr (.inl ⟨g, 0, cap, hv, hc, (Array.getElem?_eq_some_iff.1 hg).1, fun j u hj => ?_⟩)
    rw [Nat.zero_add, cell_of_row w g j cur T (0, 0) hg]
    rw [← ht, List.getElem?_take] at hj
    split at hj
    · simpa using hj
    · cases hj
theorem Own.lt {w : World} {T sz : Nat} {v : Value} {n : Nat} {xs : List Value} (h : Own w T sz v n xs) {k : Nat} (hk : inB v k) : k < w.heap.size := by
  obtain ⟨h1, h2⟩ := h
  rcases h2 with ⟨hv, _⟩ | ⟨g, cap, cur, hv, _, hg, _⟩
  · subst hv; simp [inB, Value.ownBlock] at hk
  · subst hv
    simp only [inB, Value.ownBlock, Option.some.injEq] at hk
    subst hk
    exact (Array.getElem?_eq_some_iff.1 hg).1
theorem Own.ext {S : Nat → Prop} {w w' : World} {T sz : Nat} {v : Value} {n : Nat} {xs : List Value} (h : Own w T sz v n xs) (he : Ext S w w') (hn : ∀ k, inB v k → ¬ S k) : Own w' T sz v n xs := by
  obtain ⟨h1, h2⟩ := h
  refine ⟨h1, ?_⟩
  rcases h2 with h2 | ⟨g, cap, cur, hv, h0, hg, h3⟩
  · exact .inl h2
  · exact .inr ⟨g, cap, cur, hv, h0, he.heap hg (hn g (by subst hv; rfl)), h3⟩
theorem Sl.ext {S : Nat → Prop} {w w' : World} {sz : Nat} {v : Value} {n : Nat} {xs : List Value} (h : Sl w sz v n xs) (he : Ext S w w') (hn : ∀ k, inB v k → ¬ S k) : Sl w' sz v n xs := by
  obtain ⟨h1, h2, h3⟩ := h
  refine ⟨h1, h2, ?_⟩
  rcases h3 with h3 | ⟨b, o, cap, hv, hc, hb, hx⟩ | h3
  · exact .inl h3
  · exact .inr (.inl ⟨b, o, cap, hv, hc, Nat.lt_of_lt_of_le hb he.size, fun j u hj => he.cell (hx j u hj) (hn b (by subst hv; rfl))⟩)
  · exact .inr (.inr h3)
theorem Sl.lt {w : World} {sz : Nat} {v : Value} {n : Nat} {xs : List Value} (h : Sl w sz v n xs) (h0 : 0 < n) {k : Nat} (hk : inB v k) : k < w.heap.size := by
  obtain ⟨h1, h2, h3⟩ := h
  rcases h3 with ⟨hv, _⟩ | ⟨b, o, cap, hv, hc, hb, hx⟩ | ⟨a, cap, hv, h3⟩
  · subst hv; simp [inB, Value.ownBlock] at hk
  · subst hv
    simp only [inB, Value.ownBlock, Option.some.injEq] at hk
    subst hk; exact hb
  · omega
theorem Sl.nil (w : World) (sz : Nat) : Sl w sz (.slice none 0 0) 0 [] := ⟨by simp, by omega, .inl ⟨rfl, rfl⟩⟩

theorem Sl.len {w : World} {sz : Nat} {v : Value} {n : Nat} {xs : List Value} (h : Sl w sz v n xs) : lenO v = some (.int .i64 n) := by
  rcases h.2.2 with ⟨rfl, rfl⟩ | ⟨b, o, cap, rfl, _⟩ | ⟨a, cap, rfl, rfl⟩ <;> rfl
/-- An element's address, and what lies there. -/
theorem Sl.at {w : World} {sz : Nat} {v : Value} {n : Nat} {xs : List Value} (h : Sl w sz v n xs) {k : IntKind} {i : Int} (h0 : 0 ≤ i) (hi : i < n) :
    ∃ b o, inB v b ∧ b < w.heap.size ∧ ixsO sz v (.int k i) = some (.pointer (some ⟨b, o, none⟩)) ∧ ∀ j u, j < sz → xs[i.toNat * sz + j]? = some u → w.cell? ⟨b, o + j, none⟩ = some u := by
  rcases h.2.2 with ⟨rfl, rfl⟩ | ⟨b, o, cap, rfl, hc, hb, hx⟩ | ⟨a, cap, rfl, rfl⟩
  rotate_left 2
  · omega
  · omega
  · refine ⟨b, o + i.toNat * sz, rfl, hb, ?_, fun j u _ hj => ?_⟩
    · simp only [ixsO, h0, hi, and_self, if_true, add_lit]
    · have := hx (i.toNat * sz + j) u hj
      rwa [← Nat.add_assoc] at this
/-- One-cell elements: read. -/
theorem Sl.get {w : World} {v : Value} {n : Nat} {xs : List Value} (h : Sl w 1 v n xs) {k : IntKind} {i : Int} (h0 : 0 ≤ i) (hi : i < n) {u : Value} (hu : xs[i.toNat]? = some u) (K : Value → Prop) :
    pO (ixsO 1 v (.int k i)) (fun p => l1 p w K) = K u := by
  obtain ⟨b, o, _, _, he, hx⟩ := h.at (k := k) h0 hi
  have := hx 0 u (by omega) (by simpa using hu)
  rw [he]
  simp only [pO, l1, eq_iff_iff]
  exact ⟨fun ⟨a, v', h1, h2, h3⟩ => by cases h1; rw [Nat.add_zero] at this; rw [this] at h2; cases h2; exact h3, fun hk => ⟨_, _, rfl, by simpa using this, hk⟩⟩

theorem l1_eq {a : Addr} {w : World} {v : Value} (h : w.cell? a = some v) (K : Value → Prop) : l1 (.pointer (some a)) w K = K v := by
  simp only [l1, eq_iff_iff]
  exact ⟨fun ⟨a', v', h1, h2, h3⟩ => by cases h1; rw [h] at h2; cases h2; exact h3, fun hk => ⟨_, _, rfl, h, hk⟩⟩
theorem l1C_of {C : World → Prop} {a : Addr} {v : Value} (h : ∀ w', C w' → w'.cell? a = some v) {K : Value → Prop} (hk : K v) : l1C C (.pointer (some a)) K := ⟨_, _, rfl, h, hk⟩
theorem rdN_of {w : World} {b o : Nat} : ∀ (vs : List Value) (i : Nat), (∀ j u, vs[j]? = some u → w.cell? ⟨b, o + (i + j), none⟩ = some u) → rdN w ⟨b, o, none⟩ vs.length i = some vs
  | [], i, h => rfl
  | v :: vs, i, h => by
    have h0 : w.cell? ((⟨b, o, none⟩ : Addr).add i) = some v := by rw [add_lit]; exact h 0 v rfl
    have h1 := rdN_of vs (i + 1) (fun j u hj => by rw [show i + 1 + j = i + (j + 1) by omega]; exact h (j + 1) u (by simpa using hj))
    simp only [List.length_cons, rdN, h0, h1]
theorem lN_of {w : World} {b o : Nat} {vs : List Value} {n : Nat} (hn : vs.length = n) (h : ∀ j u, vs[j]? = some u → w.cell? ⟨b, o + j, none⟩ = some u) {K : Value → Prop} (hk : K (.agg vs.toArray)) : lN n (.pointer (some ⟨b, o, none⟩)) w K := by
  subst hn
  exact ⟨_, _, rfl, rdN_of vs 0 (fun j u hj => by rw [Nat.zero_add]; exact h j u hj), hk⟩
theorem st1_of {w : World} {a : Addr} {v u : Value} (h : w.cell? a = some u) (hf : w.frozen? a = false) (hv : oneB v = true) (hc : v.cells.size = 1) (hcs : v.cells.toList = [v]) {K : World → Prop} (hk : K (w.setCell a v)) :
    stW 1 (.pointer (some a)) v w K := by
  refine ⟨a, w.setCell a v, rfl, hc, ?_, hk⟩
  have h0 : a.add 0 = a := by simp [Addr.add]
  rw [hcs]
  simp only [stN, h0, hv, h, hf, Option.isSome_some, Bool.not_false, Bool.and_true, if_true]
theorem st1_int {w : World} {a : Addr} {k : IntKind} {n : Int} {u : Value} (h : w.cell? a = some u) (hf : w.frozen? a = false) {K : World → Prop} (hk : K (w.setCell a (.int k n))) : stW 1 (.pointer (some a)) (.int k n) w K := st1_of h hf rfl rfl rfl hk
theorem st1_bool {w : World} {a : Addr} {b : Bool} {u : Value} (h : w.cell? a = some u) (hf : w.frozen? a = false) {K : World → Prop} (hk : K (w.setCell a (.bool b))) : stW 1 (.pointer (some a)) (.bool b) w K := st1_of h hf rfl rfl rfl hk
theorem st1_slice {w : World} {a : Addr} {x : Option Addr} {n c : Nat} {u : Value} (h : w.cell? a = some u) (hf : w.frozen? a = false) {K : World → Prop} (hk : K (w.setCell a (.slice x n c))) : stW 1 (.pointer (some a)) (.slice x n c) w K := st1_of h hf rfl rfl rfl hk

/-! ### append -/
/-- What an element type's row of the table says. -/
structure ElemT (P : Program) (t e : TypeId) (sz bytes : Nat) : Prop where
  under : P.underlying t = some (.slice e)
  info : ∃ i z, P.info? e = some i ∧ i.zero = some z ∧ i.size = sz ∧ i.bytes = bytes ∧ z.cells.size = sz
  pos : 0 < sz

theorem ElemT.of {P : Program} {t e sz bytes : Nat} {z : Value} (hu : P.underlying t = some (.slice e)) (h : (P.info? e).map (fun i => (i.zero, i.size, i.bytes)) = some (some z, sz, bytes)) (hz : z.cells.size = sz) (hp : 0 < sz) : ElemT P t e sz bytes := by
  cases hi : P.info? e with
  | none => simp [hi] at h
  | some i =>
    simp only [hi, Option.map_some, Option.some.injEq, Prod.mk.injEq] at h
    exact ⟨hu, ⟨i, z, hi, h.1, h.2.1, h.2.2, hz⟩, hp⟩

theorem append_own {P : Program} {w : World} {t ty e sz bytes : Nat} (hE : ElemT P t e sz bytes) {v x : Value} {n m : Nat} {xs news : List Value} (hown : Own w e sz v n xs) (hx : Sl w sz x m news)
    (h1 : ∀ u ∈ news, u.oneCell' = true) (h63 : n + m ≤ 9223372036854775807) (hbytes : (n + m) * bytes ≤ 140737488355328) {K : Kv}
    (hK : ∀ v' w', Own w' e sz v' (n + m) (xs ++ news) → Ext (inB v) w w' → (∀ k, inB v' k → inB v k ∨ w.heap.size ≤ k) → (v' = .slice none 0 0 ↔ v = .slice none 0 0 ∧ m = 0) → K v' w') :
    sv P (Builtin.append_ #[t, t] ty #[v, x]) w K := by
  obtain ⟨i, z, hi, hz, hs, hb, hzs⟩ := hE.info
  subst hs; subst hb
  have hsz := hE.pos
  have ht := hE.under
  have hm : n + m ≤ maxLen := by simp only [maxLen]; omega
  -- nothing is appended
  rcases hx.2.2 with ⟨rfl, rfl⟩ | ⟨b, o, cap, rfl, hc, hbl, hcell⟩ | ⟨a, cap, rfl, rfl⟩
  rotate_left 2
  · have hn0 : news = [] := List.eq_nil_of_length_eq_zero (by simpa using hx.1)
    subst hn0
    have : (Builtin.append_ #[t, t] ty #[v, .slice (some a) 0 cap]).run P w = .ok v w := by
      rcases hown.2 with ⟨rfl, rfl⟩ | ⟨g, cap', cur, rfl, _, hg, hnc, _⟩
      · simp [Builtin.append_, run_underlying ht, sizeOf, typeInfo, hi, Builtin.lenOf, Builtin.firstCells, loadCells, loadCellsFrom]
      · simp [Builtin.append_, run_underlying ht, sizeOf, typeInfo, hi, Builtin.lenOf, Builtin.firstCells, hnc, loadCells, loadCellsFrom, storeCells]
    unfold sv
    rw [this]
    exact hK v w (by simpa using hown) (Ext.refl _ _) (fun k hk => .inl hk) (by simp)
  · have hn0 : news = [] := List.eq_nil_of_length_eq_zero (by simpa using hx.1)
    subst hn0
    have : (Builtin.append_ #[t, t] ty #[v, .slice none 0 0]).run P w = .ok v w := by
      rcases hown.2 with ⟨rfl, rfl⟩ | ⟨g, cap, cur, rfl, _, hg, hnc, _⟩
      · simp [Builtin.append_, run_underlying ht, sizeOf, typeInfo, hi, Builtin.lenOf, Builtin.firstCells, storeCells]
      · simp [Builtin.append_, run_underlying ht, sizeOf, typeInfo, hi, Builtin.lenOf, Builtin.firstCells, hnc, storeCells]
    unfold sv
    rw [this]
    exact hK v w (by simpa using hown) (Ext.refl _ _) (fun k hk => .inl hk) (by simp)
  have hnews : ∀ j u, news[j]? = some u → w.cell? ((⟨b, o, none⟩ : Addr).add j) = some u := fun j u hj => by rw [add_lit]; exact hcell j u hj
  have hlen : (xs ++ news).length = (n + m) * i.size := by rw [List.length_append, hown.1, hx.1, Nat.add_mul]
  have hbytes' : (n + m) * i.bytes ≤ 140737488355328 := hbytes
  -- a new block
  have grown : ∀ (old : Nat), old < n + m → ∀ (xs' : List Value), xs' = xs →
      Own (w.drew.alloc (.cells (xs'.toArray ++ news.toArray ++ Builtin.zeroCells z.cells (grownCap w (n + m) old e - (n + m))) e)) e i.size (.slice (some ⟨w.heap.size, 0, none⟩) (n + m) (grownCap w (n + m) old e)) (n + m) (xs ++ news) ∧
      Ext (inB v) w (w.drew.alloc (.cells (xs'.toArray ++ news.toArray ++ Builtin.zeroCells z.cells (grownCap w (n + m) old e - (n + m))) e)) := by
    rintro old ho xs' rfl
    have hge := grownCap_ge w (n + m) old e
    have hcm : grownCap w (n + m) old e ≤ maxLen := grownCap_le_maxLen w (n + m) old e hm
    refine ⟨⟨hlen, .inr ⟨w.heap.size, _, _, rfl, Nat.zero_le _, heap_alloc_new w.drew _, hge, hcm, ?_, ?_⟩⟩, ((Ext.refl _ _).drew).alloc _⟩
    · simp only [Array.size_append, List.size_toArray, size_zeroCells, hzs, hown.1, hx.1, ← Nat.add_mul]
      congr 1
      omega
    · simp only [Array.toList_append, List.append_assoc]
      rw [← List.append_assoc, ← hlen]
      exact List.take_left
  rcases hown.2 with ⟨rfl, rfl⟩ | ⟨g, cap', cur, rfl, _, hg, hnc, hcm, hcs, htake⟩
  · have hxs : xs = [] := List.eq_nil_of_length_eq_zero (by simpa using hown.1)
    subst hxs
    by_cases hm0 : m = 0
    · subst hm0
      have hn0 : news = [] := List.eq_nil_of_length_eq_zero (by simpa using hx.1)
      subst hn0
      have : (Builtin.append_ #[t, t] ty #[.slice none 0 0, .slice (some ⟨b, o, none⟩) 0 cap]).run P w = .ok (.slice none 0 0) w := by
        simp [Builtin.append_, run_underlying ht, sizeOf, typeInfo, hi, Builtin.lenOf, Builtin.firstCells, loadCells, loadCellsFrom]
      unfold sv
      rw [this]
      exact hK _ w (Own.nil _ _ _) (Ext.refl _ _) (fun k hk => .inl hk) (by simp)
    · have hr := run_append_nil (P := P) w t ty e i z ht hi hz ⟨b, o, none⟩ m cap news hx.1 hnews (by omega) (by omega) (by have hb := hbytes'; simp only [Nat.zero_add] at hb; omega)
      have hgr := grown 0 (by omega) [] rfl
      simp only [Nat.zero_add, List.nil_append, Array.empty_append] at hgr hK
      unfold sv
      rw [hr]
      exact hK _ _ hgr.1 hgr.2 (fun k hk => .inr (by simp only [inB, Value.ownBlock, Option.some.injEq] at hk; omega)) (by simp [hm0])
  · by_cases hroom : n + m ≤ cap'
    · have hfit : n * i.size + news.length ≤ cur.size := by rw [hx.1, hcs, ← Nat.add_mul]; exact Nat.mul_le_mul_right _ hroom
      have hr := run_append_room (P := P) w t ty e i ht hi g n cap' cur hg ⟨b, o, none⟩ m cap news hx.1 hnews h1 hroom hfit
      unfold sv
      rw [hr]
      refine hK _ _ ⟨hlen, .inr ⟨g, cap', _, rfl, Nat.zero_le _, setRow_heap w g cur _ e _ hg, hroom, hcm, ?_, ?_⟩⟩ ⟨rfl, rfl, rfl, by simp, fun k _ hk => setRow_other w g k _ (fun e => hk (by simp [inB, Value.ownBlock, e]))⟩ (fun k hk => .inl hk) (by simp)
      · simp only [List.size_toArray, List.length_append, List.length_take, List.length_drop, Array.length_toList]
        omega
      · rw [htake, ← hlen]
        exact List.take_left
    · have holds : ∀ j u, xs[j]? = some u → w.cell? ((⟨g, 0, none⟩ : Addr).add j) = some u := World.ownsRow.cells hown (g := g) rfl
      have hr := run_append_grow (P := P) w t ty e i z ht hi hz ⟨g, 0, none⟩ n cap' xs hown.1 holds ⟨b, o, none⟩ m cap news hx.1 hnews (by omega) (by omega) (growslice_fits (by omega) hbytes')
      have hgr := grown cap' (by omega) xs rfl
      unfold sv
      rw [hr]
      exact hK _ _ hgr.1 hgr.2 (fun k hk => .inr (by simp only [inB, Value.ownBlock, Option.some.injEq] at hk; omega)) (by simp)

end Go.Proofs.Ythhpdcegkbfijaa.V
