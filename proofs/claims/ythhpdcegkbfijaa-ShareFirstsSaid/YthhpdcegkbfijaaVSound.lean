/-
  Each operation's reckoning serves the model's own run of it.
-/
import Derived.Test.YthhpdcegkbfijaaVCore
import Derived.Laws.Cells
namespace Go.Proofs.Ythhpdcegkbfijaa.V
set_option linter.all false
set_option linter.unusedVariables false
set_option linter.unusedSimpArgs false
set_option linter.unnecessarySimpa false

theorem run_v (P : Program) (s : Sem Value) (w : World) : (do pure (Next.value (← s)) : Sem Next).run P w = match s.run P w with | .ok v w' => .ok (.value v) w' | .halt h w' => .halt h w' := by
  simp only [Sem.run_bind]
  cases s.run P w <;> rfl
theorem run_u (P : Program) (s : Sem Unit) (w : World) : (do s; pure Next.skip : Sem Next).run P w = match s.run P w with | .ok _ w' => .ok .skip w' | .halt h w' => .halt h w' := by
  simp only [Sem.run_bind]
  cases s.run P w <;> rfl

/-- The reckoning serves: whatever is to follow is reached. -/
def Serves (P : Program) (o : Oper) (e : Operand → Value) (w : World) (K : Kv) : Prop :=
  match (execOp e o).run P w with
  | .ok (.value v) w' => K v w'
  | .ok .skip w' => K undef w'
  | .ok (.enter f args) w' => Ret P f args w' K
  | _ => False

theorem serves_v {P : Program} {o : Oper} {e : Operand → Value} {w : World} {K : Kv} {s : Sem Value} (he : execOp e o = do pure (.value (← s))) (h : sv P s w K) : Serves P o e w K := by
  unfold Serves
  rw [he, run_v]
  unfold sv at h
  cases hr : s.run P w with
  | ok v w' => rw [hr] at h; exact h
  | halt x w' => rw [hr] at h; exact h.elim
theorem serves_u {P : Program} {o : Oper} {e : Operand → Value} {w : World} {K : Kv} {s : Sem Unit} (he : execOp e o = do s; pure .skip) (h : su P s w K) : Serves P o e w K := by
  unfold Serves
  rw [he, run_u]
  unfold su at h
  cases hr : s.run P w with
  | ok v w' => rw [hr] at h; exact h
  | halt x w' => rw [hr] at h; exact h.elim
theorem serves_of_run {P : Program} {o : Oper} {e : Operand → Value} {w w' : World} {K : Kv} {v : Value} (he : (execOp e o).run P w = .ok (.value v) w') (h : K v w') : Serves P o e w K := by
  unfold Serves; rw [he]; exact h

theorem undl {P : Program} {t : TypeId} {d : TypeDesc} (h : P.underlying t = some d) (w : World) : (underlying t).run P w = .ok d w := by
  simp [underlying, program, Sem.run, h]
theorem szl {P : Program} {t : TypeId} {n : Nat} (h : szO P t = some n) (w : World) : (sizeOf t).run P w = .ok n w := by
  unfold szO at h
  cases hi : P.info? t with
  | none => rw [hi] at h; cases h
  | some i => rw [hi] at h; cases h; simp [sizeOf, typeInfo, program, Sem.run, hi]

/-! ### Loads and stores -/
theorem rdN_spec {w : World} {a : Addr} : ∀ (n i : Nat) (vs : List Value), rdN w a n i = some vs → vs.length = n ∧ ∀ j v, vs[j]? = some v → w.cell? (a.add (i + j)) = some v
  | 0, i, vs, h => by simp only [rdN, Option.some.injEq] at h; subst h; simp
  | n + 1, i, vs, h => by
    unfold rdN at h
    cases hc : w.cell? (a.add i) with
    | none => simp [hc] at h
    | some v =>
      cases hr : rdN w a n (i + 1) with
      | none => simp [hc, hr] at h
      | some us =>
        simp only [hc, hr, Option.some.injEq] at h
        subst h
        obtain ⟨h1, h2⟩ := rdN_spec n (i + 1) us hr
        refine ⟨by simp [h1], fun j u hu => ?_⟩
        cases j with
        | zero => simp only [List.getElem?_cons_zero, Option.some.injEq] at hu; subst hu; simpa using hc
        | succ j =>
          have := h2 j u (by simpa using hu)
          rw [show i + (j + 1) = i + 1 + j by omega]; exact this

theorem run_loadN {P : Program} {t : TypeId} {n : Nat} {w : World} {a : Addr} {vs : List Value} (ht : aggO P t = some true) (hs : szO P t = some n) (h : rdN w a n 0 = some vs) :
    (loadVar t a).run P w = .ok (.agg vs.toArray) w := by
  obtain ⟨h1, h2⟩ := rdN_spec n 0 vs h
  have hl := run_loadCells_list (P := P) (w := w) a vs (fun j v hv => by have := h2 j v hv; simpa using this)
  rw [h1] at hl
  unfold aggO at ht
  cases hu : P.underlying t with
  | none => simp [hu] at ht
  | some d =>
    have hd : (match d with | .struct _ | .array _ _ => true | _ => false) = true := by
      cases d <;> simp [hu] at ht <;> rfl
    have hagg : (isAgg t).run P w = .ok true w := by
      unfold isAgg
      simp only [Sem.run_bind, undl hu, Result.andThen_ok]
      cases d <;> simp at hd <;> rfl
    unfold loadVar
    simp only [Sem.run_bind, hagg, Result.andThen_ok, if_true, szl hs, hl, Sem.run_pure]

theorem run_load1 {P : Program} {t : TypeId} {w : World} {a : Addr} {v : Value} (ht : aggO P t = some false) (h : w.cell? a = some v) :
    (loadVar t a).run P w = .ok v w := by
  unfold aggO at ht
  cases hu : P.underlying t with
  | none => simp [hu] at ht
  | some d =>
    have hagg : (isAgg t).run P w = .ok false w := by
      unfold isAgg
      simp only [Sem.run_bind, undl hu, Result.andThen_ok]
      cases d <;> simp [hu] at ht <;> rfl
    unfold loadVar
    simp only [Sem.run_bind, hagg, Result.andThen_ok, Bool.false_eq_true, if_false, load, Sem.run, h]

theorem run_storeCells {P : Program} : ∀ (vs : List Value) (i : Nat) (a : Addr) (w w' : World), stN vs i a w = some w' → (storeCells a vs i).run P w = .ok () w'
  | [], i, a, w, w', h => by simp only [stN, Option.some.injEq] at h; subst h; rfl
  | v :: vs, i, a, w, w', h => by
    unfold stN at h
    split at h
    · rename_i hc
      simp only [Bool.and_eq_true, Bool.not_eq_true'] at hc
      obtain ⟨⟨h1, h2⟩, h3⟩ := hc
      obtain ⟨u, hu⟩ := Option.isSome_iff_exists.1 h2
      have hst : (store (a.add i) v).run P w = .ok () (w.setCell (a.add i) v) := by
        unfold store
        cases v <;> simp only [oneB, Bool.false_eq_true] at h1 <;> simp [Sem.run, hu, h3]
      unfold storeCells
      simp only [Sem.run_bind, hst, Result.andThen_ok]
      exact run_storeCells vs (i + 1) a _ w' h
    · cases h

/-! ### The pure ones -/
theorem run_sliceBound {P : Program} {w : World} (k : IntKind) (i : Int) (y : Nat) (code : BoundsCode) (h0 : 0 ≤ i) (h1 : i ≤ y) : (Instr.sliceBound (.int k i) y code).run P w = .ok i.toNat w := by
  simp [Instr.sliceBound, asIntOf, h0, h1]

/-! ### What a kind says of the tables -/
section
variable {P : Program} {t : TypeId}
theorem kd_str (hk : kd P t = .str) : P.underlying t = some .string := by
  unfold kd at hk
  cases hu : P.underlying t with
  | none => simp [hu] at hk
  | some d => cases d <;> simp [hu] at hk <;> first | rfl | (split at hk <;> cases hk)
theorem kd_bool (hk : kd P t = .bool) : P.underlying t = some .bool := by
  unfold kd at hk
  cases hu : P.underlying t with
  | none => simp [hu] at hk
  | some d => cases d <;> simp [hu] at hk <;> first | rfl | (split at hk <;> cases hk)
theorem kd_int {k : IntKind} (hk : kd P t = .int k) : P.underlying t = some (.int k) := by
  unfold kd at hk
  cases hu : P.underlying t with
  | none => simp [hu] at hk
  | some d => cases d <;> simp [hu] at hk <;> first | (subst hk; rfl) | (split at hk <;> cases hk)
theorem kd_slice {n : Nat} (hk : kd P t = .slice n) : ∃ e, P.underlying t = some (.slice e) ∧ szO P e = some n := by
  unfold kd at hk
  cases hu : P.underlying t with
  | none => simp [hu] at hk
  | some d =>
    cases d <;> simp [hu] at hk
    case slice e => cases hs : szO P e <;> simp [hs] at hk; subst hk; exact ⟨e, rfl, hs⟩
    case array n e => cases hs : szO P e <;> simp [hs] at hk
theorem kd_arr {n m : Nat} (hk : kd P t = .arr n m) : ∃ e, P.underlying t = some (.array n e) ∧ szO P e = some m := by
  unfold kd at hk
  cases hu : P.underlying t with
  | none => simp [hu] at hk
  | some d =>
    cases d <;> simp [hu] at hk
    case slice e => cases hs : szO P e <;> simp [hs] at hk
    case array n e => cases hs : szO P e <;> simp [hs] at hk; obtain ⟨rfl, rfl⟩ := hk; exact ⟨e, rfl, hs⟩
theorem kd_ptr (hk : kd P t = .ptr) : ∃ e, P.underlying t = some (.pointer e) := by
  unfold kd at hk
  cases hu : P.underlying t with
  | none => simp [hu] at hk
  | some d => cases d <;> simp [hu] at hk <;> first | exact ⟨_, rfl⟩ | (split at hk <;> cases hk)
theorem kd_map (hk : kd P t = .map) : ∃ k e, P.underlying t = some (.map k e) := by
  unfold kd at hk
  cases hu : P.underlying t with
  | none => simp [hu] at hk
  | some d => cases d <;> simp [hu] at hk <;> first | exact ⟨_, _, rfl⟩ | (split at hk <;> cases hk)
theorem kd_iface (hk : kd P t = .iface) : ∃ m, P.underlying t = some (.interface m) := by
  unfold kd at hk
  cases hu : P.underlying t with
  | none => simp [hu] at hk
  | some d => cases d <;> simp [hu] at hk <;> first | exact ⟨_, rfl⟩ | (split at hk <;> cases hk)
theorem kd_func (hk : kd P t = .func) : ∃ a b c, P.underlying t = some (.func a b c) := by
  unfold kd at hk
  cases hu : P.underlying t with
  | none => simp [hu] at hk
  | some d => cases d <;> simp [hu] at hk <;> first | exact ⟨_, _, _, rfl⟩ | (split at hk <;> cases hk)
end

theorem run_index {P : Program} {t : TypeId} {w : World} {x i v : Value} (hk : kd P t = .str) (h : ixstrO x i = some v) : (Instr.index t x i).run P w = .ok v w := by
  have hu := kd_str hk
  unfold ixstrO at h
  split at h
  · rename_i s k n
    split at h
    · rename_i h0
      cases hb : s[n.toNat]? with
      | none => simp [hb] at h
      | some b =>
        simp only [hb, Option.map_some, Option.some.injEq] at h
        subst h
        simp [Instr.index, asIntOf, undl hu, h0, hb]
    · cases h
  · cases h

theorem run_indexArr {P : Program} {t : TypeId} {w : World} {x i v : Value} {n m : Nat} (hk : kd P t = .arr n m) (h : ixaO n m x i = some v) : (Instr.indexAt t x i).run P w = .ok v w := by
  obtain ⟨e, hu, hs⟩ := kd_arr hk
  unfold ixaO at h
  split at h
  · rename_i a k j
    split at h
    · rename_i h0
      cases h
      simp [Instr.indexAt, asIntOf, undl hu, Instr.sureAddr, h0.1, h0.2, szl hs]
    · cases h
  · cases h

theorem run_indexSlice {P : Program} {t : TypeId} {w : World} {x i v : Value} {m : Nat} (hk : kd P t = .slice m) (h : ixsO m x i = some v) : (Instr.indexAt t x i).run P w = .ok v w := by
  obtain ⟨e, hu, hs⟩ := kd_slice hk
  unfold ixsO at h
  split at h
  · rename_i a l c k j
    split at h
    · rename_i h0
      cases h
      simp [Instr.indexAt, asIntOf, undl hu, h0.1, h0.2, szl hs]
    · cases h
  · cases h

theorem run_fieldAt {P : Program} {s : TypeId} {w : World} {x v : Value} {f off n : Nat} {t : TypeId} (hf : fieldOff P s f = some (off, t)) (hs : szO P t = some (n + 1)) (h : faO off x = some v) :
    (Instr.fieldAt s x f).run P w = .ok v w := by
  unfold fieldOff at hf
  split at hf
  · rename_i fs hu
    cases hg : fs[f]? with
    | none => simp [hg] at hf
    | some fd =>
      simp only [hg, Option.map_some, Option.some.injEq, Prod.mk.injEq] at hf
      obtain ⟨rfl, rfl⟩ := hf
      unfold faO at h
      split at h
      · cases h
        simp [Instr.fieldAt, undl hu, hg, Instr.sureAddr, fieldPlace, szl hs]
      · cases h
  · cases hf

theorem run_cutS {P : Program} {t : TypeId} {w : World} {x v : Value} {lo hi : Option Value} (hk : kd P t = .str) (h : cutSO x lo hi = some v) :
    (Instr.sliceAt t x lo hi none).run P w = .ok v w := by
  have hu := kd_str hk
  have go : ∀ (s : ByteArray) (l h' : Int), hiO s.size hi = some h' → loO lo = some l → 0 ≤ l → l ≤ h' → h' ≤ (s.size : Int) →
      (Instr.sliceAt t (.string s) lo hi none).run P w = .ok (.string (s.extract l.toNat h'.toNat)) w := by
    intro s l h' hh hl h0 h1 h2
    have e0 : 0 ≤ h' := by omega
    have e1 : l ≤ (h'.toNat : Int) := by omega
    cases hi with
    | none =>
      simp only [hiO, Option.some.injEq] at hh
      subst hh
      cases lo with
      | none =>
        simp only [loO, Option.some.injEq] at hl
        subst hl
        simp [Instr.sliceAt, undl hu, Instr.slice, Instr.sliceBounds]
      | some lv =>
        cases lv <;> simp [loO] at hl
        subst hl
        simp [Instr.sliceAt, undl hu, Instr.slice, Instr.sliceBounds, run_sliceBound, h0, h1]
    | some hv =>
      cases hv <;> simp [hiO] at hh
      subst hh
      cases lo with
      | none =>
        simp only [loO, Option.some.injEq] at hl
        subst hl
        simp [Instr.sliceAt, undl hu, Instr.slice, Instr.sliceBounds, run_sliceBound, h2, e0]
      | some lv =>
        cases lv <;> simp [loO] at hl
        case int kl nl =>
          subst hl
          have e2 := fun w => run_sliceBound (P := P) (w := w) kl nl _ .sliceB h0 e1
          simp [Instr.sliceAt, undl hu, Instr.slice, Instr.sliceBounds, run_sliceBound, h2, e0, e2]
  unfold cutSO at h
  split at h
  · split at h
    · rename_i l h' hl hh
      split at h
      · rename_i hc
        cases h
        exact go _ l h' hh hl hc.1 hc.2.1 hc.2.2
      · cases h
    · cases h
  · cases h

theorem run_cut {P : Program} {t : TypeId} {w : World} {x v : Value} {lo hi : Option Value} {m : Nat} (hk : kd P t = .slice m) (h : cutO m x lo hi = some v) :
    (Instr.sliceAt t x lo hi none).run P w = .ok v w := by
  obtain ⟨e, hu, hs⟩ := kd_slice hk
  have go : ∀ (a : Option Addr) (len cap : Nat) (l h' : Int), hiO len hi = some h' → loO lo = some l → 0 ≤ l → l ≤ h' → h' ≤ (cap : Int) →
      (Instr.sliceAt t (.slice a len cap) lo hi none).run P w = .ok (.slice (if cap = l.toNat then a else a.map (·.add (l.toNat * m))) (h'.toNat - l.toNat) (cap - l.toNat)) w := by
    intro a len cap l h' hh hl h0 h1 h2
    have e0 : 0 ≤ h' := by omega
    have e1 : l ≤ (h'.toNat : Int) := by omega
    cases hi with
    | none =>
      simp only [hiO, Option.some.injEq] at hh
      subst hh
      cases lo with
      | none =>
        simp only [loO, Option.some.injEq] at hl
        subst hl
        simp [Instr.sliceAt, undl hu, szl hs, Instr.slice, Instr.sliceBounds]
      | some lv =>
        cases lv <;> simp [loO] at hl
        subst hl
        simp [Instr.sliceAt, undl hu, szl hs, Instr.slice, Instr.sliceBounds, run_sliceBound, h0, h1]
    | some hv =>
      cases hv <;> simp [hiO] at hh
      subst hh
      cases lo with
      | none =>
        simp only [loO, Option.some.injEq] at hl
        subst hl
        simp [Instr.sliceAt, undl hu, szl hs, Instr.slice, Instr.sliceBounds, run_sliceBound, h2, e0]
      | some lv =>
        cases lv <;> simp [loO] at hl
        case int kl nl =>
          subst hl
          have e2 := fun w => run_sliceBound (P := P) (w := w) kl nl _ .sliceB h0 e1
          simp [Instr.sliceAt, undl hu, szl hs, Instr.slice, Instr.sliceBounds, run_sliceBound, h2, e0, e2]
  unfold cutO at h
  split at h
  · split at h
    · rename_i l h' hl hh
      split at h
      · rename_i hc
        cases h
        exact go _ _ _ l h' hh hl hc.1 hc.2.1 hc.2.2
      · cases h
    · cases h
  · cases h

theorem run_arith {P : Program} {op : BinOp} {t : TypeId} {w : World} {x y v : Value} (h : arithO op x y = some v) : (binOp op t x y).run P w = .ok v w := by
  unfold arithO at h
  split at h
  · rename_i k a k' b
    split at h <;> first | (cases h; done) | skip
    all_goals (split at h <;> first | (cases h; done) | skip)
    all_goals (rename_i hc; simp only [Option.some.injEq] at h; subst h)
    all_goals first
      | (subst hc; simp [binOp, Op.intArith, Op.intBits, Op.intCmp]; done)
      | (obtain ⟨rfl, hb⟩ := hc; simp [binOp, Op.intDiv, hb]; done)
      | (simp [binOp, Op.shift, show ¬ b < 0 by omega]; done)
  · rename_i a b
    split at h <;> first | (cases h; done) | skip
    case h_1 =>
      split at h
      · cases h
      · rename_i hc
        cases h
        simp only [binOp, Op.stringOp]
        rw [if_neg hc]
        rfl
    all_goals (simp only [Option.some.injEq] at h; subst h; simp [binOp, Op.stringOp])
  · cases h

/-- The guard of '==' asks nothing, if not two interface values are nil, or one side is a constant. -/
theorem run_eqGuard {P : Program} {op : BinOp} {t : TypeId} {w : World} {x y : Operand} {a b : Value}
    (h : (a = .nilIface → b = .nilIface → (isNil x || isNil y) = true)) (h1 : ∀ cs ds, a = .agg cs → b = .agg ds → False) : (eqGuard op t x y a b).run P w = .ok () w := by
  unfold eqGuard
  cases op <;> try rfl
  all_goals
    cases a <;> first | rfl | skip
    all_goals
      cases b <;> first | rfl | exact (h1 _ _ rfl rfl).elim | skip
      all_goals
        have h2 := h rfl rfl
        rw [Bool.or_eq_true] at h2
        rcases h2 with h2 | h2
        · cases x <;> simp [isNil] at h2
          rfl
        · cases y <;> simp [isNil] at h2
          cases x <;> rfl

theorem run_equal {P : Program} {t : TypeId} {w : World} {x y : Value} {r : Bool} (h : ∀ d, (Op.equalIn (d + 1) t x y).run P w = .ok r w) : (Op.equal t x y).run P w = .ok r w := h 9999
theorem cmpO_some {neg : Bool} {r : Option Bool} {v : Value} (h : cmpO neg r = some v) : ∃ b, r = some b ∧ v = .bool (b != neg) := by
  unfold cmpO at h
  cases r with
  | none => cases h
  | some b => cases h; exact ⟨b, rfl, rfl⟩

/-- '==', '!=' by the model's own run, out of what 'Op.equal' gives. -/
theorem run_eql {P : Program} {t : TypeId} {w : World} {x y : Value} {b : Bool} (h : (Op.equal t x y).run P w = .ok b w)
    (h1 : ∀ j k a c, x = .int j a → y = .int k c → False) (h2 : ∀ j k a c, x = .float j a → y = .float k c → False) (h3 : ∀ j k a a' c c', x = .complex j a a' → y = .complex k c c' → False)
    (h4 : ∀ a c, x = .string a → y = .string c → False) :
    (binOp .eql t x y).run P w = .ok (.bool b) w ∧ (binOp .neq t x y).run P w = .ok (.bool !b) w := by
  constructor
  · unfold binOp
    split <;> first | (exfalso; first | exact h1 _ _ _ _ rfl rfl | exact h2 _ _ _ _ rfl rfl | exact h3 _ _ _ _ _ _ rfl rfl | exact h4 _ _ rfl rfl | (rename_i h'; cases h'; done) | contradiction) | skip
    all_goals first | (simp [h]; done) | (rename_i hx; exact (hx rfl).elim) | simp_all
  · unfold binOp
    split <;> first | (exfalso; first | exact h1 _ _ _ _ rfl rfl | exact h2 _ _ _ _ rfl rfl | exact h3 _ _ _ _ _ _ rfl rfl | exact h4 _ _ rfl rfl | (rename_i h'; cases h'; done) | contradiction) | skip
    all_goals first | (simp [h]; done) | (rename_i hx; exact (hx rfl).elim) | simp_all

theorem run_eqlO {P : Program} {t : TypeId} {w : World} {x y : Value} {b : Bool} (h : eqlO x y = some b) :
    (binOp .eql t x y).run P w = .ok (.bool b) w ∧ (binOp .neq t x y).run P w = .ok (.bool !b) w := by
  unfold eqlO at h
  split at h
  · split at h
    · rename_i hk; subst hk; cases h; simp [binOp, Op.intCmp, bne]
    · cases h
  · cases h; simp [binOp, Op.stringOp]
  · cases h
theorem run_eqbO {P : Program} {t : TypeId} {w : World} {x y : Value} {b : Bool} (hu : P.underlying t = some .bool) (h : eqbO x y = some b) :
    (binOp .eql t x y).run P w = .ok (.bool b) w ∧ (binOp .neq t x y).run P w = .ok (.bool !b) w := by
  unfold eqbO at h
  split at h
  · cases h
    exact run_eql (run_equal (fun d => by simp [Op.equalIn, undl hu])) (fun _ _ _ _ h => by cases h) (fun _ _ _ _ h => by cases h) (fun _ _ _ _ _ _ h => by cases h) (fun _ _ h => by cases h)
  · cases h
theorem run_eqpO {P : Program} {t : TypeId} {w : World} {x y : Value} {b : Bool} {e : TypeId} (hu : P.underlying t = some (.pointer e)) (h : eqpO x y = some b) :
    (binOp .eql t x y).run P w = .ok (.bool b) w ∧ (binOp .neq t x y).run P w = .ok (.bool !b) w := by
  unfold eqpO at h
  split at h
  all_goals first | (cases h; done) | skip
  all_goals
    cases h
    exact run_eql (run_equal (fun d => by simp [Op.equalIn, undl hu])) (fun _ _ _ _ h => by cases h) (fun _ _ _ _ h => by cases h) (fun _ _ _ _ _ _ h => by cases h) (fun _ _ h => by cases h)
theorem run_eqsO {P : Program} {t : TypeId} {w : World} {x y : Value} {b : Bool} {e : TypeId} (hu : P.underlying t = some (.slice e)) (h : eqsO x y = some b) :
    (binOp .eql t x y).run P w = .ok (.bool b) w ∧ (binOp .neq t x y).run P w = .ok (.bool !b) w := by
  unfold eqsO at h
  split at h
  all_goals first | (cases h; done) | skip
  all_goals
    cases h
    exact run_eql (run_equal (fun d => by simp [Op.equalIn, undl hu])) (fun _ _ _ _ h => by cases h) (fun _ _ _ _ h => by cases h) (fun _ _ _ _ _ _ h => by cases h) (fun _ _ h => by cases h)
theorem run_eqmO {P : Program} {t : TypeId} {w : World} {x y : Value} {b : Bool} {k e : TypeId} (hu : P.underlying t = some (.map k e)) (h : eqmO x y = some b) :
    (binOp .eql t x y).run P w = .ok (.bool b) w ∧ (binOp .neq t x y).run P w = .ok (.bool !b) w := by
  unfold eqmO at h
  split at h
  all_goals first | (cases h; done) | skip
  all_goals
    cases h
    exact run_eql (run_equal (fun d => by simp [Op.equalIn, undl hu])) (fun _ _ _ _ h => by cases h) (fun _ _ _ _ h => by cases h) (fun _ _ _ _ _ _ h => by cases h) (fun _ _ h => by cases h)
theorem run_eqiO {P : Program} {t : TypeId} {w : World} {x y : Value} {b : Bool} {m : Array (String × TypeId)} (hu : P.underlying t = some (.interface m)) (h : eqiO x y = some b) :
    (binOp .eql t x y).run P w = .ok (.bool b) w ∧ (binOp .neq t x y).run P w = .ok (.bool !b) w := by
  unfold eqiO at h
  split at h
  all_goals first | (cases h; done) | skip
  all_goals
    cases h
    exact run_eql (run_equal (fun d => by simp [Op.equalIn, undl hu])) (fun _ _ _ _ h => by cases h) (fun _ _ _ _ h => by cases h) (fun _ _ _ _ _ _ h => by cases h) (fun _ _ h => by cases h)
theorem run_eqfO {P : Program} {t : TypeId} {w : World} {x y : Value} {b : Bool} {c d : Array TypeId} {e : Bool} (hu : P.underlying t = some (.func c d e)) (h : eqfO x y = some b) :
    (binOp .eql t x y).run P w = .ok (.bool b) w ∧ (binOp .neq t x y).run P w = .ok (.bool !b) w := by
  unfold eqfO at h
  split at h
  all_goals first | (cases h; done) | skip
  all_goals
    cases h
    exact run_eql (run_equal (fun d => by simp [Op.equalIn, undl hu])) (fun _ _ _ _ h => by cases h) (fun _ _ _ _ h => by cases h) (fun _ _ _ _ _ _ h => by cases h) (fun _ _ h => by cases h)

/-- whatever the reckoning, the guard of '==' is passed -/
theorem run_cmp {P : Program} {t : TypeId} {w : World} {x y : Operand} {a c : Value} {neg : Bool} {op : BinOp} (hop : op = bif neg then .neq else .eql) {r : Option Bool} {v : Value} (h : cmpO neg r = some v)
    (hr : ∀ b, r = some b → (binOp .eql t a c).run P w = .ok (.bool b) w ∧ (binOp .neq t a c).run P w = .ok (.bool !b) w)
    (hg : (a = .nilIface → c = .nilIface → (isNil x || isNil y) = true)) (h1 : ∀ cs ds, a = .agg cs → c = .agg ds → False) :
    (do eqGuard op t x y a c; binOp op t a c : Sem Value).run P w = .ok v w := by
  obtain ⟨b, rfl, rfl⟩ := cmpO_some h
  obtain ⟨e1, e2⟩ := hr b rfl
  simp only [Sem.run_bind, run_eqGuard hg h1, Result.andThen_ok]
  subst hop
  cases neg
  · simpa using e1
  · simpa [bne] using e2

theorem eqGuard_other {P : Program} {op : BinOp} {t : TypeId} {w : World} {x y : Operand} {a b : Value} (h1 : op ≠ .eql) (h2 : op ≠ .neq) : (eqGuard op t x y a b).run P w = .ok () w := by
  cases op <;> first | rfl | exact (h1 rfl).elim | exact (h2 rfl).elim

theorem execOp_v {o : Oper} {e : Operand → Value} {P : Program} {w : World} {s : Sem Value} {v : Value} (he : execOp e o = (do pure (.value (← s)) : Sem Next)) (h : s.run P w = .ok v w) :
    (execOp e o).run P w = .ok (.value v) w := by rw [he, run_v, h]

/-- An operation that only the values decide. -/
theorem pure_run {P : Program} {o : Oper} {e : Operand → Value} {v : Value} (h : pureO P o.op e = some (some v)) (w : World) : (execOp e o).run P w = .ok (.value v) w := by
  obtain ⟨dst, op, type, pos, after, guard⟩ := o
  simp only at h
  cases op <;> simp only [pureO] at h
  case pick c a b =>
    simp only [Option.some.injEq] at h
    unfold pkO at h
    split at h
    · rename_i t ht
      cases h
      simp only [execOp, ht]
      cases t <;> rfl
    · cases h
  case nilCheck x =>
    simp only [Option.some.injEq] at h
    unfold ncO at h
    split at h
    · rename_i a ha
      cases h
      simp only [execOp, ha]
      rfl
    · cases h
  case unOp op t x =>
    simp only [Option.some.injEq] at h
    unfold unO at h
    refine execOp_v rfl ?_
    split at h
    · rename_i b hb; cases h; simp [hb, Op.unary]
    · rename_i k n hb; cases h; simp [hb, Op.unary, Op.intArith]
    · cases h
  case fieldAddr s x f =>
    split at h
    · rename_i off t hf
      split at h
      · rename_i n hn
        simp only [Option.some.injEq] at h
        exact execOp_v rfl (run_fieldAt hf hn h)
      · cases h
    · cases h
  case indexAddr t x i =>
    split at h
    · rename_i n sz hk; simp only [Option.some.injEq] at h; exact execOp_v rfl (run_indexArr hk h)
    · rename_i sz hk; simp only [Option.some.injEq] at h; exact execOp_v rfl (run_indexSlice hk h)
    · cases h
  case index t x i =>
    split at h
    · rename_i hk; simp only [Option.some.injEq] at h; exact execOp_v rfl (run_index hk h)
    · cases h
  case extract x i =>
    simp only [Option.some.injEq] at h
    unfold exO at h
    split at h
    · rename_i vs hv
      refine execOp_v rfl ?_
      simp [hv, Instr.extract, h]
    · cases h
  case makeInterface t x =>
    have fin : (∃ d, P.underlying t = some d ∧ ∀ m, d ≠ .interface m) → some (some (Value.iface t (e x))) = some (some v) → (execOp e ⟨dst, .makeInterface t x, type, pos, after, guard⟩).run P w = .ok (.value v) w := by
      rintro ⟨d, hd, hn⟩ hv
      simp only [Option.some.injEq] at hv
      subst hv
      refine execOp_v rfl ?_
      simp only [Instr.makeInterface, Sem.run_bind, undl hd, Result.andThen_ok]
      cases d <;> first | rfl | exact (hn _ rfl).elim
    split at h
    · rename_i k hk; exact fin ⟨_, kd_int hk, fun _ => by simp⟩ h
    · rename_i hk; exact fin ⟨_, kd_str hk, fun _ => by simp⟩ h
    · rename_i hk; exact fin ⟨_, kd_bool hk, fun _ => by simp⟩ h
    · rename_i n hk; obtain ⟨_, hu, _⟩ := kd_slice hk; exact fin ⟨_, hu, fun _ => by simp⟩ h
    · rename_i n m hk; obtain ⟨_, hu, _⟩ := kd_arr hk; exact fin ⟨_, hu, fun _ => by simp⟩ h
    · rename_i hk
      refine fin ?_ h
      unfold kd at hk
      cases hu : P.underlying t with
      | none => simp [hu] at hk
      | some d => exact ⟨d, rfl, fun m hm => by subst hm; simp [hu] at hk⟩
    · rename_i hk; obtain ⟨_, hu⟩ := kd_ptr hk; exact fin ⟨_, hu, fun _ => by simp⟩ h
    · rename_i hk; obtain ⟨_, _, hu⟩ := kd_map hk; exact fin ⟨_, hu, fun _ => by simp⟩ h
    · cases h
  case makeFunc fn a b =>
    simp only [Option.some.injEq] at h
    subst h
    rw [mpA_eq, mpA_eq]
    exact execOp_v rfl rfl
  case convert s d x =>
    split at h
    · rename_i ks kd' hs hd
      simp only [Option.some.injEq] at h
      unfold cviO at h
      split at h
      · rename_i k n hx
        cases h
        refine execOp_v rfl ?_
        simp [hx, convert, undl (kd_int hs), undl (kd_int hd), Conv.intToInt]
      · cases h
    · cases h
  case slice t x lo hi mx =>
    cases mx with
    | some m => simp at h
    | none =>
      simp only at h
      split at h
      · rename_i hk; simp only [Option.some.injEq] at h; exact execOp_v rfl (run_cutS hk h)
      · rename_i n hk; simp only [Option.some.injEq] at h; exact execOp_v rfl (run_cut hk h)
      · cases h
  case binOp op t x y yt =>
    have arith : op ≠ .eql → op ≠ .neq → arithO op (e x) (e y) = some v → (execOp e ⟨dst, .binOp op t x y yt, type, pos, after, guard⟩).run P w = .ok (.value v) w := by
      intro h1 h2 h3
      refine execOp_v rfl ?_
      simp only [Sem.run_bind, eqGuard_other h1 h2, Result.andThen_ok]
      exact run_arith h3
    have cmp : ∀ neg, (op = bif neg then .neq else .eql) → (match kd P t with
      | .int _ | .str => some (cmpO neg (eqlO (e x) (e y)))
      | .bool => some (cmpO neg (eqbO (e x) (e y)))
      | .ptr => bif isNil x || isNil y then some (cmpO neg (eqpO (e x) (e y))) else none
      | .slice _ => some (cmpO neg (eqsO (e x) (e y)))
      | .map => some (cmpO neg (eqmO (e x) (e y)))
      | .iface => bif isNil x || isNil y then some (cmpO neg (eqiO (e x) (e y))) else none
      | .func => some (cmpO neg (eqfO (e x) (e y)))
      | _ => none) = some (some v) → (execOp e ⟨dst, .binOp op t x y yt, type, pos, after, guard⟩).run P w = .ok (.value v) w := by
      intro neg hop h
      refine execOp_v rfl ?_
      have nl : ∀ {f : Value → Value → Option Bool}, cmpO neg (f (e x) (e y)) = some v → (f .nilIface .nilIface = none) → e x = .nilIface → e y = .nilIface → (isNil x || isNil y) = true := by
        intro f hf hn h1 h2
        rw [h1, h2, hn] at hf
        simp [cmpO] at hf
      have na : ∀ {f : Value → Value → Option Bool}, cmpO neg (f (e x) (e y)) = some v → (∀ cs ds, f (.agg cs) (.agg ds) = none) → ∀ cs ds, e x = .agg cs → e y = .agg ds → False := by
        intro f hf hn cs ds h1 h2
        rw [h1, h2, hn] at hf
        simp [cmpO] at hf
      split at h
      · simp only [Option.some.injEq] at h; exact run_cmp hop h (fun b hb => run_eqlO hb) (nl (f := eqlO) h rfl) (na (f := eqlO) h (fun _ _ => rfl))
      · simp only [Option.some.injEq] at h; exact run_cmp hop h (fun b hb => run_eqlO hb) (nl (f := eqlO) h rfl) (na (f := eqlO) h (fun _ _ => rfl))
      · rename_i hk; simp only [Option.some.injEq] at h; exact run_cmp hop h (fun b hb => run_eqbO (kd_bool hk) hb) (nl (f := eqbO) h rfl) (na (f := eqbO) h (fun _ _ => rfl))
      · rename_i hk
        obtain ⟨_, hu⟩ := kd_ptr hk
        cases hi : (isNil x || isNil y) with
        | false => rw [hi] at h; cases h
        | true =>
          rw [hi] at h
          simp only [cond_true, Option.some.injEq] at h
          exact run_cmp hop h (fun b hb => run_eqpO hu hb) (fun _ _ => hi) (na (f := eqpO) h (fun _ _ => rfl))
      · rename_i n hk
        obtain ⟨_, hu, _⟩ := kd_slice hk
        simp only [Option.some.injEq] at h
        exact run_cmp hop h (fun b hb => run_eqsO hu hb) (nl (f := eqsO) h rfl) (na (f := eqsO) h (fun _ _ => rfl))
      · rename_i hk
        obtain ⟨_, _, hu⟩ := kd_map hk
        simp only [Option.some.injEq] at h
        exact run_cmp hop h (fun b hb => run_eqmO hu hb) (nl (f := eqmO) h rfl) (na (f := eqmO) h (fun _ _ => rfl))
      · rename_i hk
        obtain ⟨_, hu⟩ := kd_iface hk
        cases hi : (isNil x || isNil y) with
        | false => rw [hi] at h; cases h
        | true =>
          rw [hi] at h
          simp only [cond_true, Option.some.injEq] at h
          exact run_cmp hop h (fun b hb => run_eqiO hu hb) (fun _ _ => hi) (na (f := eqiO) h (fun _ _ => rfl))
      · rename_i hk
        obtain ⟨_, _, _, hu⟩ := kd_func hk
        simp only [Option.some.injEq] at h
        exact run_cmp hop h (fun b hb => run_eqfO hu hb) (nl (f := eqfO) h rfl) (na (f := eqfO) h (fun _ _ => rfl))
      · cases h
    by_cases h1 : op = .eql
    · subst h1; exact cmp false rfl h
    · by_cases h2 : op = .neq
      · subst h2; exact cmp true rfl h
      · refine arith h1 h2 ?_
        cases op <;> first | exact (h1 rfl).elim | exact (h2 rfl).elim | skip
        all_goals (simp only at h; split at h <;> first | (cases h; done) | (simpa using h))
  case call c =>
    obtain ⟨callee, args, tys⟩ := c
    simp only at h
    split at h
    · rename_i x t ha ht
      obtain ⟨al⟩ := args
      obtain ⟨tl⟩ := tys
      simp only at ha ht
      subst ha; subst ht
      split at h
      · rename_i hk
        simp only [Option.some.injEq] at h
        unfold lenSO at h
        split at h
        · rename_i s hs
          cases h
          simp [execOp, resolve, invoke, builtin, Builtin.len_, undl (kd_str hk), hs, goInt]
        · cases h
      · rename_i n hk
        obtain ⟨_, hu, _⟩ := kd_slice hk
        simp only [Option.some.injEq] at h
        unfold lenO at h
        split at h
        · rename_i s hs
          cases h
          simp [execOp, resolve, invoke, builtin, Builtin.len_, undl hu, hs, goInt]
        · cases h
      · cases h
    · cases h
  all_goals cases h

end Go.Proofs.Ythhpdcegkbfijaa.V
