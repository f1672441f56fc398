/-
  The condition of a code serves the model's wp.
-/
import Derived.Test.YthhpdcegkbfijaaVCode
namespace Go.Proofs.Ythhpdcegkbfijaa.V
set_option linter.all false
set_option linter.unusedVariables false
set_option linter.unusedSimpArgs false
set_option linter.unnecessarySimpa false

theorem beq_ne {t d : Nat} (h : t ≠ d) : Nat.beq t d = false := by
  cases hb : Nat.beq t d with
  | false => rfl
  | true => exact absurd (Nat.eq_of_beq_eq_true hb) h
def envOf (a : Act) : Env := fun t => a.tmps.getD t undef
theorem eval_eq (a : Act) : a.eval = ev (envOf a) := by
  funext x; cases x <;> rfl
theorem upd_same (ρ : Env) (d : Nat) (v : Value) : upd ρ d v d = v := by simp [upd]
theorem upd_other (ρ : Env) {d t : Nat} (v : Value) (h : t ≠ d) : upd ρ d v t = ρ t := by
  have := beq_ne h
  simp [upd, this]
theorem envOf_put {a : Act} {n : Nat} (hn : a.tmps.size = n) {d : Option Tmp} (hd : ∀ t, d = some t → t < n) (v : Value) : envOf (a.put d v) = updO (envOf a) d v := by
  cases d with
  | none => rfl
  | some d =>
    have hlt := hd d rfl
    funext t
    by_cases h : t = d
    · subst h
      rw [show updO (envOf a) (some t) v t = v from upd_same _ _ _]
      simp [envOf, Act.put, hn, hlt]
    · rw [show updO (envOf a) (some d) v t = envOf a t from upd_other _ _ h]
      simp [envOf, Act.put, Array.getElem?_setIfInBounds_ne (Ne.symm h)]
theorem size_put (a : Act) (d : Option Tmp) (v : Value) : (a.put d v).tmps.size = a.tmps.size := by cases d <;> simp [Act.put]
theorem defers_put (a : Act) (d : Option Tmp) (v : Value) : (a.put d v).defers = a.defers := by cases d <;> rfl

theorem yielded_eq {ops : Array Oper} {a : Act} (j : Nat) (b : Bool) : (yielded ops a.tmps j == some b) = true ↔ gval ops (envOf a) j = .bool b := by
  unfold yielded gval
  cases hb : (ops[j]?).bind (·.dst) with
  | none => simp [undef]
  | some t =>
    simp only [Option.bind_some]
    cases ht : a.tmps[t]? with
    | none =>
      have : envOf a t = undef := by simp [envOf, ht]
      simp [this, undef]
    | some v =>
      have : envOf a t = v := by simp [envOf, ht]
      simp only [this]
      cases v <;> simp

theorem wanted_iff {ops : Array Oper} {o : Oper} {a : Act} {A : Kv → Prop} {w : World} {K : Kv} (h : grd ops o (envOf a) A w K) :
    (Region.wanted o (yielded ops a.tmps) = true → A K) ∧ (Region.wanted o (yielded ops a.tmps) = false → K undef w) := by
  unfold grd at h
  unfold Region.wanted
  cases hg : o.guard with
  | none => rw [hg] at h; exact ⟨fun _ => h, fun h => by cases h⟩
  | some jb =>
    obtain ⟨j, b⟩ := jb
    rw [hg] at h
    obtain ⟨h1, h2⟩ := h
    refine ⟨fun hw => h1 ((yielded_eq j b).1 hw), fun hw => h2 fun he => ?_⟩
    have hw' : (yielded ops a.tmps j == some b) = false := hw
    rw [(yielded_eq j b).2 he] at hw'
    cases hw'

theorem wp_of_serves {P : Program} {o : Oper} {a : Act} {w : World} {K : Kv} {next : Act → World → Prop} {Q : Exit → Act → World → Prop} (h : Serves P o (ev (envOf a)) w K)
    (hn : ∀ v w', K v w' → next (a.put o.dst v) w') : o.wp P a w next Q := by
  unfold Serves at h
  unfold Oper.wp
  rw [eval_eq]
  generalize (execOp (ev (envOf a)) o).run P w = r at *
  cases r with
  | ok x w' =>
    cases x <;> simp only at h <;> simp only [Oper.upon]
    case value v => exact hn v w' h
    case skip => exact hn undef w' h
    case enter f args => exact Calls.mono h fun e w'' ⟨v, he, hk⟩ => by subst he; exact hn v w'' hk
  | halt x w' => exact h.elim

theorem ev_func (ρ : Env) (f : FuncId) : ev ρ (.func f) = .func (.func f) #[] #[] := rfl

theorem pv_mono {r : Option Value} {w : World} {K K' : Kv} (h : pv r w K) (hk : ∀ v w', K v w' → K' v w') : pv r w K' := by
  unfold pv at *; cases r with
  | none => exact h
  | some v => exact hk _ _ h
theorem sv_mono {P : Program} {s : Sem Value} {w : World} {K K' : Kv} (h : sv P s w K) (hk : ∀ v w', K v w' → K' v w') : sv P s w K' := by
  unfold sv at *; split at h
  · exact hk _ _ h
  · exact h.elim
theorem su_mono {P : Program} {s : Sem Unit} {w : World} {K K' : Kv} (h : su P s w K) (hk : ∀ v w', K v w' → K' v w') : su P s w K' := by
  unfold su at *; split at h
  · exact hk _ _ h
  · exact h.elim
theorem opV_mono {P : Program} {o : Oper} {e : Operand → Value} {w : World} {K K' : Kv} (h : opV P o e w K) (hk : ∀ v w', K v w' → K' v w') : opV P o e w K' := by
  obtain ⟨dst, op, type, pos, after, guard⟩ := o
  cases op <;> simp only [opV] at h ⊢ <;> first | exact hk _ _ h | exact sv_mono h hk | exact su_mono h hk | skip
  case load t x =>
    split at h
    · split at h
      · obtain ⟨a, vs, h1, h2, h3⟩ := h; exact ⟨a, vs, h1, h2, hk _ _ h3⟩
      · exact h.elim
    · obtain ⟨a, vs, h1, h2, h3⟩ := h; exact ⟨a, vs, h1, h2, hk _ _ h3⟩
    · exact h.elim
  case store t x v =>
    split at h
    · obtain ⟨a, w', h1, h2, h3, h4⟩ := h; exact ⟨a, w', h1, h2, h3, hk _ _ h4⟩
    · exact h.elim
  case call c =>
    split at h
    · exact pv_mono h hk
    · split at h
      · rename_i f _
        cases hb : bodyB P f with
        | true => rw [hb] at h; exact Ret.mono h hk
        | false => rw [hb] at h; obtain ⟨s, h1, h2⟩ := h; exact ⟨s, h1, sv_mono h2 hk⟩
      · obtain ⟨f, first, cap, h1, h2, h3⟩ := h; exact ⟨f, first, cap, h1, h2, h3.mono hk⟩
      all_goals first | exact sv_mono h hk | exact h.elim
  all_goals (split at h <;> first | exact pv_mono h hk | exact sv_mono h hk | exact h.elim)
theorem vcU_mono {P : Program} {K K' : Env → World → Prop} : ∀ (l : List Oper) (ρ : Env) (w : World), vcU P K l ρ w → (∀ ρ w, K ρ w → K' ρ w) → vcU P K' l ρ w
  | [], ρ, w, h, hk => hk _ _ h
  | o :: r, ρ, w, h, hk => opV_mono h fun v w' hv => vcU_mono r _ _ hv hk

/-- A state of the frame that an environment describes, as it was but for the temporaries S. -/
def Ok (n : Nat) (S : List Nat) (ρ0 : Env) (K : Env → World → Prop) (a : Act) (w : World) : Prop :=
  a.tmps.size = n ∧ a.defers = [] ∧ (∀ t, mem S t = false → envOf a t = ρ0 t) ∧ K (envOf a) w

theorem mem_iff {l : List Nat} {t : Nat} : mem l t = true ↔ t ∈ l := by
  induction l with
  | nil => simp [mem]
  | cons a l ih =>
    unfold mem
    by_cases h : a = t
    · subst h; simp
    · have := beq_ne h
      simp [this, ih, Ne.symm h]
theorem mem_false {l : List Nat} {t : Nat} : mem l t = false ↔ t ∉ l := by
  rw [← mem_iff]; cases mem l t <;> simp

theorem put_ok {n : Nat} {S : List Nat} {ρ0 : Env} {a : Act} {o : Oper} (hn : a.tmps.size = n) (hd : a.defers = []) (hs : ∀ t, mem S t = false → envOf a t = ρ0 t)
    (hdst : ∀ t, o.dst = some t → t < n ∧ t ∈ S) (v : Value) :
    (a.put o.dst v).tmps.size = n ∧ (a.put o.dst v).defers = [] ∧ (∀ t, mem S t = false → envOf (a.put o.dst v) t = ρ0 t) ∧ envOf (a.put o.dst v) = updO (envOf a) o.dst v := by
  have he := envOf_put hn (fun t ht => (hdst t ht).1) v
  refine ⟨by rw [size_put]; exact hn, by rw [defers_put]; exact hd, fun t ht => ?_, he⟩
  rw [he]
  cases hdd : o.dst with
  | none => exact hs t ht
  | some d =>
    have hne : t ≠ d := fun e => by
      subst e
      exact mem_false.1 ht (hdst t hdd).2
    rw [show updO (envOf a) (some d) v t = envOf a t from upd_other _ _ hne]
    exact hs t ht

theorem vcOps_wp {P : Program} {ops : Array Oper} {n : Nat} {S : List Nat} {ρ0 : Env} {K : Env → World → Prop} {Q : Exit → Act → World → Prop} (hQ : ∀ a w, Ok n S ρ0 K a w → Q .normal a w) :
    ∀ (l : List Oper) (a : Act) (w : World), (∀ o ∈ l, ∀ t, o.dst = some t → t < n ∧ t ∈ S) → a.tmps.size = n → a.defers = [] → (∀ t, mem S t = false → envOf a t = ρ0 t) →
      vcOps P ops K l (envOf a) w → wpList P ops Q l a w
  | [], a, w, _, hn, hd, hs, h => hQ a w ⟨hn, hd, hs, h⟩
  | o :: l, a, w, hl, hn, hd, hs, h => by
    unfold vcOps at h
    obtain ⟨h1, h2⟩ := wanted_iff h
    have step : ∀ v w', vcOps P ops K l (updO (envOf a) o.dst v) w' → wpList P ops Q l (a.put o.dst v) w' := fun v w' hv => by
      obtain ⟨p1, p2, p3, p4⟩ := put_ok hn hd hs (hl o (by simp)) v
      exact vcOps_wp hQ l _ w' (fun o ho => hl o (by simp [ho])) p1 p2 p3 (by rw [p4]; exact hv)
    unfold wpList
    split
    · rename_i hw
      exact .inl (wp_of_serves (opV_serves (ev_func _) (h1 hw)) step)
    · rename_i hw
      exact step _ _ (h2 (by simpa using hw))

theorem gval_upd {ops : Array Oper} {ρ : Env} {j : Nat} {d : Option Tmp} {v : Value} (h : ∀ t d', (ops[j]?).bind (·.dst) = some t → d = some d' → t ≠ d') : gval ops (updO ρ d v) j = gval ops ρ j := by
  unfold gval
  cases ht : (ops[j]?).bind (·.dst) with
  | none => rfl
  | some t =>
    cases d with
    | none => rfl
    | some d => exact upd_other _ _ (h t d ht rfl)
theorem hasG_spec {o : Oper} {j : Nat} {b : Bool} (h : hasG o j b = true) : o.guard = some (j, b) := by
  unfold hasG at h
  split at h
  · rename_i i c hg
    simp only [Bool.and_eq_true, Nat.beq_eq, beq_iff_eq] at h
    rw [hg, h.1, h.2]
  · cases h
/-- Under the guard: one by one as it was told together. -/
theorem vcOps_group {P : Program} {ops : Array Oper} {K : Env → World → Prop} {j : Nat} {b : Bool} : ∀ (l : List Oper) (ρ : Env) (w : World), gOk ops l = true →
    (gval ops ρ j = .bool b → vcU P (fun ρ w => vcOps P ops K (dropG j b l) ρ w) (takeG j b l) ρ w) →
    (gval ops ρ j ≠ .bool b → vcOps P ops K (dropG j b l) (skipG ρ (takeG j b l)) w) → vcOps P ops K l ρ w
  | [], ρ, w, _, h1, h2 => by
    by_cases hc : gval ops ρ j = .bool b
    · exact h1 hc
    · exact h2 hc
  | o :: r, ρ, w, hok, h1, h2 => by
    simp only [gOk, Bool.and_eq_true] at hok
    cases hg : hasG o j b with
    | false =>
      simp only [takeG, dropG, hg, cond_false] at h1 h2
      by_cases hc : gval ops ρ j = .bool b
      · exact h1 hc
      · exact h2 hc
    | true =>
      simp only [takeG, dropG, hg, cond_true] at h1 h2
      have hgd := hasG_spec hg
      have hne : ∀ v, gval ops (updO ρ o.dst v) j = gval ops ρ j := fun v => gval_upd fun t d' ht hd' => by
        have := hok.1
        rw [hgd] at this
        simp only [ht, hd', Bool.not_eq_true'] at this
        intro he
        rw [he] at this
        simp at this
      unfold vcOps grd
      rw [hgd]
      refine ⟨fun hc => ?_, fun hc => ?_⟩
      · have hu := h1 hc
        unfold vcU at hu
        exact opV_mono hu fun v w' hv => vcOps_group r _ _ hok.2 (fun _ => hv) (fun hn => (hn (by rw [hne]; exact hc)).elim)
      · refine vcOps_group r _ _ hok.2 (fun hn => (hc (by rw [← hne]; exact hn)).elim) (fun _ => h2 hc)
theorem vcOps_of_vcG {P : Program} {ops : Array Oper} {K : Env → World → Prop} : ∀ (f : Nat) (l : List Oper) (ρ : Env) (w : World), gOk ops l = true → vcG P ops K f l ρ w → vcOps P ops K l ρ w
  | 0, _, _, _, _, h => h.elim
  | f + 1, [], ρ, w, _, h => h
  | f + 1, o :: r, ρ, w, hok, h => by
    have hok' := hok
    simp only [gOk, Bool.and_eq_true] at hok
    unfold vcG at h
    split at h
    · rename_i hg
      unfold vcOps grd
      rw [hg]
      exact opV_mono h fun v w' hv => vcOps_of_vcG f r _ _ hok.2 hv
    · rename_i j b hg
      have hdrop : ∀ (l : List Oper), gOk ops l = true → gOk ops (dropG j b l) = true := by
        intro l
        induction l with
        | nil => intro h; exact h
        | cons o l ih =>
          intro h
          unfold dropG
          cases hg : hasG o j b with
          | true => simp only [gOk, Bool.and_eq_true] at h; exact ih h.2
          | false => exact h
      refine vcOps_group (o :: r) ρ w hok' (fun hc => ?_) (fun hc => vcOps_of_vcG f _ _ _ (hdrop _ hok') (h.2 hc))
      exact vcU_mono _ _ _ (h.1 hc) fun ρ w hv => vcOps_of_vcG f _ _ _ (hdrop _ hok') hv

/-! ### Plans -/
theorem pureV_spec {P : Program} {o : Oper} {e : Operand → Value} {w : World} {K : Kv} (h : pureV P o.op e w K) : ∃ v, (∀ w, (execOp e o).run P w = .ok (.value v) w) ∧ K v w := by
  unfold pureV at h
  obtain ⟨dst, op, type, pos, after, guard⟩ := o
  have go : (match pureO P op e with | some r => pv r w K | none => False) → ∃ v, (∀ w, (execOp e ⟨dst, op, type, pos, after, guard⟩).run P w = .ok (.value v) w) ∧ K v w := by
    intro h
    split at h
    · rename_i r hr
      unfold pv at h
      cases r with
      | none => exact h.elim
      | some v => exact ⟨v, fun w => pure_run hr w, h⟩
    · exact h.elim
  cases op <;> first | exact ⟨_, fun w => rfl, h⟩ | exact go h

theorem loadV_spec {P : Program} {o : Oper} {e : Operand → Value} {w : World} {K : Kv} (h : loadV P o.op e w K) : ∃ v, (execOp e o).run P w = .ok (.value v) w ∧ K v w := by
  obtain ⟨dst, op, type, pos, after, guard⟩ := o
  cases op <;> first | exact h.elim | skip
  case load t x =>
    simp only [loadV] at h
    split at h
    · rename_i hg
      split at h
      · rename_i n hn
        obtain ⟨a, vs, hx, hr, hk⟩ := h
        refine ⟨_, execOp_v (s := Instr.loadAt t (e x)) rfl ?_, hk⟩
        simp only [Instr.loadAt, hx, Instr.sureAddr, Sem.run_bind, Sem.run_pure, Result.andThen_ok, run_loadN hg hn hr]
      · exact h.elim
    · rename_i hg
      obtain ⟨a, v, hx, hr, hk⟩ := h
      refine ⟨_, execOp_v (s := Instr.loadAt t (e x)) rfl ?_, hk⟩
      simp only [Instr.loadAt, hx, Instr.sureAddr, Sem.run_bind, Sem.run_pure, Result.andThen_ok, run_load1 hg hr]
    · exact h.elim

theorem loadVC_spec {P : Program} {C : World → Prop} {o : Oper} {e : Operand → Value} {w : World} {K : Kv} (h : loadVC P C o.op e w K) : ∃ v, (∀ w', C w' → (execOp e o).run P w' = .ok (.value v) w') ∧ K v w := by
  obtain ⟨dst, op, type, pos, after, guard⟩ := o
  cases op <;> first | exact h.elim | skip
  case load t x =>
    simp only [loadVC] at h
    split at h
    · rename_i hg
      split at h
      · rename_i n hn
        obtain ⟨a, vs, hx, hr, hk⟩ := h
        refine ⟨_, fun w' hw' => execOp_v (s := Instr.loadAt t (e x)) rfl ?_, hk⟩
        simp only [Instr.loadAt, hx, Instr.sureAddr, Sem.run_bind, Sem.run_pure, Result.andThen_ok, run_loadN hg hn (hr w' hw')]
      · exact h.elim
    · rename_i hg
      obtain ⟨a, v, hx, hr, hk⟩ := h
      refine ⟨_, fun w' hw' => execOp_v (s := Instr.loadAt t (e x)) rfl ?_, hk⟩
      simp only [Instr.loadAt, hx, Instr.sureAddr, Sem.run_bind, Sem.run_pure, Result.andThen_ok, run_load1 hg (hr w' hw')]
    · exact h.elim

theorem waitsB_spec {ops : Array Oper} {listed : Array Bool} {k : Nat} : ∀ (f j : Nat), waitsB ops listed k f j = true → Waits .any ops listed k j
  | 0, j, h => by cases h
  | f + 1, j, h => by
    unfold waitsB at h
    split at h
    · cases h
    · rename_i o ho
      obtain ⟨e, he, hb⟩ := List.any_eq_true.1 h
      simp only [Bool.and_eq_true, Bool.or_eq_true, Nat.beq_eq, Bool.not_eq_true'] at hb
      obtain ⟨hbind, hb⟩ := hb
      rcases hb with hb | ⟨h1, h2⟩
      · exact .here ho (Array.mem_toList_iff.1 he) hbind hb
      · exact .more ho (Array.mem_toList_iff.1 he) hbind h1 (waitsB_spec f _ h2)

theorem natsB_eq : ∀ {l m : List Nat}, natsB l m = true → l = m
  | [], [], _ => rfl
  | a :: l, b :: m, h => by
    simp only [natsB, Bool.and_eq_true, Nat.beq_eq] at h
    rw [h.1, natsB_eq h.2]
  | [], _ :: _, h => by cases h
  | _ :: _, [], h => by cases h

theorem Serves.mono {P : Program} {o : Oper} {e : Operand → Value} {w : World} {K K' : Kv} (h : Serves P o e w K) (hk : ∀ v w', K v w' → K' v w') : Serves P o e w K' := by
  unfold Serves at *
  generalize (execOp e o).run P w = r at *
  cases r with
  | ok x w' =>
    cases x <;> simp only at h ⊢
    case value v => exact hk v w' h
    case skip => exact hk _ w' h
    case enter f args => exact h.mono hk
  | halt x w' => exact h

/-- The plan, in one theorem: C is the class; 'cw': the world is of it. -/
theorem plan_any {P : Program} {ops : Array Oper} {n : Nat} {S : List Nat} {ρ0 : Env} {K : Env → World → Prop} {C : World → Prop} {all : List (Nat × Pk)} {V : Pk → Oper → Env → World → Kv → Prop}
    (hsel : Region.noSelect ops = true) (hd : ∀ (i : Nat) (o : Oper), ops[i]? = some o → ∀ t, o.dst = some t → t < n ∧ t ∈ S)
    (hV : ∀ k o ρ w K, C w ∨ k = .pure ∨ k = .hard ∨ k = .hardF → V k o ρ w K → match k with
      | .pure => ∃ v, (∀ w', (execOp (ev ρ) o).run P w' = .ok (.value v) w') ∧ K v w
      | .pureF | .load => ∃ v, (∀ w', C w' → (execOp (ev ρ) o).run P w' = .ok (.value v) w') ∧ K v w
      | .hard => Serves P o (ev ρ) w K
      | .hardF => Serves P o (ev ρ) w (fun v w' => C w' ∧ K v w')) :
    ∀ (pl : List (Nat × Pk)) (listed : Array Bool) (cw : Bool) (a : Act) (w : World), planOk ops all pl listed cw = true → (cw = true → C w) →
      a.tmps.size = n → a.defers = [] → (∀ t, mem S t = false → envOf a t = ρ0 t) →
      (∀ (vcP : List (Nat × Pk) → Env → World → Prop), (∀ ρ w, vcP [] ρ w → K ρ w) → (∀ i k r ρ w, vcP ((i, k) :: r) ρ w → ∃ o, ops[i]? = some o ∧ grd ops o ρ (V k o ρ w) w (fun v w' => vcP r (updO ρ o.dst v) w')) → vcP pl (envOf a) w →
        anyC P .any ops (flagOf all) C (Ok n S ρ0 K) pl.length listed a w)
  | [], listed, cw, a, w, hok, hcw, hn, hdf, hs => fun vcP h0 h1 h => by
    have hr := natsB_eq hok
    exact anyC_done hr ⟨hn, hdf, hs, h0 _ _ h⟩ _
  | (i, k) :: r, listed, cw, a, w, hok, hcw, hn, hdf, hs => fun vcP h0 h1 h => by
    obtain ⟨o, ho, hg⟩ := h1 i k r _ w h
    obtain ⟨g1, g2⟩ := wanted_iff hg
    unfold planOk at hok
    rw [Bool.and_eq_true] at hok
    obtain ⟨hready, hok⟩ := hok
    have hready' : i ∈ Region.ready .any ops listed := by simpa using hready
    have step : ∀ (cw' : Bool) v w', planOk ops all r (listed.setIfInBounds i true) cw' = true → (cw' = true → C w') → vcP r (updO (envOf a) o.dst v) w' →
        anyC P .any ops (flagOf all) C (Ok n S ρ0 K) r.length (listed.setIfInBounds i true) (a.put o.dst v) w' := fun cw' v w' hok' hc' hv => by
      obtain ⟨p1, p2, p3, p4⟩ := put_ok hn hdf hs (hd i o ho) v
      exact plan_any hsel hd hV r _ cw' _ w' hok' hc' p1 p2 p3 vcP h0 h1 (by rw [p4]; exact hv)
    have ifC : ∀ cw' : Bool, planOk ops all r (listed.setIfInBounds i true) cw' = true → ∀ w', C w' → vcP r (updO (envOf a) o.dst undef) w' → True := fun _ _ _ _ _ => trivial
    have soft : ∀ (need : Bool), (flagOf all i = true → need = true) → Region.free .any ops listed i = true → (need = true → stillB ops all listed i = true) → (need = true → C w) →
        (∀ K', V k o (envOf a) w K' → ∃ v, (∀ w', (need = true → C w') → (execOp (ev (envOf a)) o).run P w' = .ok (.value v) w') ∧ K' v w) →
        planOk ops all r (listed.setIfInBounds i true) cw = true →
        anyC P .any ops (flagOf all) C (Ok n S ρ0 K) (r.length + 1) listed a w := fun need hf hfree hstill hC hyields hok' => by
      have hkeep : ∀ j, j < ops.size → j ≠ i → listed.getD j true = false → need = true → flagOf all j = true ∨ Waits .any ops listed i j := fun j hj hji hun hne => by
        have := List.all_eq_true.1 (hstill hne) j (List.mem_range.2 hj)
        simp only [Bool.or_eq_true, Nat.beq_eq, hji, false_or, hun, Bool.false_eq_true] at this
        exact this.imp id (waitsB_spec _ _)
      by_cases hw : Region.wanted o (yielded ops a.tmps) = true
      · obtain ⟨v, hv, hk⟩ := hyields _ (g1 hw)
        exact anyC_first ho (Region.noSelect_spec hsel) hf r.length listed a w (Region.free_spec ho hfree) hkeep hready' (.inl ⟨hw, fun w' hw' => by rw [eval_eq]; exact hv w' hw'⟩) hC
          (step cw v w hok' hcw hk)
      · have hw' : Region.wanted o (yielded ops a.tmps) = false := by simpa using hw
        exact anyC_first ho (Region.noSelect_spec hsel) hf r.length listed a w (Region.free_spec ho hfree) hkeep hready' (.inr ⟨hw', rfl⟩) hC
          (step cw undef w hok' hcw (g2 hw'))
    have loud : ∀ (cw' : Bool), natsB (Region.ready .any ops listed) [i] = true → planOk ops all r (listed.setIfInBounds i true) cw' = true → (flagOf all i = true → cw' = true) →
        (∀ K', V k o (envOf a) w K' → Serves P o (ev (envOf a)) w (fun v w' => (cw' = true → C w') ∧ K' v w')) → (Region.wanted o (yielded ops a.tmps) = false → cw' = true → C w) →
        anyC P .any ops (flagOf all) C (Ok n S ρ0 K) (r.length + 1) listed a w := fun cw' hone hok' hfl hserve hno => by
      refine anyC_only (natsB_eq hone) ?_
      unfold wpOp
      rw [ho]
      simp only
      split
      · rename_i hw
        exact .inl (wp_of_serves (hserve _ (g1 hw)) fun v w' ⟨hc, hk⟩ => ⟨fun hf => hc (hfl hf), step cw' v w' hok' hc hk⟩)
      · rename_i hw
        have hw' : Region.wanted o (yielded ops a.tmps) = false := by simpa using hw
        exact ⟨fun hf => hno hw' (hfl hf), step cw' undef w hok' (hno hw') (g2 hw')⟩
    cases k with
    | pure =>
      simp only [Bool.and_eq_true, Bool.not_eq_true'] at hok
      obtain ⟨⟨hf, hfree⟩, hok'⟩ := hok
      exact soft false (fun h => by rw [hf] at h; cases h) hfree (fun h => by cases h) (fun h => by cases h)
        (fun K' hk => by obtain ⟨v, h1, h2⟩ := hV _ _ _ _ _ (.inr (.inl rfl)) hk; exact ⟨v, fun w' _ => h1 w', h2⟩) hok'
    | pureF =>
      simp only [Bool.and_eq_true] at hok
      obtain ⟨⟨⟨hc, hfree⟩, hst⟩, hok'⟩ := hok
      exact soft true (fun _ => rfl) hfree (fun _ => hst) (fun _ => hcw hc)
        (fun K' hk => by obtain ⟨v, h1, h2⟩ := hV _ _ _ _ _ (.inl (hcw hc)) hk; exact ⟨v, fun w' hw' => h1 w' (hw' rfl), h2⟩) hok'
    | load =>
      simp only [Bool.and_eq_true] at hok
      obtain ⟨⟨⟨hc, hfree⟩, hst⟩, hok'⟩ := hok
      exact soft true (fun _ => rfl) hfree (fun _ => hst) (fun _ => hcw hc)
        (fun K' hk => by obtain ⟨v, h1, h2⟩ := hV _ _ _ _ _ (.inl (hcw hc)) hk; exact ⟨v, fun w' hw' => h1 w' (hw' rfl), h2⟩) hok'
    | hardF =>
      simp only [Bool.and_eq_true, Bool.or_eq_true] at hok
      obtain ⟨⟨hcg, hone⟩, hok'⟩ := hok
      refine loud true hone hok' (fun _ => rfl) (fun K' hk => ?_) (fun hw _ => ?_)
      · exact (hV _ _ _ _ _ (.inr (.inr (.inr rfl))) hk).mono fun v w' h => ⟨fun _ => h.1, h.2⟩
      · rcases hcg with hcg | hcg
        · exact hcw hcg
        · rw [ho] at hcg
          simp only [Option.isNone_iff_eq_none] at hcg
          simp [Region.wanted, hcg] at hw
    | hard =>
      simp only [Bool.and_eq_true, Bool.not_eq_true'] at hok
      obtain ⟨⟨hf, hone⟩, hok'⟩ := hok
      refine loud false hone hok' (fun h => by rw [hf] at h; cases h) (fun K' hk => ?_) (fun _ h => by cases h)
      exact (hV _ _ _ _ _ (.inr (.inr (.inl rfl))) hk).mono fun v w' h => ⟨fun h => (by cases h), h⟩

/-! ### Plans that fork -/
/-- What the kinds of a plan promise. -/
theorem opT_spec {P : Program} {C : World → Prop} {o : Oper} {k : Pk} {ρ : Env} {w : World} {K : Kv} (h : opT P C o k ρ w K) : match k with
      | .pure => ∃ v, (∀ w', (execOp (ev ρ) o).run P w' = .ok (.value v) w') ∧ K v w
      | .pureF | .load => ∃ v, (∀ w', C w' → (execOp (ev ρ) o).run P w' = .ok (.value v) w') ∧ K v w
      | .hard => Serves P o (ev ρ) w K
      | .hardF => Serves P o (ev ρ) w (fun v w' => C w' ∧ K v w') := by
  cases k with
  | pure => obtain ⟨v, h1, h2⟩ := pureV_spec h; exact ⟨v, h1, h2⟩
  | pureF => obtain ⟨v, h1, h2⟩ := pureV_spec h; exact ⟨v, fun w' _ => h1 w', h2⟩
  | load => exact loadVC_spec h
  | hard => exact opV_serves (ev_func _) h
  | hardF => exact opV_serves (ev_func _) h

theorem soft_step {P : Program} {ops : Array Oper} {n : Nat} {S : List Nat} {ρ0 : Env} {K : Env → World → Prop} {C : World → Prop} {all : List (Nat × Pk)} (hsel : Region.noSelect ops = true)
    {i f : Nat} {o : Oper} {listed : Array Bool} {a : Act} {w : World} {G : Value → Prop} (ho : ops[i]? = some o) (hready : i ∈ Region.ready .any ops listed) (need : Bool) (hf : flagOf all i = true → need = true)
    (hfree : Region.free .any ops listed i = true) (hstill : need = true → stillB ops all listed i = true) (hC : need = true → C w)
    (hy : Region.wanted o (yielded ops a.tmps) = true → ∃ v, (∀ w', (need = true → C w') → (execOp (ev (envOf a)) o).run P w' = .ok (.value v) w') ∧ G v) (hno : Region.wanted o (yielded ops a.tmps) = false → G undef)
    (hnext : ∀ v, G v → anyC P .any ops (flagOf all) C (Ok n S ρ0 K) f (listed.setIfInBounds i true) (a.put o.dst v) w) : anyC P .any ops (flagOf all) C (Ok n S ρ0 K) (f + 1) listed a w := by
  have hkeep : ∀ j, j < ops.size → j ≠ i → listed.getD j true = false → need = true → flagOf all j = true ∨ Waits .any ops listed i j := fun j hj hji hun hne => by
    have := List.all_eq_true.1 (hstill hne) j (List.mem_range.2 hj)
    simp only [Bool.or_eq_true, Nat.beq_eq, hji, false_or, hun, Bool.false_eq_true] at this
    exact this.imp id (waitsB_spec _ _)
  by_cases hw : Region.wanted o (yielded ops a.tmps) = true
  · obtain ⟨v, hv, hk⟩ := hy hw
    exact anyC_first ho (Region.noSelect_spec hsel) hf f listed a w (Region.free_spec ho hfree) hkeep hready (.inl ⟨hw, fun w' hw' => by rw [eval_eq]; exact hv w' hw'⟩) hC (hnext v hk)
  · have hw' : Region.wanted o (yielded ops a.tmps) = false := by simpa using hw
    exact anyC_first ho (Region.noSelect_spec hsel) hf f listed a w (Region.free_spec ho hfree) hkeep hready (.inr ⟨hw', rfl⟩) hC (hnext undef (hno hw'))

theorem loud_step {P : Program} {ops : Array Oper} {n : Nat} {S : List Nat} {ρ0 : Env} {K : Env → World → Prop} {C : World → Prop} {all : List (Nat × Pk)}
    {i f : Nat} {o : Oper} {listed : Array Bool} {a : Act} {w : World} {G : Kv} (ho : ops[i]? = some o) (cw' : Bool) (hfl : flagOf all i = true → cw' = true)
    (hserve : Region.wanted o (yielded ops a.tmps) = true → Serves P o (ev (envOf a)) w (fun v w' => (cw' = true → C w') ∧ G v w')) (hno : Region.wanted o (yielded ops a.tmps) = false → (cw' = true → C w) ∧ G undef w)
    (hnext : ∀ v w', (cw' = true → C w') → G v w' → anyC P .any ops (flagOf all) C (Ok n S ρ0 K) f (listed.setIfInBounds i true) (a.put o.dst v) w') :
    wpOp P ops (QN (Ok n S ρ0 K)) i (fun a' w' => (flagOf all i = true → C w') ∧ anyC P .any ops (flagOf all) C (Ok n S ρ0 K) f (listed.setIfInBounds i true) a' w') a w := by
  unfold wpOp
  rw [ho]
  simp only
  split
  · rename_i hw
    exact .inl (wp_of_serves (hserve hw) fun v w' ⟨hc, hk⟩ => ⟨fun hf => hc (hfl hf), hnext v w' hc hk⟩)
  · rename_i hw
    have hw' : Region.wanted o (yielded ops a.tmps) = false := by simpa using hw
    obtain ⟨hc, hk⟩ := hno hw'
    exact ⟨fun hf => hc (hfl hf), hnext undef w hc hk⟩

theorem isStop_false {t : PT} (h : (!isStop t) = true) : isStop t = false := by simpa using h

/-- A plan that forks, in one theorem. -/
theorem tree_any {P : Program} {ops : Array Oper} {n : Nat} {S : List Nat} {ρ0 : Env} {K : Env → World → Prop}
    (hsel : Region.noSelect ops = true) (hd : ∀ (i : Nat) (o : Oper), ops[i]? = some o → ∀ t, o.dst = some t → t < n ∧ t ∈ S) :
    ∀ (t : PT) (all : List (Nat × Pk)) (C : World → Prop) (listed : Array Bool) (cw : Bool) (f : Nat) (acc : List Nat) (a : Act) (w : World), listed.size = ops.size → treeOk ops t all listed cw f acc = true → (cw = true → C w) →
      a.tmps.size = n → a.defers = [] → (∀ t, mem S t = false → envOf a t = ρ0 t) → vcT P ops K t C (envOf a) w →
      (isStop t = false → acc = [] → anyC P .any ops (flagOf all) C (Ok n S ρ0 K) f listed a w) ∧
      ((match t with | .stop | .alt .. => True | _ => False) → ∀ i, i ∈ Region.ready .any ops listed → mem acc i = false → ∀ f', f = f' + 1 →
        wpOp P ops (QN (Ok n S ρ0 K)) i (fun a' w' => (flagOf all i = true → C w') ∧ anyC P .any ops (flagOf all) C (Ok n S ρ0 K) f' (listed.setIfInBounds i true) a' w') a w) := by
  intro t
  induction t with
  | done =>
    intro all C listed cw f acc a w hsz hok hcw hn hdf hs h
    refine ⟨fun _ _ => ?_, fun h => h.elim⟩
    simp only [treeOk, Bool.and_eq_true] at hok
    exact anyC_done (natsB_eq hok.2) ⟨hn, hdf, hs, h⟩ _
  | stop =>
    intro all C listed cw f acc a w hsz hok hcw hn hdf hs h
    refine ⟨fun h => (by cases h), fun _ i hi hm => ?_⟩
    have := List.all_eq_true.1 hok i hi
    rw [hm] at this; cases this
  | newC r ih =>
    intro all C listed cw f acc a w hsz hok hcw hn hdf hs h
    refine ⟨fun _ _ => ?_, fun h => h.elim⟩
    simp only [treeOk, Bool.and_eq_true] at hok
    obtain ⟨⟨⟨_, hr⟩, hok1⟩, hok2⟩ := hok
    obtain ⟨C', hC', h'⟩ := h
    refine anyC_switch (C' := C') (flag' := flagOf r.kinds) _ _ _ _ (fun i hi hun => ?_) ((ih r.kinds C' listed true f [] a w hsz hok2 (fun _ => hC') hn hdf hs h').1 (isStop_false hr) rfl)
    have := List.all_eq_true.1 hok1 i (List.mem_range.2 (by rw [← hsz]; exact hi))
    rw [hun] at this
    simpa using this
  | op i k r ih =>
    intro all C listed cw f acc a w hsz hok hcw hn hdf hs h
    refine ⟨fun _ _ => ?_, fun h => h.elim⟩
    unfold vcT at h
    split at h
    · exact h.elim
    rename_i o ho
    obtain ⟨g1, g2⟩ := wanted_iff h
    unfold treeOk at hok
    rw [Bool.and_eq_true, Bool.and_eq_true] at hok
    obtain ⟨⟨_, hr⟩, hok⟩ := hok
    cases f with
    | zero => cases hok
    | succ f =>
    simp only [Bool.and_eq_true] at hok
    obtain ⟨hready, hok⟩ := hok
    have hready' : i ∈ Region.ready .any ops listed := by simpa using hready
    have hsz' : (listed.setIfInBounds i true).size = ops.size := by rw [Array.size_setIfInBounds]; exact hsz
    have next : ∀ (cw' : Bool) v w', treeOk ops r all (listed.setIfInBounds i true) cw' f [] = true → (cw' = true → C w') → vcT P ops K r C (updO (envOf a) o.dst v) w' →
        anyC P .any ops (flagOf all) C (Ok n S ρ0 K) f (listed.setIfInBounds i true) (a.put o.dst v) w' := fun cw' v w' hok' hc' hv => by
      obtain ⟨p1, p2, p3, p4⟩ := put_ok hn hdf hs (hd i o ho) v
      exact (ih all C _ cw' f [] _ w' hsz' hok' hc' p1 p2 p3 (by rw [p4]; exact hv)).1 (isStop_false hr) rfl
    cases k with
    | pure =>
      simp only [Bool.and_eq_true, Bool.not_eq_true'] at hok
      obtain ⟨⟨hf, hfree⟩, hok'⟩ := hok
      exact soft_step hsel ho hready' false (fun h => by rw [hf] at h; cases h) hfree (fun h => by cases h) (fun h => by cases h)
        (fun hw => by obtain ⟨v, h1, h2⟩ := opT_spec (g1 hw); exact ⟨v, fun w' _ => h1 w', h2⟩) g2 fun v hv => next cw v w hok' hcw hv
    | pureF =>
      simp only [Bool.and_eq_true] at hok
      obtain ⟨⟨⟨hc, hfree⟩, hst⟩, hok'⟩ := hok
      exact soft_step hsel ho hready' true (fun _ => rfl) hfree (fun _ => hst) (fun _ => hcw hc)
        (fun hw => by obtain ⟨v, h1, h2⟩ := opT_spec (g1 hw); exact ⟨v, fun w' hw' => h1 w' (hw' rfl), h2⟩) g2 fun v hv => next cw v w hok' hcw hv
    | load =>
      simp only [Bool.and_eq_true] at hok
      obtain ⟨⟨⟨hc, hfree⟩, hst⟩, hok'⟩ := hok
      exact soft_step hsel ho hready' true (fun _ => rfl) hfree (fun _ => hst) (fun _ => hcw hc)
        (fun hw => by obtain ⟨v, h1, h2⟩ := opT_spec (g1 hw); exact ⟨v, fun w' hw' => h1 w' (hw' rfl), h2⟩) g2 fun v hv => next cw v w hok' hcw hv
    | hardF =>
      simp only [Bool.and_eq_true, Bool.or_eq_true] at hok
      obtain ⟨⟨hcg, hone⟩, hok'⟩ := hok
      refine anyC_only (natsB_eq hone) (loud_step (f := f) ho true (fun _ => rfl) (fun hw => (opT_spec (g1 hw)).mono fun v w' h => ⟨fun _ => h.1, h.2⟩) (fun hw => ⟨fun _ => ?_, g2 hw⟩) fun v w' hc hv => next true v w' hok' hc hv)
      rcases hcg with hcg | hcg
      · exact hcw hcg
      · rw [ho] at hcg
        simp only [Option.isNone_iff_eq_none] at hcg
        simp [Region.wanted, hcg] at hw
    | hard =>
      simp only [Bool.and_eq_true, Bool.not_eq_true'] at hok
      obtain ⟨⟨hf, hone⟩, hok'⟩ := hok
      exact anyC_only (natsB_eq hone) (loud_step (f := f) ho false (fun h => by rw [hf] at h; cases h) (fun hw => (opT_spec (g1 hw)).mono fun v w' h => ⟨fun h => (by cases h), h⟩) (fun hw => ⟨fun h => (by cases h), g2 hw⟩) fun v w' hc hv => next false v w' hok' hc hv)
  | alt i k r m ihr ihm =>
    intro all C listed cw f acc a w hsz hok hcw hn hdf hs h
    unfold treeOk at hok
    rw [Bool.and_eq_true, Bool.and_eq_true, Bool.and_eq_true] at hok
    obtain ⟨⟨⟨hr, hok⟩, hm⟩, hokm⟩ := hok
    cases f with
    | zero => cases hok
    | succ f =>
    simp only [Bool.and_eq_true] at hok
    obtain ⟨hready, hok⟩ := hok
    have hready' : i ∈ Region.ready .any ops listed := by simpa using hready
    have h2 : (match ops[i]? with
      | none => False
      | some o => grd ops o (envOf a) (opT P C o k (envOf a) w) w (fun v w' => vcT P ops K r C (updO (envOf a) o.dst v) w')) ∧ vcT P ops K m C (envOf a) w := by
      unfold vcT at h
      cases hst : isStop m with
      | true =>
        rw [hst] at h
        refine ⟨h, ?_⟩
        cases m <;> first | (cases hst; done) | trivial
      | false => rw [hst] at h; exact h
    obtain ⟨h, hmv⟩ := h2
    split at h
    · exact h.elim
    rename_i o ho
    obtain ⟨g1, g2⟩ := wanted_iff h
    have hsz' : (listed.setIfInBounds i true).size = ops.size := by rw [Array.size_setIfInBounds]; exact hsz
    have next : ∀ (cw' : Bool) v w', treeOk ops r all (listed.setIfInBounds i true) cw' f [] = true → (cw' = true → C w') → vcT P ops K r C (updO (envOf a) o.dst v) w' →
        anyC P .any ops (flagOf all) C (Ok n S ρ0 K) f (listed.setIfInBounds i true) (a.put o.dst v) w' := fun cw' v w' hok' hc' hv => by
      obtain ⟨p1, p2, p3, p4⟩ := put_ok hn hdf hs (hd i o ho) v
      exact (ihr all C _ cw' f [] _ w' hsz' hok' hc' p1 p2 p3 (by rw [p4]; exact hv)).1 (isStop_false hr) rfl
    have hmine : wpOp P ops (QN (Ok n S ρ0 K)) i (fun a' w' => (flagOf all i = true → C w') ∧ anyC P .any ops (flagOf all) C (Ok n S ρ0 K) f (listed.setIfInBounds i true) a' w') a w := by
      cases k with
      | pure => cases hok
      | pureF => cases hok
      | load => cases hok
      | hardF =>
        simp only [Bool.and_eq_true, Bool.or_eq_true] at hok
        obtain ⟨hcg, hok'⟩ := hok
        refine loud_step (f := f) ho true (fun _ => rfl) (fun hw => (opT_spec (g1 hw)).mono fun v w' h => ⟨fun _ => h.1, h.2⟩) (fun hw => ⟨fun _ => ?_, g2 hw⟩) fun v w' hc hv => next true v w' hok' hc hv
        rcases hcg with hcg | hcg
        · exact hcw hcg
        · rw [ho] at hcg
          simp only [Option.isNone_iff_eq_none] at hcg
          simp [Region.wanted, hcg] at hw
      | hard =>
        simp only [Bool.and_eq_true, Bool.not_eq_true'] at hok
        obtain ⟨hf, hok'⟩ := hok
        exact loud_step (f := f) ho false (fun h => by rw [hf] at h; cases h) (fun hw => (opT_spec (g1 hw)).mono fun v w' h => ⟨fun h => (by cases h), h⟩) (fun hw => ⟨fun h => (by cases h), g2 hw⟩) fun v w' hc hv => next false v w' hok' hc hv
    have all' : ∀ j, j ∈ Region.ready .any ops listed → mem acc j = false → wpOp P ops (QN (Ok n S ρ0 K)) j (fun a' w' => (flagOf all j = true → C w') ∧ anyC P .any ops (flagOf all) C (Ok n S ρ0 K) f (listed.setIfInBounds j true) a' w') a w := fun j hj hmem => by
      by_cases e : i = j
      · subst e; exact hmine
      · refine (ihm all C listed cw (f + 1) (i :: acc) a w hsz hokm hcw hn hdf hs hmv).2 ?_ j hj ?_ f rfl
        · cases m <;> first | trivial | (cases hm; done)
        · show (bif Nat.beq i j then true else mem acc j) = false
          rw [beq_ne e]; exact hmem
    refine ⟨fun _ hacc => ?_, fun _ j hj hmem f' hf' => ?_⟩
    · subst hacc
      exact ⟨fun h0 => (by rw [h0] at hready'; cases hready'), fun j hj => all' j hj rfl⟩
    · obtain rfl : f = f' := by omega
      exact all' j hj hmem

/-! ### The code -/
def OkP (n : Nat) (S : List Nat) (ρ0 : Env) (Q : Post) : Exit → Act → World → Prop := fun e a w => Ok n S ρ0 (fun ρ w => Q e ρ w) a w

theorem dstsB_spec {n : Nat} {ops : Array Oper} (h : dstsB n ops = true) : ∀ o ∈ ops.toList, ∀ t, o.dst = some t → t < n ∧ t ∈ ops.toList.filterMap (·.dst) := by
  intro o ho t ht
  have := List.all_eq_true.1 h o ho
  simp only [ht] at this
  exact ⟨by simpa using this, List.mem_filterMap.2 ⟨o, ho, ht⟩⟩
theorem dstsB_spec' {n : Nat} {ops : Array Oper} (h : dstsB n ops = true) : ∀ (i : Nat) (o : Oper), ops[i]? = some o → ∀ t, o.dst = some t → t < n ∧ t ∈ ops.toList.filterMap (·.dst) :=
  fun i o hi => dstsB_spec h o (Array.mem_toList_iff.2 (Array.mem_of_getElem? hi))

theorem setT_tup {ρ σ : Env} : ∀ (l : List Nat), (∀ t, mem l t = false → ρ t = σ t) → setT ρ l (tupOf σ l) = σ
  | [], h => by funext t; exact h t rfl
  | [a], h => by
    funext t
    by_cases hta : t = a
    · subst hta; exact upd_same _ _ _
    · rw [show setT ρ [a] (tupOf σ [a]) t = ρ t from upd_other _ _ hta]
      exact h t (by simp [mem, beq_ne (Ne.symm hta)])
  | a :: b :: l, h => by
    funext t
    by_cases hta : t = a
    · subst hta; exact upd_same _ _ _
    · rw [show setT ρ (a :: b :: l) (tupOf σ (a :: b :: l)) t = setT ρ (b :: l) (tupOf σ (b :: l)) t from upd_other _ _ hta]
      -- the rest, over an environment that is σ at a
      have key : ∀ (m : List Nat) (ρ : Env) (t : Nat), setT ρ m (tupOf σ m) t = bif mem m t then σ t else ρ t := by
        intro m
        induction m with
        | nil => intro ρ t; rfl
        | cons c m ih =>
          intro ρ t
          cases m with
          | nil =>
            by_cases htc : t = c
            · subst htc; rw [show setT ρ [t] (tupOf σ [t]) t = σ t from upd_same _ _ _]; simp [mem]
            · rw [show setT ρ [c] (tupOf σ [c]) t = ρ t from upd_other _ _ htc]; simp [mem, beq_ne (Ne.symm htc)]
          | cons d m =>
            by_cases htc : t = c
            · subst htc; rw [show setT ρ (t :: d :: m) (tupOf σ (t :: d :: m)) t = σ t from upd_same _ _ _]; simp [mem]
            · rw [show setT ρ (c :: d :: m) (tupOf σ (c :: d :: m)) t = setT ρ (d :: m) (tupOf σ (d :: m)) t from upd_other _ _ htc, ih]
              have : mem (c :: d :: m) t = mem (d :: m) t := by
                show (bif Nat.beq c t then true else mem (d :: m) t) = _
                rw [beq_ne (Ne.symm htc)]; rfl
              rw [this]
      rw [key]
      cases hm : mem (b :: l) t with
      | true => rfl
      | false =>
        refine h t ?_
        show (bif Nat.beq a t then true else mem (b :: l) t) = false
        rw [beq_ne (Ne.symm hta)]; exact hm

theorem junk_back {ρ ρ' : Env} {mod live : List Nat} (h : ∀ t, mem mod t = false → ρ' t = ρ t) : setT (junk ρ ρ' mod) live (tupOf ρ' live) = ρ' := by
  refine setT_tup live fun t _ => ?_
  unfold junk
  cases hm : mem mod t with
  | true => rfl
  | false => exact (h t hm).symm

theorem subB_spec {l m : List Nat} (h : subB l m = true) {t : Nat} (ht : mem m t = false) : mem l t = false := by
  rw [mem_false] at ht ⊢
  exact fun hl => ht (mem_iff.1 (List.all_eq_true.1 h t hl))

theorem mem_app {l m : List Nat} {t : Nat} (h : mem (l ++ m) t = false) : mem l t = false ∧ mem m t = false := by
  rw [mem_false] at *
  rw [mem_false]
  simp only [List.mem_append, not_or] at h
  exact h

theorem Ok.weaken {n : Nat} {S S' : List Nat} {ρ0 ρ1 : Env} {K K' : Env → World → Prop} {a : Act} {w : World} (h : Ok n S ρ1 K a w) (h1 : ∀ t, mem S' t = false → mem S t = false ∧ ρ1 t = ρ0 t) (hk : ∀ w, K (envOf a) w → K' (envOf a) w) : Ok n S' ρ0 K' a w :=
  ⟨h.1, h.2.1, fun t ht => (h.2.2.1 t (h1 t ht).1).trans (h1 t ht).2, hk w h.2.2.2⟩

theorem vc_wp {P : Program} (hm : P.follows .mixedOrders = true) {n : Nat} : ∀ (c : Code) (x : Ann) (Q : Post) (a : Act) (w : World), okC n c x = true → a.tmps.size = n → a.defers = [] → vc P c x Q (envOf a) w →
    c.wp P (OkP n (asg c) (envOf a) Q) a w := by
  intro c
  induction c with
  | skip => intro x Q a w hok hn hd h; exact wp_skip ⟨hn, hd, fun _ _ => rfl, by cases x <;> exact h⟩
  | seq c1 c2 ih1 ih2 =>
    intro x Q a w hok hn hd h
    cases x with
    | two x y =>
      simp only [okC, Bool.and_eq_true] at hok
      refine wp_seq (wp_mono (ih1 x _ a w hok.1 hn hd h) fun e a' w' hq => ?_)
      cases e with
      | normal =>
        refine wp_mono (ih2 y Q a' w' hok.2 hq.1 hq.2.1 hq.2.2.2) fun e a'' w'' hq' => ?_
        exact hq'.weaken (fun t ht => ⟨(mem_app ht).2, hq.2.2.1 t (mem_app ht).1⟩) fun w h => h
      | _ => exact hq.weaken (fun t ht => ⟨(mem_app ht).1, rfl⟩) fun w h => h
    | join mod live x y =>
      simp only [okC, Bool.and_eq_true] at hok
      obtain ⟨⟨⟨hs1, hs2⟩, ho1⟩, ho2⟩ := hok
      have h' := h (fun xs w => ∀ σ : Env, vc P c2 y Q (setT (junk (envOf a) σ mod) live xs) w) (fun _ _ h => h)
      refine wp_seq (wp_mono (ih1 x _ a w ho1 hn hd h') fun e a' w' hq => ?_)
      cases e with
      | normal =>
        have hk := hq.2.2.2 (envOf a')
        have hk' : vc P c2 y Q (setT (junk (envOf a) (envOf a') mod) live (tupOf (envOf a') live)) w' := hk
        rw [junk_back (fun t ht => hq.2.2.1 t (subB_spec hs1 ht))] at hk'
        refine wp_mono (ih2 y Q a' w' ho2 hq.1 hq.2.1 hk') fun e a'' w'' hq' => ?_
        exact hq'.weaken (fun t ht => ⟨(mem_app ht).2, hq.2.2.1 t (mem_app ht).1⟩) fun w h => h
      | _ => exact hq.weaken (fun t ht => ⟨(mem_app ht).1, rfl⟩) fun w h => h
    | nil => exact absurd hok (by simp [okC])
    | loop _ _ _ => exact absurd hok (by simp [okC])
    | planA _ => exact absurd hok (by simp [okC])
    | planB _ => exact absurd hok (by simp [okC])
    | planT _ => exact absurd hok (by simp [okC])
  | cond v c1 c2 ih1 ih2 =>
    intro x Q a w hok hn hd h
    cases x with
    | two x y =>
      simp only [okC, Bool.and_eq_true] at hok
      have h' : cnd (ev (envOf a) v) (vc P c1 x Q (envOf a) w) (vc P c2 y Q (envOf a) w) := h
      unfold cnd at h'
      split at h'
      · rename_i hv
        exact wp_cond_true (by rw [eval_eq]; exact hv) (wp_mono (ih1 x Q a w hok.1 hn hd h') fun e a' w' hq => hq.weaken (fun t ht => ⟨(mem_app ht).1, rfl⟩) fun w h => h)
      · rename_i hv
        exact wp_cond_false (by rw [eval_eq]; exact hv) (wp_mono (ih2 y Q a w hok.2 hn hd h') fun e a' w' hq => hq.weaken (fun t ht => ⟨(mem_app ht).2, rfl⟩) fun w h => h)
      · exact h'.elim
    | nil => exact absurd hok (by simp [okC])
    | join _ _ _ _ => exact absurd hok (by simp [okC])
    | loop _ _ _ => exact absurd hok (by simp [okC])
    | planA _ => exact absurd hok (by simp [okC])
    | planB _ => exact absurd hok (by simp [okC])
    | planT _ => exact absurd hok (by simp [okC])
  | block id c ih =>
    intro x Q a w hok hn hd h
    have hok' : okC n c x = true := by cases x <;> exact hok
    have h' : vc P c x (Blk id Q) (envOf a) w := by cases x <;> exact h
    refine wp_block (wp_mono (ih x _ a w hok' hn hd h') fun e a' w' hq => ?_)
    cases e with
    | exit j =>
      have hq' : Ok n (asg c) (envOf a) (fun ρ w => bif Nat.beq j id then Q .normal ρ w else Q (.exit j) ρ w) a' w' := hq
      by_cases hj : j = id
      · subst hj
        simp only [Exit.inBlock, if_true]
        exact hq'.weaken (fun t ht => ⟨ht, rfl⟩) fun w h => by simpa using h
      · simp only [Exit.inBlock, hj, if_false]
        exact hq'.weaken (fun t ht => ⟨ht, rfl⟩) fun w h => by simpa [beq_ne hj] using h
    | _ => exact hq.weaken (fun t ht => ⟨ht, rfl⟩) fun w h => h
  | loop c ih =>
    intro x Q a w hok hn hd h
    cases x with
    | loop mod live x =>
      simp only [okC, Bool.and_eq_true] at hok
      obtain ⟨⟨hs1, hs2⟩, ho⟩ := hok
      obtain ⟨J, μ, h0, hround⟩ := h
      refine wp_loop (fun a' w' => Ok n (asg c) (envOf a) (fun ρ w => J (tupOf ρ live) w) a' w') (fun a' w' => μ (tupOf (envOf a') live) w') ⟨hn, hd, fun _ _ => rfl, h0⟩ ?_
      intro a' w' hI
      have hk := hround _ _ hI.2.2.2 (envOf a')
      have hk' : vc P c x (Thn (fun ρ' w'' => J (tupOf ρ' live) w'' ∧ μ (tupOf ρ' live) w'' < μ (tupOf (envOf a') live) w') Q) (setT (junk (envOf a) (envOf a') mod) live (tupOf (envOf a') live)) w' := hk
      rw [junk_back (fun t ht => hI.2.2.1 t (subB_spec hs1 ht))] at hk'
      refine wp_mono (ih x _ a' w' ho hI.1 hI.2.1 hk') fun e a'' w'' hq => ?_
      cases e with
      | normal =>
        exact ⟨⟨hq.1, hq.2.1, fun t ht => (hq.2.2.1 t ht).trans (hI.2.2.1 t ht), hq.2.2.2.1⟩, hq.2.2.2.2⟩
      | _ => exact hq.weaken (fun t ht => ⟨ht, hI.2.2.1 t ht⟩) fun w h => h
    | nil => exact absurd hok (by simp [okC])
    | two _ _ => exact absurd hok (by simp [okC])
    | join _ _ _ _ => exact absurd hok (by simp [okC])
    | planA _ => exact absurd hok (by simp [okC])
    | planB _ => exact absurd hok (by simp [okC])
    | planT _ => exact absurd hok (by simp [okC])
  | region id ops draw =>
    intro x Q a w hok hn hd h
    cases draw with
    | false =>
      have hok2 : (dstsB n ops && gOk ops ops.toList) = true := by cases x <;> exact hok
      rw [Bool.and_eq_true] at hok2
      have hok' := hok2.1
      have h'' : vcG P ops (fun ρ w => Q .normal ρ w) (ops.size + 1) ops.toList (envOf a) w := by cases x <;> exact h
      have h' := vcOps_of_vcG _ _ _ _ hok2.2 h''
      exact wp_region_list (vcOps_wp (n := n) (S := asg (.region id ops false)) (ρ0 := envOf a) (K := fun ρ w => Q .normal ρ w) (fun _ _ h => h) _ a w (dstsB_spec hok') hn hd (fun _ _ => rfl) h')
    | true =>
      have fin : ∀ (C : World → Prop) (pl : List (Nat × Pk)), anyC P .any ops (flagOf pl) C (Ok n (asg (.region id ops true)) (envOf a) (fun ρ w => Q .normal ρ w)) ops.size (Array.replicate ops.size false) a w.drew →
          (Code.region id ops true).wp P (OkP n (asg (.region id ops true)) (envOf a) Q) a w := fun C pl hany => by
        refine wp_mono (wp_region_any hm (any_of_anyC _ _ _ _ hany)) fun e a' w' hq => ?_
        cases e with
        | normal => exact hq
        | _ => exact hq.elim
      cases x with
      | planA pl =>
        simp only [okC, Bool.and_eq_true] at hok
        obtain ⟨⟨⟨⟨h1, h2⟩, h3⟩, h4⟩, h5⟩ := hok
        have hlen : pl.length = ops.size := by simpa using h4
        have h' : vcPlanA P ops (fun ρ w => Q .normal ρ w) pl (envOf a) w.drew := h
        refine fin (fun w' => w' = w.drew) pl ?_
        rw [← hlen]
        refine plan_any (C := fun w' => w' = w.drew) (V := fun k o ρ w K => match k with
            | .pure | .pureF => pureV P o.op (ev ρ) w K
            | .load => loadV P o.op (ev ρ) w K
            | .hard => opV P o (ev ρ) w K
            | .hardF => False) h2 (dstsB_spec' h1) ?_ pl _ true a w.drew (by rw [hlen]; exact h5) (fun _ => rfl) hn hd (fun _ _ => rfl) (vcPlanA P ops (fun ρ w => Q .normal ρ w)) (fun _ _ h => h) (fun i k r ρ w h => ?_) h'
        · intro k o ρ w1 K hc hv
          cases k with
          | pure => obtain ⟨v, h1, h2⟩ := pureV_spec hv; exact ⟨v, h1, h2⟩
          | pureF => obtain ⟨v, h1, h2⟩ := pureV_spec hv; exact ⟨v, fun w' _ => h1 w', h2⟩
          | load =>
            obtain ⟨v, h1, h2⟩ := loadV_spec hv
            have hw : w1 = w.drew := by rcases hc with hc | hc | hc | hc <;> first | exact hc | cases hc
            subst hw
            exact ⟨v, fun w' hw' => by rw [hw']; exact h1, h2⟩
          | hard => exact opV_serves (ev_func _) hv
          | hardF => exact hv.elim
        · unfold vcPlanA at h
          split at h
          · exact h.elim
          · rename_i o ho; exact ⟨o, ho, h⟩
      | planB pl =>
        simp only [okC, Bool.and_eq_true] at hok
        obtain ⟨⟨⟨h1, h2⟩, h4⟩, h5⟩ := hok
        have hlen : pl.length = ops.size := by simpa using h4
        obtain ⟨C, hC, h'⟩ := h
        refine fin C pl ?_
        rw [← hlen]
        refine plan_any (C := C) (V := fun k o ρ w K => match k with
            | .pure | .pureF => pureV P o.op (ev ρ) w K
            | .load => loadVC P C o.op (ev ρ) w K
            | .hard => opV P o (ev ρ) w K
            | .hardF => opV P o (ev ρ) w (fun v w' => C w' ∧ K v w')) h2 (dstsB_spec' h1) ?_ pl _ true a w.drew (by rw [hlen]; exact h5) (fun _ => hC) hn hd (fun _ _ => rfl) (vcPlanB P ops C (fun ρ w => Q .normal ρ w)) (fun _ _ h => h) (fun i k r ρ w h => ?_) h'
        · intro k o ρ w1 K hc hv
          cases k with
          | pure => obtain ⟨v, h1, h2⟩ := pureV_spec hv; exact ⟨v, h1, h2⟩
          | pureF => obtain ⟨v, h1, h2⟩ := pureV_spec hv; exact ⟨v, fun w' _ => h1 w', h2⟩
          | load => exact loadVC_spec hv
          | hard => exact opV_serves (ev_func _) hv
          | hardF => exact opV_serves (ev_func _) hv
        · unfold vcPlanB at h
          split at h
          · exact h.elim
          · rename_i o ho; exact ⟨o, ho, h⟩
      | planT t =>
        simp only [okC, Bool.and_eq_true] at hok
        obtain ⟨⟨⟨h1, h2⟩, h4⟩, h5⟩ := hok
        have h' : vcT P ops (fun ρ w => Q .normal ρ w) t (fun _ => True) (envOf a) w.drew := h
        refine fin (fun _ => True) [] ?_
        exact (tree_any h2 (dstsB_spec' h1) t [] (fun _ => True) _ true _ [] a w.drew (by simp) h5 (fun _ => trivial) hn hd (fun _ _ => rfl) h').1 (by cases t <;> first | rfl | (cases h4; done)) rfl
      | nil => exact absurd hok (by simp [okC])
      | two _ _ => exact absurd hok (by simp [okC])
      | join _ _ _ _ => exact absurd hok (by simp [okC])
      | loop _ _ _ => exact absurd hok (by simp [okC])
  | exit id => intro x Q a w hok hn hd h; exact wp_exit ⟨hn, hd, fun _ _ => rfl, by cases x <;> exact h⟩
  | ret => intro x Q a w hok hn hd h; exact wp_ret ⟨hn, hd, fun _ _ => rfl, by cases x <;> exact h⟩
  | rangeFunc => intro x Q a w hok; cases x <;> cases hok
  | scope => intro x Q a w hok; cases x <;> cases hok
  | label => intro x Q a w hok; cases x <;> cases hok
  | goto => intro x Q a w hok; cases x <;> cases hok
  | refuse => intro x Q a w hok; cases x <;> cases hok

/-! ### A function -/
def ini (args : List Value) : Env := fun t => args.getD t undef
def resL (P : Program) : List ResultVar → Env → World → (List Value → Prop) → Prop
  | [], ρ, w, k => k []
  | .tmp t :: r, ρ, w, k => resL P r ρ w (fun vs => k (ρ t :: vs))
  | .cell a t :: r, ρ, w, k => match aggO P t with
    | some true => match szO P t with
      | some n => ldN n (ρ a) w (fun v _ => resL P r ρ w (fun vs => k (v :: vs)))
      | none => False
    | some false => ld1 (ρ a) w (fun v _ => resL P r ρ w (fun vs => k (v :: vs)))
    | none => False
def oneOr (R : Kv) (w : World) (vs : List Value) : Prop := match vs with | [v] => R v w | vs => R (.tuple vs.toArray) w
def resV (P : Program) (rs : List ResultVar) (ρ : Env) (w : World) (R : Kv) : Prop := resL P rs ρ w (oneOr R w)
def fnP (P : Program) (rs : List ResultVar) (R : Kv) : Post := fun e ρ w => match e with
  | .normal => resV P rs ρ w R
  | .ret => resV P rs ρ w R
  | _ => False
def vcF (P : Program) (rs : List ResultVar) (c : Code) (x : Ann) (args : List Value) (w : World) (R : Kv) : Prop := vc P c x (fnP P rs R) (ini args) w

def resOne (tmps : Array Value) : ResultVar → Sem Value
  | .tmp t => pure (tmps.getD t undef)
  | .cell a t => do loadVar t (← asAddr (tmps.getD a undef))
theorem run_resL {P : Program} {a : Act} {w : World} : ∀ (l : List ResultVar) (k : List Value → Prop), resL P l (envOf a) w k → ∃ vs, (l.mapM (resOne a.tmps)).run P w = .ok vs w ∧ k vs
  | [], k, h => ⟨[], by simp, h⟩
  | .tmp t :: r, k, h => by
    obtain ⟨vs, h1, h2⟩ := run_resL r _ h
    exact ⟨envOf a t :: vs, by simp [List.mapM_cons, resOne, h1, envOf], h2⟩
  | .cell x t :: r, k, h => by
    unfold resL at h
    split at h
    · rename_i hg
      split at h
      · rename_i n hn
        obtain ⟨p, cs, hx, hr, hk⟩ := h
        obtain ⟨vs, h1, h2⟩ := run_resL r _ hk
        have hx' : a.tmps[x]?.getD undef = .pointer (some p) := by simpa [envOf] using hx
        exact ⟨_, by simp [List.mapM_cons, resOne, hx', asAddr, run_loadN hg hn hr, h1], h2⟩
      · exact h.elim
    · rename_i hg
      obtain ⟨p, v, hx, hr, hk⟩ := h
      obtain ⟨vs, h1, h2⟩ := run_resL r _ hk
      have hx' : a.tmps[x]?.getD undef = .pointer (some p) := by simpa [envOf] using hx
      exact ⟨_, by simp [List.mapM_cons, resOne, hx', asAddr, run_load1 hg hr, h1], h2⟩
    · exact h.elim
theorem run_results {P : Program} {fn : Func} {a : Act} {w : World} {R : Kv} (h : resV P fn.results.toList (envOf a) w R) : ∃ v, (results fn a.tmps).run P w = .ok v w ∧ R v w := by
  obtain ⟨vs, h1, h2⟩ := run_resL _ _ h
  have hr : (fn.results.mapM (resOne a.tmps)).run P w = .ok vs.toArray w := by
    rw [Array.mapM_eq_mapM_toList]
    simp [h1]
  have he : results fn a.tmps = (do
      let vs ← fn.results.mapM (resOne a.tmps)
      pure (if h : vs.size = 1 then vs[0] else .tuple vs)) := by
    unfold results
    congr 1
  rw [he]
  simp only [Sem.run_bind, hr, Result.andThen_ok, Sem.run_pure]
  unfold oneOr at h2
  split at h2
  · rename_i v; exact ⟨v, by simp, h2⟩
  · rename_i hne
    refine ⟨_, rfl, ?_⟩
    split
    · rename_i h1
      obtain ⟨v, hv⟩ := List.length_eq_one_iff.1 (by simpa using h1)
      exact (hne v hv).elim
    · exact h2

/-- A function of the program, by its condition. -/
theorem ret_of_vc {P : Program} {f : FuncId} {fn : Func} {c : Code} {x : Ann} {args : List Value} {w : World} {R : Kv} (hm : P.follows .mixedOrders = true) (hf : P.funcs[f]? = some fn) (hb : fn.body = some c)
    (hok : okC fn.ntmps c x = true) (hlen : args.length ≤ fn.ntmps) (h : vcF P fn.results.toList c x args w R) : Ret P f args.toArray w R := by
  refine calls_of_wp hf hb ?_
  have hini : envOf { tmps := args.toArray ++ Array.replicate (fn.ntmps - args.toArray.size) undef, defers := [] } = ini args := by
    funext t
    simp only [envOf, ini, Array.getD_eq_getD_getElem?, Array.getElem?_append, List.size_toArray, List.getElem?_toArray, List.getD_eq_getElem?_getD]
    split
    · rfl
    · rename_i ht
      rw [List.getElem?_eq_none (by omega), Array.getElem?_replicate]
      split <;> rfl
  have := vc_wp hm c x (fnP P fn.results.toList R) { tmps := args.toArray ++ Array.replicate (fn.ntmps - args.toArray.size) undef, defers := [] } w hok (by simp; omega) rfl (by rw [hini]; exact h)
  refine wp_mono this fun e a' w' hq => ?_
  cases e with
  | normal =>
    obtain ⟨v, h1, h2⟩ := run_results hq.2.2.2
    exact ⟨hq.2.1, v, h1, v, rfl, h2⟩
  | ret =>
    obtain ⟨v, h1, h2⟩ := run_results hq.2.2.2
    exact ⟨hq.2.1, v, h1, v, rfl, h2⟩
  | exit j => exact hq.2.2.2.elim
  | goto j => exact hq.2.2.2.elim
  | panic c => exact hq.2.2.2.elim
  | outgrown => exact hq.2.2.2.elim

end Go.Proofs.Ythhpdcegkbfijaa.V
