/-
  A Fibonacci heap as plain data: rings, a forest over handles, what linking and taking out keep. No Go in sight.
-/
namespace Go.Proofs.Ythhpdcegkbfijaa.Fib
set_option linter.all false
set_option linter.unusedVariables false
set_option linter.unusedSimpArgs false
set_option linter.unnecessarySimpa false

/-! ### rings -/
def Path (rt : Nat → Nat) : List Nat → Nat → Prop
  | [], _ => True
  | [x], z => rt x = z
  | x :: y :: l, z => rt x = y ∧ Path rt (y :: l) z
def Ring (rt : Nat → Nat) : List Nat → Prop
  | [] => True
  | x :: l => Path rt (x :: l) x
theorem Path.congr {rt rt' : Nat → Nat} : ∀ {l : List Nat} {z : Nat}, (∀ x, x ∈ l → rt' x = rt x) → Path rt l z → Path rt' l z
  | [], _, _, _ => trivial
  | [x], z, h, hp => (h x (by simp)).trans hp
  | x :: y :: l, z, h, hp => ⟨(h x (by simp)).trans hp.1, Path.congr (fun w hw => h w (List.mem_cons_of_mem _ hw)) hp.2⟩
theorem Ring.congr {rt rt' : Nat → Nat} : ∀ {l : List Nat}, (∀ x, x ∈ l → rt' x = rt x) → Ring rt l → Ring rt' l
  | [], _, _ => trivial
  | _ :: _, h, hp => Path.congr h hp
theorem Path.insert {rt rt' : Nat → Nat} {x y z : Nat} {l : List Nat} (h : Path rt (x :: l) z) (hy : rt' y = rt x) (hx : rt' x = y) (ho : ∀ w, w ∈ l → rt' w = rt w) : Path rt' (x :: y :: l) z := by
  cases l with
  | nil => exact ⟨hx, hy.trans h⟩
  | cons b l => exact ⟨hx, hy.trans h.1, Path.congr ho h.2⟩
theorem Path.snoc {rt : Nat → Nat} {z u : Nat} (hz : rt z = u) : ∀ {l : List Nat}, l ≠ [] → Path rt l z → Path rt (l ++ [z]) u
  | [], h, _ => absurd rfl h
  | [x], _, hp => ⟨hp, hz⟩
  | x :: y :: l, _, hp => ⟨hp.1, Path.snoc hz (by simp) hp.2⟩
theorem Ring.rotate {rt : Nat → Nat} {x y : Nat} {l : List Nat} (h : Ring rt (x :: y :: l)) : Ring rt (y :: (l ++ [x])) := Path.snoc (l := y :: l) h.1 (by simp) h.2
theorem Path.next {rt : Nat → Nat} {z : Nat} : ∀ {l : List Nat}, Path rt l z → ∀ i (hi : i < l.length), some (rt l[i]) = (l ++ [z])[i + 1]?
  | [], _, i, hi => absurd hi (by simp)
  | [x], hp, 0, _ => by
    have h : rt x = z := hp
    simp [h]
  | x :: y :: l, hp, 0, _ => by simpa using hp.1
  | x :: y :: l, hp, i + 1, hi => by
    have := Path.next hp.2 i (by simpa using hi)
    simpa using this
theorem Ring.next {rt : Nat → Nat} {x : Nat} {l : List Nat} (h : Ring rt (x :: l)) {i : Nat} (hi : i < (x :: l).length) : some (rt (x :: l)[i]) = (x :: l ++ [x])[i + 1]? := Path.next h i hi

/-! ### weights -/
def W (dg : Nat → Nat) (l : List Nat) : Nat := (l.map fun x => 2 ^ dg x).sum
theorem W_nil (dg : Nat → Nat) : W dg [] = 0 := rfl
theorem W_cons (dg : Nat → Nat) (x : Nat) (l : List Nat) : W dg (x :: l) = 2 ^ dg x + W dg l := by simp [W]
theorem W_app (dg : Nat → Nat) (l m : List Nat) : W dg (l ++ m) = W dg l + W dg m := by simp [W]
theorem W_perm {dg : Nat → Nat} {l m : List Nat} (h : l.Perm m) : W dg l = W dg m := by
  induction h with
  | nil => rfl
  | cons x _ ih => rw [W_cons, W_cons, ih]
  | swap x y l => simp only [W_cons]; omega
  | trans _ _ h1 h2 => exact h1.trans h2
theorem W_congr {dg dg' : Nat → Nat} : ∀ {l : List Nat}, (∀ x, x ∈ l → dg' x = dg x) → W dg' l = W dg l
  | [], _ => rfl
  | x :: l, h => by rw [W_cons, W_cons, h x (by simp), W_congr fun y hy => h y (List.mem_cons_of_mem _ hy)]
theorem W_erase {dg : Nat → Nat} {l : List Nat} {x : Nat} (h : x ∈ l) : W dg l = 2 ^ dg x + W dg (l.erase x) := by
  rw [W_perm (List.perm_cons_erase h), W_cons]
theorem W_mem {dg : Nat → Nat} {l : List Nat} {x : Nat} (h : x ∈ l) : 2 ^ dg x ≤ W dg l := by rw [W_erase h]; omega

/-! ### the forest -/
structure For (lt : Nat → Nat → Prop) (al R : List Nat) (kids : Nat → List Nat) : Prop where
  alN : al.Nodup
  rN : R.Nodup
  rA : ∀ x, x ∈ R → x ∈ al
  kN : ∀ y, y ∈ al → (kids y).Nodup
  kA : ∀ y, y ∈ al → ∀ x, x ∈ kids y → x ∈ al
  rk : ∀ y, y ∈ al → ∀ x, x ∈ kids y → x ∉ R
  kk : ∀ y z, y ∈ al → z ∈ al → ∀ x, x ∈ kids y → x ∈ kids z → y = z
  cov : ∀ x, x ∈ al → x ∈ R ∨ ∃ y, y ∈ al ∧ x ∈ kids y
  hp : ∀ y, y ∈ al → ∀ x, x ∈ kids y → lt y x
  w : ∀ y, y ∈ al → 2 ^ (kids y).length = 1 + W (fun c => (kids c).length) (kids y)
  sum : W (fun c => (kids c).length) R = al.length

theorem For.perm {lt : Nat → Nat → Prop} {al R R' : List Nat} {kids : Nat → List Nat} (h : For lt al R kids) (hp : R.Perm R') : For lt al R' kids :=
  ⟨h.alN, hp.nodup h.rN, fun x hx => h.rA x (hp.mem_iff.2 hx), h.kN, h.kA, fun y hy x hx hr => h.rk y hy x hx (hp.mem_iff.2 hr), h.kk, fun x hx => (h.cov x hx).imp (fun h => hp.mem_iff.1 h) fun h => h, h.hp, h.w, (W_perm hp).symm.trans h.sum⟩
theorem For.same {lt : Nat → Nat → Prop} {al R R' : List Nat} {kids : Nat → List Nat} (h : For lt al R kids) (hn : R'.Nodup) (hm : ∀ x, x ∈ R' ↔ x ∈ R) : For lt al R' kids :=
  h.perm ((List.perm_ext_iff_of_nodup h.rN hn).2 fun x => (hm x).symm)
theorem For.nil (lt : Nat → Nat → Prop) (kids : Nat → List Nat) : For lt [] [] kids :=
  ⟨List.nodup_nil, List.nodup_nil, fun x h => (by cases h), fun y h => (by cases h), fun y h => (by cases h), fun y h => (by cases h), fun y z h => (by cases h), fun x h => (by cases h), fun y h => (by cases h), fun y h => (by cases h), rfl⟩

theorem For.add {lt : Nat → Nat → Prop} {al R : List Nat} {kids : Nat → List Nat} (h : For lt al R kids) {x : Nat} (hx : x ∉ al) (hk : kids x = []) : For lt (x :: al) (x :: R) kids := by
  have hxR : x ∉ R := fun hr => hx (h.rA x hr)
  refine ⟨List.nodup_cons.2 ⟨hx, h.alN⟩, List.nodup_cons.2 ⟨hxR, h.rN⟩, fun y hy => ?_, fun y hy => ?_, fun y hy z hz => ?_, fun y hy z hz hr => ?_, fun y z hy hz u hu hu2 => ?_, fun y hy => ?_, fun y hy z hz => ?_, fun y hy => ?_, ?_⟩
  · rcases List.mem_cons.1 hy with rfl | hy
    · simp
    · exact List.mem_cons_of_mem _ (h.rA y hy)
  · rcases List.mem_cons.1 hy with rfl | hy
    · rw [hk]; exact List.nodup_nil
    · exact h.kN y hy
  · rcases List.mem_cons.1 hy with rfl | hy
    · rw [hk] at hz; cases hz
    · exact List.mem_cons_of_mem _ (h.kA y hy z hz)
  · rcases List.mem_cons.1 hy with rfl | hy'
    · rw [hk] at hz; cases hz
    · rcases List.mem_cons.1 hr with rfl | hr'
      · exact hx (h.kA y hy' _ hz)
      · exact h.rk y hy' z hz hr'
  · rcases List.mem_cons.1 hy with rfl | hy
    · rw [hk] at hu; cases hu
    · rcases List.mem_cons.1 hz with rfl | hz
      · rw [hk] at hu2; cases hu2
      · exact h.kk y z hy hz u hu hu2
  · rcases List.mem_cons.1 hy with rfl | hy
    · exact .inl (by simp)
    · rcases h.cov y hy with h1 | ⟨z, h1, h2⟩
      · exact .inl (List.mem_cons_of_mem _ h1)
      · exact .inr ⟨z, List.mem_cons_of_mem _ h1, h2⟩
  · rcases List.mem_cons.1 hy with rfl | hy
    · rw [hk] at hz; cases hz
    · exact h.hp y hy z hz
  · rcases List.mem_cons.1 hy with rfl | hy
    · rw [hk]; rfl
    · exact h.w y hy
  · rw [W_cons, h.sum, hk]; simp; omega

theorem For.link {lt : Nat → Nat → Prop} {al R : List Nat} {kids kids' : Nat → List Nat} (h : For lt al R kids) {x y : Nat} (hx : x ∈ R) (hy : y ∈ R) (hxy : x ≠ y) (hl : lt x y) (hd : (kids x).length = (kids y).length)
    (ho : ∀ z, z ≠ x → kids' z = kids z) (hp : (kids' x).Perm (y :: kids x)) : For lt al (R.erase y) kids' := by
  have hxA := h.rA x hx
  have hyA := h.rA y hy
  have mem : ∀ z u, u ∈ kids' z ↔ u ∈ kids z ∨ (z = x ∧ u = y) := fun z u => by
    by_cases e : z = x
    · subst e
      rw [hp.mem_iff, List.mem_cons]
      exact ⟨fun h => h.elim (fun e => .inr ⟨rfl, e⟩) .inl, fun h => h.elim .inr fun e => .inl e.2⟩
    · rw [ho z e]; simp [e]
  have hlen : (kids' x).length = (kids x).length + 1 := by rw [hp.length_eq]; rfl
  have hWo : ∀ l : List Nat, x ∉ l → W (fun c => (kids' c).length) l = W (fun c => (kids c).length) l := fun l hl => W_congr fun z hz => by
    rw [ho z fun e => hl (e ▸ hz)]
  have hxk : ∀ z, z ∈ al → x ∉ kids z := fun z hz hm => h.rk z hz x hm hx
  have hyk : ∀ z, z ∈ al → y ∉ kids z := fun z hz hm => h.rk z hz y hm hy
  refine ⟨h.alN, h.rN.erase y, fun z hz => h.rA z (List.mem_of_mem_erase hz), fun z hz => ?_, fun z hz u hu => ?_, fun z hz u hu hr => ?_, fun z z' hz hz' u hu hu' => ?_, fun z hz => ?_, fun z hz u hu => ?_, fun z hz => ?_, ?_⟩
  · by_cases e : z = x
    · subst e
      exact hp.symm.nodup (List.nodup_cons.2 ⟨hyk z hz, h.kN z hz⟩)
    · rw [ho z e]; exact h.kN z hz
  · rcases (mem z u).1 hu with hu | ⟨_, rfl⟩
    · exact h.kA z hz u hu
    · exact hyA
  · rcases (mem z u).1 hu with hu | ⟨_, rfl⟩
    · exact h.rk z hz u hu (List.mem_of_mem_erase hr)
    · exact (List.Nodup.mem_erase_iff h.rN).1 hr |>.1 rfl
  · rcases (mem z u).1 hu with hu | ⟨rfl, rfl⟩
    · rcases (mem z' u).1 hu' with hu' | ⟨rfl, rfl⟩
      · exact h.kk z z' hz hz' u hu hu'
      · exact absurd hu (hyk z hz)
    · rcases (mem z' _).1 hu' with hu' | ⟨rfl, _⟩
      · exact absurd hu' (hyk z' hz')
      · rfl
  · rcases h.cov z hz with h1 | ⟨u, h1, h2⟩
    · by_cases e : z = y
      · exact .inr ⟨x, hxA, (mem x z).2 (.inr ⟨rfl, e⟩)⟩
      · exact .inl ((List.mem_erase_of_ne e).2 h1)
    · exact .inr ⟨u, h1, (mem u z).2 (.inl h2)⟩
  · rcases (mem z u).1 hu with hu | ⟨rfl, rfl⟩
    · exact h.hp z hz u hu
    · exact hl
  · by_cases e : z = x
    · subst e
      rw [hWo _ fun hm => ?_, W_perm hp, W_cons, hlen, Nat.pow_succ]
      · have := h.w z hz
        rw [← hd]; omega
      · rcases (mem z z).1 hm with hm | ⟨_, e⟩
        · exact hxk z hz hm
        · exact hxy e
    · rw [ho z e, hWo _ (hxk z hz)]; exact h.w z hz
  · have hxe : x ∈ R.erase y := (List.mem_erase_of_ne hxy).2 hx
    have h1 := W_erase (dg := fun c => (kids c).length) hy
    have h2 := W_erase (dg := fun c => (kids c).length) hxe
    have h3 := W_erase (dg := fun c => (kids' c).length) hxe
    rw [hWo _ fun hm => (List.Nodup.mem_erase_iff (h.rN.erase y)).1 hm |>.1 rfl] at h3
    rw [h3]
    have h4 := h.sum
    simp only [hlen, Nat.pow_succ]
    rw [hd] at *
    omega

theorem For.pop {lt : Nat → Nat → Prop} {al R : List Nat} {kids : Nat → List Nat} (h : For lt al R kids) {x : Nat} (hx : x ∈ R) : For lt (al.erase x) (R.erase x ++ kids x) kids := by
  have hxA := h.rA x hx
  have mem : ∀ z, z ∈ al.erase x ↔ z ≠ x ∧ z ∈ al := fun z => List.Nodup.mem_erase_iff h.alN
  have memR : ∀ z, z ∈ R.erase x ↔ z ≠ x ∧ z ∈ R := fun z => List.Nodup.mem_erase_iff h.rN
  have hne : ∀ z u, z ∈ al → u ∈ kids z → u ≠ x := fun z u hz hu e => h.rk z hz u hu (e ▸ hx)
  refine ⟨h.alN.erase x, ?_, fun z hz => ?_, fun z hz => h.kN z ((mem z).1 hz).2, fun z hz u hu => ?_, fun z hz u hu hr => ?_, fun z z' hz hz' => h.kk z z' ((mem z).1 hz).2 ((mem z').1 hz').2, fun z hz => ?_, fun z hz => h.hp z ((mem z).1 hz).2, fun z hz => h.w z ((mem z).1 hz).2, ?_⟩
  · rw [List.nodup_append]
    exact ⟨h.rN.erase x, h.kN x hxA, fun a ha b hb e => h.rk x hxA b hb (e ▸ ((memR a).1 ha).2)⟩
  · rcases List.mem_append.1 hz with hz | hz
    · have := (memR z).1 hz
      exact (mem z).2 ⟨this.1, h.rA z this.2⟩
    · exact (mem z).2 ⟨hne x z hxA hz, h.kA x hxA z hz⟩
  · have := (mem z).1 hz
    exact (mem u).2 ⟨hne z u this.2 hu, h.kA z this.2 u hu⟩
  · have hz2 := (mem z).1 hz
    rcases List.mem_append.1 hr with hr | hr
    · exact h.rk z hz2.2 u hu ((memR u).1 hr).2
    · exact hz2.1 (h.kk z x hz2.2 hxA u hu hr)
  · have hz2 := (mem z).1 hz
    rcases h.cov z hz2.2 with h1 | ⟨u, h1, h2⟩
    · exact .inl (List.mem_append_left _ ((memR z).2 ⟨hz2.1, h1⟩))
    · by_cases e : u = x
      · subst e; exact .inl (List.mem_append_right _ h2)
      · exact .inr ⟨u, (mem u).2 ⟨e, h1⟩, h2⟩
  · have h1 := W_erase (dg := fun c => (kids c).length) hx
    have h2 := h.w x hxA
    have h3 := h.sum
    rw [W_app, List.length_erase_of_mem hxA]
    omega

theorem For.deg {lt : Nat → Nat → Prop} {al R : List Nat} {kids : Nat → List Nat} (h : For lt al R kids) {x : Nat} (hx : x ∈ R) : 2 ^ (kids x).length ≤ al.length := by
  rw [← h.sum]; exact W_mem (dg := fun c => (kids c).length) hx
theorem lt_pow (n : Nat) : n < 2 ^ n := Nat.lt_two_pow_self
theorem For.deg64 {lt : Nat → Nat → Prop} {al R : List Nat} {kids : Nat → List Nat} (h : For lt al R kids) (hn : al.length ≤ 1048576) {x : Nat} (hx : x ∈ R) : (kids x).length < 21 := by
  have h1 := h.deg hx
  apply Decidable.byContradiction
  intro h2
  have h3 : 2 ^ 21 ≤ 2 ^ (kids x).length := Nat.pow_le_pow_right (by omega) (by omega)
  have h4 : (2 : Nat) ^ 21 = 2097152 := by decide
  omega

/-- what is there has a least one -/
theorem min_of {lt : Nat → Nat → Prop} (ht : ∀ a b c, lt a b → lt b c → lt a c) : ∀ (l : List Nat), l ≠ [] → (∀ a b, a ∈ l → b ∈ l → a ≠ b → lt a b ∨ lt b a) → ∃ m, m ∈ l ∧ ∀ y, y ∈ l → y ≠ m → lt m y
  | [], h, _ => absurd rfl h
  | [a], _, _ => ⟨a, by simp, fun y hy hne => absurd (by simpa using hy) hne⟩
  | a :: b :: l, _, tot => by
    obtain ⟨m, hm, hmin⟩ := min_of ht (b :: l) (by simp) fun x y hx hy => tot x y (List.mem_cons_of_mem _ hx) (List.mem_cons_of_mem _ hy)
    by_cases e : a = m
    · refine ⟨m, List.mem_cons_of_mem _ hm, fun y hy hne => ?_⟩
      rcases List.mem_cons.1 hy with rfl | hy
      · exact absurd e hne
      · exact hmin y hy hne
    · rcases tot a m (by simp) (List.mem_cons_of_mem _ hm) e with h1 | h1
      · refine ⟨a, by simp, fun y hy hne => ?_⟩
        rcases List.mem_cons.1 hy with rfl | hy
        · exact absurd rfl hne
        · by_cases e2 : y = m
          · subst e2; exact h1
          · exact ht _ _ _ h1 (hmin y hy e2)
      · refine ⟨m, List.mem_cons_of_mem _ hm, fun y hy hne => ?_⟩
        rcases List.mem_cons.1 hy with rfl | hy
        · exact h1
        · exact hmin y hy hne

theorem For.least {lt : Nat → Nat → Prop} {al R : List Nat} {kids : Nat → List Nat} (h : For lt al R kids) (ht : ∀ a b c, lt a b → lt b c → lt a c) (hi : ∀ a, ¬ lt a a) (tot : ∀ a b, a ∈ al → b ∈ al → a ≠ b → lt a b ∨ lt b a)
    {x : Nat} (hx : x ∈ R) (hm : ∀ y, y ∈ R → y ≠ x → lt x y) : ∀ y, y ∈ al → y ≠ x → lt x y := by
  have hxA := h.rA x hx
  obtain ⟨m, hmA, hmin⟩ := min_of ht al (List.ne_nil_of_mem hxA) tot
  have hmR : m ∈ R := by
    rcases h.cov m hmA with h1 | ⟨u, h1, h2⟩
    · exact h1
    · exfalso
      have h3 := h.hp u h1 m h2
      by_cases e : u = m
      · subst e; exact hi _ h3
      · exact hi _ (ht _ _ _ h3 (hmin u h1 e))
  have e : m = x := by
    by_cases e : m = x
    · exact e
    · exact absurd (ht _ _ _ (hm m hmR e) (hmin x hxA fun e2 => e e2.symm)) (hi _)
  subst e
  exact hmin

end Go.Proofs.Ythhpdcegkbfijaa.Fib
