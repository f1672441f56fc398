/-
  The Fibonacci heap: gathering roots.
-/
import Derived.Test.YthhpdcegkbfijaaFibQ
namespace Go.Proofs.Ythhpdcegkbfijaa.Sh
open Go.Proofs.Ythhpdcegkbfijaa.V Go.Proofs.Ythhpdcegkbfijaa.T Go.Proofs.Ythhpdcegkbfijaa.Fib
set_option linter.all false
set_option maxRecDepth 100000
set_option linter.unusedVariables false
set_option linter.unusedSimpArgs false
set_option linter.unnecessarySimpa false

/-- the links say what the ghost says -/
def LKS (C : Nat → Core) (al : List Nat) (kids : Nat → List Nat) : Prop :=
  ∀ z, z ∈ al → (C z).deg = (kids z).length ∧ (kids z = [] → (C z).ch = -1) ∧ ∀ c l, kids z = c :: l → (C z).ch = (c : Int) ∧ Ring (fun i => (C i).rt) (kids z)
def undK (kids : Nat → List Nat) (x y : Nat) : Nat → List Nat := upN kids x (match kids x with | [] => [y] | c :: l => c :: y :: l)
theorem undK_perm (kids : Nat → List Nat) (x y : Nat) : (undK kids x y x).Perm (y :: kids x) := by
  unfold undK
  rw [upN_same]
  cases kids x with
  | nil => exact List.Perm.refl _
  | cons c l => exact List.Perm.swap _ _ _

theorem LKS.under {lt : Nat → Nat → Prop} {C C' : Nat → Core} {al R : List Nat} {kids : Nat → List Nat} (hf : For lt al R kids) (hl : LKS C al kids) {x y : Nat} (hx : x ∈ R) (hy : y ∈ R) (hxy : x ≠ y) (hu : UD C C' y x) : LKS C' al (undK kids x y) := by
  have hxA := hf.rA x hx
  have hyA := hf.rA y hy
  intro z hz
  have hyk : ∀ z, z ∈ al → y ∉ kids z := fun z hz hm => hf.rk z hz y hm hy
  by_cases e : z = x
  · subst e
    have hz0 := hl z hz
    refine ⟨by rw [hu.dx, hz0.1, (undK_perm kids z y).length_eq]; rfl, ?_⟩
    rcases hu.lnk with ⟨h1, h2, h3, h4⟩ | ⟨c, h1, h2, h3, h4, h5⟩
    · have hk0 : kids z = [] := by
        cases hk : kids z with
        | nil => rfl
        | cons c l => have := (hz0.2.2 c l hk).1; omega
      have hk' : undK kids z y z = [y] := by unfold undK; rw [upN_same, hk0]
      rw [hk']
      refine ⟨fun h => (by cases h), fun c l h => ?_⟩
      simp only [List.cons.injEq] at h
      rw [← h.1]
      exact ⟨h2, h3⟩
    · obtain ⟨c0, l, hk⟩ : ∃ c0 l, kids z = c0 :: l := by
        cases hk : kids z with
        | nil => have := hz0.2.1 hk; omega
        | cons c0 l => exact ⟨c0, l, rfl⟩
      obtain ⟨g1, g2⟩ := hz0.2.2 c0 l hk
      have hc : c0 = c := by omega
      subst hc
      have hk' : undK kids z y z = c0 :: y :: l := by unfold undK; rw [upN_same, hk]
      rw [hk']
      have hnd := hf.kN z hz
      rw [hk] at hnd g2
      have hyn : y ∉ c0 :: l := by rw [← hk]; exact hyk z hz
      refine ⟨fun h => (by cases h), fun c l' h => ?_⟩
      simp only [List.cons.injEq] at h
      rw [← h.1]
      refine ⟨h2, ?_⟩
      show Path (fun i => (C' i).rt) (c0 :: y :: l) c0
      refine Path.insert (rt := fun i => (C i).rt) (rt' := fun i => (C' i).rt) g2 h3 h4 fun w hw => ?_
      exact h5 w (fun e => hyn (by rw [← e]; exact List.mem_cons_of_mem _ hw)) fun e => (List.nodup_cons.1 hnd).1 (e ▸ hw)
  · have hk' : undK kids x y z = kids z := by unfold undK; rw [upN_other _ _ e]
    rw [hk']
    have hz0 := hl z hz
    obtain ⟨o1, o2⟩ := hu.ot z e
    rw [o1, o2]
    refine ⟨hz0.1, hz0.2.1, fun c l hk => ⟨(hz0.2.2 c l hk).1, ?_⟩⟩
    refine Ring.congr (rt := fun i => (C i).rt) (fun w hw => ?_) (hz0.2.2 c l hk).2
    have hwy : w ≠ y := fun e => hyk z hz (e ▸ hw)
    rcases hu.lnk with ⟨h1, h2, h3, h4⟩ | ⟨c, h1, h2, h3, h4, h5⟩
    · exact h4 w hwy
    · refine h5 w hwy fun e2 => ?_
      subst e2
      have hwx : w ∈ kids x := by
        have hx0 := hl x hxA
        cases hk : kids x with
        | nil => have := hx0.2.1 hk; omega
        | cons c0 l =>
          have h6 := (hx0.2.2 c0 l hk).1
          have h7 : c0 = w := by omega
          rw [h7]; exact List.mem_cons_self ..
      exact e (hf.kk z x hz hxA w hw hwx)

/-- only links within rings of roots have changed -/
theorem LKS.lk {lt : Nat → Nat → Prop} {C C' : Nat → Core} {al R : List Nat} {kids : Nat → List Nat} (hf : For lt al R kids) (hl : LKS C al kids) {X : Nat → Prop} (h : Lk C C' X) (hX : ∀ i, X i → i ∈ R) : LKS C' al kids := fun z hz => by
  have hz0 := hl z hz
  have e := (h z).1
  rw [e]
  refine ⟨hz0.1, hz0.2.1, fun c l hk => ⟨(hz0.2.2 c l hk).1, Ring.congr (rt := fun i => (C i).rt) (fun w hw => ?_) (hz0.2.2 c l hk).2⟩⟩
  show (C' w).rt = (C w).rt
  rw [(h w).2 fun hx => hf.rk z hz w hw (hX w hx)]

/-- what may be put under x -/
theorem LKS.side {lt : Nat → Nat → Prop} {C : Nat → Core} {al R : List Nat} {kids : Nat → List Nat} (hf : For lt al R kids) (hl : LKS C al kids) {len : Nat} (hlen : ∀ z, z ∈ al → z < len) {x y : Nat} (hx : x ∈ R) (hy : y ∈ R) :
    (C x).ch = -1 ∨ ∃ c : Nat, (C x).ch = (c : Int) ∧ c < len ∧ (C c).rt < len ∧ c ≠ y := by
  have hxA := hf.rA x hx
  have hx0 := hl x hxA
  cases hk : kids x with
  | nil => exact .inl (hx0.2.1 hk)
  | cons c l =>
    obtain ⟨g1, g2⟩ := hx0.2.2 c l hk
    have hc : c ∈ kids x := by rw [hk]; simp
    have hr : (C c).rt ∈ kids x := ring_lt (rt := fun i => (C i).rt) g2 hc
    exact .inr ⟨c, g1, hlen c (hf.kA x hxA c hc), hlen _ (hf.kA x hxA _ hr), fun e => hf.rk x hxA c hc (e ▸ hy)⟩

structure GI (ky C : Nat → Core) (al R : List Nat) (kids : Nat → List Nat) (s : List Int) (pend : List Nat) : Prop where
  f : For (ltH ky) al R kids
  l : LKS C al kids
  key : ∀ z, z ∈ al → keyIs (C z) (ky z)
  sz : s.length = 64
  rin : ∀ z : Nat, z ∈ R ↔ z ∈ pend ∨ ∃ d : Nat, s[d]? = some ((z + 1 : Nat) : Int)
  sl : ∀ (d : Nat) (v : Int), s[d]? = some v → v = 0 ∨ ∃ y : Nat, v = ((y + 1 : Nat) : Int) ∧ y ∈ R ∧ y ∉ pend ∧ (C y).deg = d
  pn : pend.Nodup
theorem GI.cur {ky C : Nat → Core} {al R : List Nat} {kids : Nat → List Nat} {s : List Int} {pend : List Nat} {x : Nat} (h : GI ky C al R kids s (x :: pend)) : x ∈ R := (h.rin x).2 (.inl (by simp))
theorem GI.deg {ky C : Nat → Core} {al R : List Nat} {kids : Nat → List Nat} {s : List Int} {pend : List Nat} (h : GI ky C al R kids s pend) (hn : al.length ≤ 1048576) {x : Nat} (hx : x ∈ R) : (C x).deg < 21 := by
  rw [(h.l x (h.f.rA x hx)).1]; exact h.f.deg64 hn hx
/-- held twice: at one place -/
theorem GI.one {ky C : Nat → Core} {al R : List Nat} {kids : Nat → List Nat} {s : List Int} {pend : List Nat} (h : GI ky C al R kids s pend) {y d d' : Nat} (h1 : s[d]? = some ((y + 1 : Nat) : Int)) (h2 : s[d']? = some ((y + 1 : Nat) : Int)) : d = d' := by
  rcases h.sl d _ h1 with h3 | ⟨z, h3, _, _, h4⟩
  · omega
  rcases h.sl d' _ h2 with h5 | ⟨z', h5, _, _, h6⟩
  · omega
  have e1 : z = y := by omega
  have e2 : z' = y := by omega
  subst e1; subst e2; omega

theorem GI.park {ky C : Nat → Core} {al R : List Nat} {kids : Nat → List Nat} {s : List Int} {pend : List Nat} {x : Nat} (h : GI ky C al R kids s (x :: pend)) (hd : (C x).deg < 64) (h0 : s[(C x).deg]? = some 0) : GI ky C al R kids (s.set (C x).deg ((x + 1 : Nat) : Int)) pend := by
  have hxp := List.nodup_cons.1 h.pn
  refine ⟨h.f, h.l, h.key, by simp [h.sz], fun z => ?_, fun d v hv => ?_, hxp.2⟩
  · rw [h.rin z]
    constructor
    · rintro (hz | ⟨d, hd2⟩)
      · rcases List.mem_cons.1 hz with rfl | hz
        · exact .inr ⟨_, by rw [List.getElem?_set_self (by rw [h.sz]; exact hd)]⟩
        · exact .inl hz
      · refine .inr ⟨d, ?_⟩
        rw [List.getElem?_set_ne]
        · exact hd2
        · intro e; subst e; rw [h0] at hd2; have := Option.some.inj hd2; omega
    · rintro (hz | ⟨d, hd2⟩)
      · exact .inl (List.mem_cons_of_mem _ hz)
      · by_cases e : (C x).deg = d
        · subst e
          rw [List.getElem?_set_self (by rw [h.sz]; exact hd)] at hd2
          have := Option.some.inj hd2
          have : z = x := by omega
          subst this; exact .inl (by simp)
        · rw [List.getElem?_set_ne e] at hd2
          exact .inr ⟨d, hd2⟩
  · by_cases e : (C x).deg = d
    · subst e
      rw [List.getElem?_set_self (by rw [h.sz]; exact hd)] at hv
      exact .inr ⟨x, (Option.some.inj hv).symm, h.cur, hxp.1, rfl⟩
    · rw [List.getElem?_set_ne e] at hv
      rcases h.sl d v hv with h1 | ⟨y, h1, h2, h3, h4⟩
      · exact .inl h1
      · exact .inr ⟨y, h1, h2, fun hm => h3 (List.mem_cons_of_mem _ hm), h4⟩

theorem GI.link {ky C C' : Nat → Core} {al R : List Nat} {kids : Nat → List Nat} {s : List Int} {pend : List Nat} {x y a c : Nat} (h : GI ky C al R kids s (x :: pend)) (hy : s[(C x).deg]? = some ((y + 1 : Nat) : Int)) (hac : (a = x ∧ c = y) ∨ (a = y ∧ c = x)) (hlt : ltH ky a c)
    (hu : UD C C' c a) : GI ky C' al (R.erase c) (undK kids a c) (s.set (C x).deg 0) (a :: pend) ∧ (R.erase c).length < R.length := by
  have hxp := List.nodup_cons.1 h.pn
  have hxR := h.cur
  obtain ⟨hyR, hyp, hyd⟩ : y ∈ R ∧ y ∉ x :: pend ∧ (C y).deg = (C x).deg := by
    rcases h.sl _ _ hy with h1 | ⟨z, h1, h2, h3, h4⟩
    · omega
    · have : z = y := by omega
      subst this; exact ⟨h2, h3, h4⟩
  have hxy : x ≠ y := fun e => hyp (by simp [e])
  have hyp' : y ∉ pend := fun hm => hyp (List.mem_cons_of_mem _ hm)
  have haR : a ∈ R := by rcases hac with ⟨rfl, _⟩ | ⟨rfl, _⟩ <;> assumption
  have hcR : c ∈ R := by rcases hac with ⟨_, rfl⟩ | ⟨_, rfl⟩ <;> assumption
  have hacn : a ≠ c := by rcases hac with ⟨rfl, rfl⟩ | ⟨rfl, rfl⟩ <;> omega
  have hap : a ∉ pend := by
    rcases hac with ⟨rfl, _⟩ | ⟨rfl, _⟩
    · exact hxp.1
    · exact hyp'
  have hcp : c ∉ pend := by
    rcases hac with ⟨_, rfl⟩ | ⟨_, rfl⟩
    · exact hyp'
    · exact hxp.1
  have hdd : (C a).deg = (C c).deg := by rcases hac with ⟨rfl, rfl⟩ | ⟨rfl, rfl⟩ <;> omega
  have haA := h.f.rA a haR
  have hcA := h.f.rA c hcR
  have hlen : (kids a).length = (kids c).length := by rw [← (h.l a haA).1, ← (h.l c hcA).1]; exact hdd
  have hnd := h.f.rN
  have hmem : ∀ z, z ∈ R.erase c ↔ z ≠ c ∧ z ∈ R := fun z => List.Nodup.mem_erase_iff hnd
  have hdlt : (C x).deg < s.length := (List.getElem?_eq_some_iff.1 hy).1
  refine ⟨⟨h.f.link haR hcR hacn hlt hlen (fun z hz => by unfold undK; rw [upN_other _ _ hz]) (undK_perm kids a c), LKS.under h.f h.l haR hcR hacn hu, fun z hz => ?_, by simp [h.sz], fun z => ?_, fun d v hv => ?_, ?_⟩, ?_⟩
  · have h1 := h.key z hz
    have h2 := hu.key z
    exact ⟨h2.1.trans h1.1, h2.2.1.trans h1.2.1, h2.2.2.trans h1.2.2⟩
  · rw [hmem, h.rin z]
    constructor
    · rintro ⟨hzc, hz | ⟨d, hd⟩⟩
      · rcases List.mem_cons.1 hz with rfl | hz
        · rcases hac with ⟨e1, e2⟩ | ⟨e1, e2⟩
          · exact .inl (by simp [e1])
          · exact absurd e2.symm hzc
        · exact .inl (List.mem_cons_of_mem _ hz)
      · by_cases e : (C x).deg = d
        · subst e
          rw [hy] at hd
          have : z = y := by have := Option.some.inj hd; omega
          subst this
          rcases hac with ⟨e1, e2⟩ | ⟨e1, e2⟩
          · exact absurd e2.symm hzc
          · exact .inl (by simp [e1])
        · exact .inr ⟨d, by rw [List.getElem?_set_ne e]; exact hd⟩
    · rintro (hz | ⟨d, hd⟩)
      · rcases List.mem_cons.1 hz with rfl | hz
        · exact ⟨hacn, (h.rin z).1 haR⟩
        · exact ⟨fun e => hcp (e ▸ hz), .inl (List.mem_cons_of_mem _ hz)⟩
      · by_cases e : (C x).deg = d
        · subst e
          rw [List.getElem?_set_self hdlt] at hd
          have := Option.some.inj hd; omega
        · rw [List.getElem?_set_ne e] at hd
          refine ⟨fun e2 => ?_, .inr ⟨d, hd⟩⟩
          subst e2
          rcases hac with ⟨e1, e2⟩ | ⟨e1, e2⟩
          · subst e2; exact e (h.one hy hd)
          · subst e2
            rcases h.sl d _ hd with h1 | ⟨y', h1, h2, h3, h4⟩
            · omega
            · have : y' = z := by omega
              subst this; exact h3 (by simp)
  · by_cases e : (C x).deg = d
    · subst e
      rw [List.getElem?_set_self hdlt] at hv
      exact .inl (Option.some.inj hv).symm
    · rw [List.getElem?_set_ne e] at hv
      rcases h.sl d v hv with h1 | ⟨z, h1, h2, h3, h4⟩
      · exact .inl h1
      · have hza : z ≠ a := fun e2 => by
          subst e2
          rcases hac with ⟨e1, e2⟩ | ⟨e1, e2⟩
          · exact h3 (by simp [e1])
          · subst e1; rw [h1] at hv; exact e (h.one hy hv)
        have hzc : z ≠ c := fun e2 => by
          subst e2
          rcases hac with ⟨e1, e2⟩ | ⟨e1, e2⟩
          · subst e2; rw [h1] at hv; exact e (h.one hy hv)
          · exact h3 (by simp [e2])
        refine .inr ⟨z, h1, (hmem z).2 ⟨hzc, h2⟩, ?_, ?_⟩
        · simp only [List.mem_cons, not_or] at h3 ⊢
          exact ⟨hza, h3.2⟩
        · rw [(hu.ot z hza).1]; exact h4
  · exact List.nodup_cons.2 ⟨hap, hxp.2⟩
  · rw [List.length_erase_of_mem hcR]
    have := List.length_pos_of_mem hcR
    omega

end Go.Proofs.Ythhpdcegkbfijaa.Sh
