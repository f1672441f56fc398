/-
  share: the law ShareFirst.
-/
import Derived.Test.YthhpdcegkbfijaaShI
namespace Go.Proofs.Ythhpdcegkbfijaa.Sh
open Go.Proofs.Ythhpdcegkbfijaa.V Go.Proofs.Ythhpdcegkbfijaa.T
set_option linter.all false
set_option maxRecDepth 100000
set_option linter.unusedVariables false
set_option linter.unusedSimpArgs false
set_option linter.unnecessarySimpa false

theorem OrdR.okD {whole : List Int} {l : List Us} {o : List Str} (h : OrdR whole l o 0) : (∀ u, u ∈ l → okU whole u) ∧ (l.map (·.nm)).Nodup ∧ ∃ p : List Us, p.Perm l ∧ p.Pairwise (ltU whole) ∧ o = p.map (·.nm) := by
  generalize he : (0 : Int) = e at h
  cases h with
  | err i hi h0 h1 => exact absurd he.symm h1
  | dup _ _ => omega
  | ok h h1 p hp hs => exact ⟨h, h1, p, hp, hs, rfl⟩
theorem OrdR.nodup {whole : List Int} {l : List Us} {o : List Str} (h : OrdR whole l o 0) : o.Nodup := by
  obtain ⟨_, h1, p, hp, _, rfl⟩ := h.okD
  exact (hp.map (fun u : Us => u.nm)).symm.nodup h1
theorem OrdR.mem {whole : List Int} {l : List Us} {o : List Str} (h : OrdR whole l o 0) {u : Us} (hu : u ∈ l) : u.nm ∈ o := by
  obtain ⟨_, h1, p, hp, _, rfl⟩ := h.okD
  exact List.mem_map_of_mem (hp.mem_iff.2 hu)
theorem OrdR.len {whole : List Int} {l : List Us} {o : List Str} (h : OrdR whole l o 0) : o.length = l.length := by
  obtain ⟨_, h1, p, hp, _, rfl⟩ := h.okD
  rw [List.length_map, hp.length_eq]

/-- without the first one -/
theorem OrdR.tail {whole : List Int} {u : Us} {l : List Us} {o : List Str} (h : OrdR whole (u :: l) o 0) {k : Nat} (hk : k < o.length) (hko : o[k] = u.nm) : OrdR whole l (o.take k ++ o.drop (k + 1)) 0 := by
  obtain ⟨hok, hn, p, hp, hs, rfl⟩ := h.okD
  rw [List.length_map] at hk
  have hpk : p[k] = u := by
    rw [List.getElem_map] at hko
    have hm : p[k] ∈ u :: l := hp.mem_iff.1 (List.getElem_mem hk)
    rcases List.mem_cons.1 hm with e | e
    · exact e
    · exfalso
      rw [List.map_cons, List.nodup_cons] at hn
      exact hn.1 (hko ▸ List.mem_map_of_mem e)
  have hsplit : p = p.take k ++ u :: p.drop (k + 1) := by
    conv => lhs; rw [← List.take_append_drop k p, List.drop_eq_getElem_cons hk, hpk]
  have hp' : (p.take k ++ p.drop (k + 1)).Perm l := by
    have h1 : (u :: (p.take k ++ p.drop (k + 1))).Perm p := by
      conv => rhs; rw [hsplit]
      exact List.perm_middle.symm
    exact List.Perm.cons_inv (h1.trans hp)
  have hsub : (p.take k ++ p.drop (k + 1)).Sublist p := by
    conv => rhs; rw [hsplit]
    exact List.Sublist.append (List.Sublist.refl _) (List.sublist_cons_self _ _)
  have := OrdR.ok (whole := whole) (l := l) (fun x hx => hok x (List.mem_cons_of_mem _ hx)) (by rw [List.map_cons, List.nodup_cons] at hn; exact hn.2) _ hp' (hs.sublist hsub)
  rw [List.map_append, List.map_take, List.map_drop] at this
  exact this

theorem encS_drop (l : List Str) (k : Nat) : (encS l).drop (k * 1) = encS (l.drop k) := by simp [encS, List.map_drop]

set_option maxHeartbeats 2000000 in
theorem firstl_walk {w : World} {whole : List Int} (hw : whole.length = 4) {v : Value} {l : List Us} (h : UsL w v l) : Ret PR 7 #[vec whole, v] w (fun r w' => r = .bool true ∧ Ext No w w') := by
  refine f7_ret ?_
  unfold f7
  refine bx_bk fun w2 he2 hsz2 hbw => ?_
  have hbw : Bk w2 w.heap.size (enc whole) 23 := hbw
  have hvec : ∀ {wz : World}, Ext No w2 wz → ∀ K : Value → Prop, lN 4 (.pointer (some ⟨w.heap.size, 0, none⟩)) wz K = K (vec whole) := fun he K => (hbw.no he).all (by rw [enc_len]; exact hw) K
  refine (awake_ok w2).mono ?_
  rintro _ w6 ⟨rfl, he6⟩
  have hlen : lenO v = some (.int .i64 l.length) := Sl.len h
  have hbig : l.length ≤ 9223372036854775807 := h.2.1
  simp only [hlen, vs, ar, beq_dec]
  by_cases h60 : l.length > 60
  · rw [show decide ((l.length : Int) > 60) = true from decide_eq_true (by omega)]
    simp only [vs]
    refine (awake_ok w6).mono ?_
    rintro _ w9 ⟨rfl, he9⟩
    exact ⟨rfl, (he2.tr he6).tr he9⟩
  rw [show decide ((l.length : Int) > 60) = false from decide_eq_false (by omega)]
  simp only [vs]
  rw [hvec he6]
  have usl : ∀ {wz : World}, Ext No w2 wz → UsL wz v l := fun he => h.ext (he2.tr he) fun _ _ h => h
  refine (order_ok hw (usl he6) (by omega)).mono ?_
  rintro _ w7 ⟨o, e, vo, hR, rfl, ho, he7, hn7⟩
  have hx7 := he6.tr he7
  simp only [vs, beq_dec]
  by_cases h0 : e = 0
  case neg =>
    rw [show decide (e = 0) = false from decide_eq_false h0]
    simp only [vs]
    rw [hvec hx7]
    refine (first_ok hw (am := []) (usl hx7) (by omega) (Sl.nil _ 1)).mono ?_
    rintro _ w8 ⟨o', e', hR', rfl, he8⟩
    obtain ⟨rfl, rfl⟩ := hR.uniq hR'
    have : (firstR o e []).2 = e := by unfold firstR; rw [if_pos h0]
    simp only [vs, this, decide_true, beq_self_eq_true]
    exact ⟨by trivial, (he2.tr hx7).tr he8⟩
  subst h0
  simp only [decide_true, vs]
  have hol := hR.len
  have hnd := hR.nodup
  have hso : Sl w7 1 vo o.length (encS o) := ho.sl (by omega)
  -- the names that are left
  refine loopG (Γ := Nat) (fun k y w' => k ≤ o.length ∧ Ext No w7 w' ∧ Sl w7 1 y (o.drop k).length (encS (o.drop k))) (fun k => o.length - k) 0 ⟨Nat.zero_le _, Ext.refl _ _, by simpa using hso⟩ ?_
  rintro k vl wa ⟨hk, hea, hsl⟩ K hK _
  have hxa := hx7.tr hea
  have hsa := hsl.ext hea fun _ _ h => h
  simp only [hsl.len, vs, ar]
  by_cases hlt : k < o.length
  · have hdl : (o.drop k).length = o.length - k := by simp
    rw [show decide (((o.drop k).length : Int) > 0) = true from decide_eq_true (by omega)]
    simp only [vs]
    rw [hvec hxa]
    refine (first_ok hw (usl hxa) (by omega) hsa).mono ?_
    rintro _ wb ⟨o', e', hR', rfl, heb⟩
    obtain ⟨rfl, rfl⟩ := hR.uniq hR'
    have hd0 : o.drop k = o[k] :: o.drop (k + 1) := List.drop_eq_getElem_cons hlt
    have hff : firstR o 0 (o.drop k) = (o[k], 0) := by
      unfold firstR
      rw [if_neg (by simp), find_first hlt (fun j hj hjk hm => ?_) (by rw [hd0]; exact List.mem_cons_self ..)]
      obtain ⟨m, hm2, he⟩ := List.mem_drop_iff_getElem.1 hm
      have := (List.pairwise_iff_getElem.1 hnd) j (k + m) hj (by omega) (by omega)
      exact this he.symm
    have hsb := hsa.ext heb fun _ _ h => h
    simp only [hff, vs, beq_self_eq_true, decide_true]
    have hg0 : (encS (o.drop k))[(0 : Int).toNat]? = some (str o[k]) := by rw [hd0]; rfl
    rw [hsb.get (by omega) (by omega) hg0]
    simp only [str_eq, decide_true, vs]
    obtain ⟨v', hc, hs'⟩ := cutLo (sz := 1) hsl (m := 1) (by omega)
    have hc' : cutO 1 vl (some (.int .i64 1)) none = some v' := hc
    rw [encS_drop, List.drop_drop, hdl] at hs'
    simp only [hc', vs]
    refine hK (k + 1) _ _ ⟨hlt, hea.tr heb, ?_⟩ (by omega)
    have hl2 : (o.drop (k + 1)).length = o.length - k - 1 := by simp; omega
    rw [hl2]; exact hs'
  · have hke : k = o.length := by omega
    have hd : o.drop k = [] := List.drop_eq_nil_of_le (by omega)
    rw [hd] at hsa
    simp only [hd, List.length_nil, Int.natCast_zero, show decide ((0 : Int) > 0) = false from rfl, vs]
    rw [hvec hxa]
    refine (first_ok hw (usl hxa) (by omega) hsa).mono ?_
    rintro _ wb ⟨o', e', hR', rfl, heb⟩
    obtain ⟨rfl, rfl⟩ := hR.uniq hR'
    have hff : firstR o 0 [] = ([], 3) := by
      unfold firstR
      rw [if_neg (by simp)]
      have : o.find? (fun s => decide (s ∈ ([] : List Str))) = none := by
        rw [List.find?_eq_none]; intro s _; simp
      rw [this]
    simp only [hff, vs, decide_true]
    have hxb := hxa.tr heb
    cases l with
    | nil =>
      have : o.length = 0 := by rw [hol]; rfl
      simp only [List.length_nil, Int.natCast_zero, decide_true, vs, hso.len, this]
      exact ⟨by trivial, he2.tr hxb⟩
    | cons u l =>
      rw [show decide ((((u :: l).length : Nat) : Int) = 0) = false from decide_eq_false (by simp; omega)]
      simp only [vs]
      obtain ⟨v', hc, hs'⟩ := (usl hxb).cutLo (m := 1) (by simp)
      have hc' : cutO 6 v (some (.int .i64 1)) none = some v' := hc
      simp only [hc', vs]
      have hxd := hxb.drew
      rw [hvec hxd]
      have hs1 : UsL wb.drew v' l := by
        have : UsL wb v' l := hs'
        exact this.ext (Ext.refl No wb).drew fun _ _ h => h
      have hll : (u :: l).length = l.length + 1 := rfl
      refine (order_ok hw hs1 (by omega)).mono ?_
      rintro _ wc ⟨o2, e2, v2, hR2, rfl, ho2, hec, hn2⟩
      have hxc := hxd.tr hec
      have huc := usl hxc
      obtain ⟨g, og, _, hix, hcell⟩ := huc.at (i := 0) (by simp)
      have hc0 := hcell 0 (by omega)
      simp only [Nat.add_zero, List.getElem_cons_zero] at hc0
      have hix' : ixsO 6 v (.int .i64 0) = some (.pointer (some ⟨g, og, none⟩)) := hix
      simp only [vs, hix', Nat.add_zero, l1_eq (show wc.cell? ⟨g, og, none⟩ = some (str u.nm) from hc0)]
      have hxac : Ext No w7 wc := ((hea.tr heb).drew).tr hec
      have hsoc := hso.ext hxac fun _ _ h => h
      refine (place_ok (x := u.nm) hsoc).mono ?_
      rintro _ wd ⟨hpl, rfl⟩
      have hmem := hR.mem (u := u) (by simp)
      rcases hpl with ⟨hno, _⟩ | ⟨q, hq, hqo, hqn, rfl⟩
      · exact absurd hmem hno
      have hRt := hR.tail hq hqo
      obtain ⟨rfl, rfl⟩ := hRt.uniq hR2
      have hl2 : (o.take q ++ o.drop (q + 1)).length = o.length - 1 := by simp; omega
      have hs2 : Sl wd 1 v2 (o.take q ++ o.drop (q + 1)).length (encS (o.take q ++ o.drop (q + 1))) := ho2.sl (by omega)
      simp only [show ((0 : Int) == 0) = true from rfl, vs, ar]
      rw [show decide ((q : Int) < 0) = false from decide_eq_false (by omega)]
      simp (disch := omega) only [vs, hs2.len, hso.len, ar]
      rw [beq_dec, show decide ((((o.take q ++ o.drop (q + 1)).length : Nat) : Int) = ((o.length : Nat) : Int) - 1) = true from decide_eq_true (by omega)]
      simp only [vs]
      have hfin := he2.tr hxc
      have hg1 : ∀ i, i < q → (o.take q ++ o.drop (q + 1))[i]? = o[i]? := fun i hi => by
        rw [List.getElem?_append_left (by simp; omega), List.getElem?_take, if_pos hi]
      have hg2 : ∀ i, q ≤ i → (o.take q ++ o.drop (q + 1))[i]? = o[i + 1]? := fun i hi => by
        rw [List.getElem?_append_right (by simp; omega), List.getElem?_drop]
        congr 1
        simp only [List.length_take]; omega
      generalize o.take q ++ o.drop (q + 1) = m at *
      refine for1 (by omega) (fun i w' => Ext No wd w') (Ext.refl _ _) ?_ ?_
      · rintro i wi hi hei K3 hK3 K4 hK4
        have fin : ∀ (a : Nat) (ha : a < o.length), m[i]? = o[a]? → K4 (.int .i64 (a : Int)) wi := fun a ha hae => by
          refine hK4 _ _ fun _ => ?_
          have hmo : m[i] = o[a] := by
            rw [List.getElem?_eq_getElem hi, List.getElem?_eq_getElem ha] at hae
            exact Option.some.inj hae
          have hxi := hei.drew
          have s1 := hs2.ext hxi fun _ _ h => h
          have s2 := hsoc.ext hxi fun _ _ h => h
          obtain ⟨b1, o1, _, _, q1, g1⟩ := s1.at (k := .i64) (i := i) (by omega) (by omega)
          obtain ⟨b2, o2, _, _, q2, g2⟩ := s2.at (k := .i64) (i := a) (by omega) (by omega)
          have c1 := g1 0 (str m[i]) (by omega) (by have := encS_at m hi; simpa using this)
          have c2 := g2 0 (str o[a]) (by omega) (by have := encS_at o ha; simpa using this)
          rw [Nat.add_zero] at c1 c2
          simp only [q1, q2, vs, l1_eq c1, l1_eq c2, str_eq, hmo, decide_true]
          simp (disch := omega) only [vs, ar]
          exact hK3 _ hxi
        by_cases hiq : (i : Int) ≥ (q : Int)
        · simp (disch := omega) only [hiq, decide_true, vs, ar]
          rw [show (i : Int) + 1 = ((i + 1 : Nat) : Int) by omega]
          exact fin (i + 1) (by omega) (hg2 i (by omega))
        · simp only [ar, hiq, decide_false, vs]
          exact fin i (by omega) (hg1 i (by omega))
      · intro wi hei
        exact ⟨by trivial, hfin.tr hei⟩

section
variable {H : Type} {en : TypeId × Value → H} {w : World} {base : Nat} {spare : Nat → Bool} {held : Bool}
theorem shareFirst_said {cs : Array Value} (h0 : Reads en PR w base spare held 23 cs.toList) {v : Value} (h1 : Reads en PR w base spare held 24 [v]) :
    Ret PR 7 #[.agg cs, v] w (fun r w' => r = .bool true ∧ Ext No w w') := by
  obtain ⟨whole, hw, he⟩ := vec_of h0
  obtain ⟨l, hl⟩ := read_us h1
  rw [he]
  exact firstl_walk hw hl
end

end Go.Proofs.Ythhpdcegkbfijaa.Sh
