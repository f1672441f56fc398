/-
  share: the law ShareTurns.
-/
import Derived.Test.YthhpdcegkbfijaaShH
namespace Go.Proofs.Ythhpdcegkbfijaa.Sh
open Go.Proofs.Ythhpdcegkbfijaa.V Go.Proofs.Ythhpdcegkbfijaa.T
set_option linter.all false
set_option maxRecDepth 100000
set_option linter.unusedVariables false
set_option linter.unusedSimpArgs false
set_option linter.unnecessarySimpa false

theorem i64_rem {a b : Int} (h0 : 0 ≤ a) (hb : 0 < b) : arithO .rem (.int .i64 a) (.int .i64 b) = some (.int .i64 (a % b)) := by
  have h1 : a.tmod b = a % b := Int.tmod_eq_emod_of_nonneg h0
  simp only [arithO]
  rw [if_pos ⟨by trivial, by omega⟩, h1]

set_option maxHeartbeats 1000000 in
theorem turns_walk {w : World} {whole : List Int} (hw : whole.length = 4) {v : Value} {l : List Us} (h : UsL w v l) {k : Int} (hk0 : 0 ≤ k) (hk1 : k ≤ 255) : Ret PR 4 #[vec whole, v, .int .u8 k] w (fun r w' => r = .bool true ∧ Ext No w w') := by
  refine f4_ret ?_
  unfold f4
  refine bx_bk fun w2 he2 hsz2 hbw => ?_
  have hbw : Bk w2 w.heap.size (enc whole) 23 := hbw
  refine (awake_ok w2).mono ?_
  rintro _ w6 ⟨rfl, he6⟩
  have hE6 := he2.tr he6
  have hlen : lenO v = some (.int .i64 l.length) := Sl.len h
  have hbig : l.length ≤ 9223372036854775807 := h.2.1
  simp only [hlen, vs, ar, beq_dec]
  have out : ∀ w', Ext No w w' → Ret PR 8 #[] w' (fun r w'' => r = .bool true ∧ Ext No w w'') := fun w' he => by
    refine (awake_ok w').mono ?_
    rintro _ w9 ⟨rfl, he9⟩
    exact ⟨rfl, he.tr he9⟩
  by_cases h100 : l.length > 100
  · rw [show decide ((l.length : Int) > 100) = true from decide_eq_true (by omega)]
    simp only [vs]
    exact out _ hE6
  rw [show decide ((l.length : Int) > 100) = false from decide_eq_false (by omega)]
  simp only [vs]
  by_cases h0 : l.length = 0
  · rw [show decide ((l.length : Int) = 0) = true from decide_eq_true (by omega)]
    simp only [vs]
    exact out _ hE6
  rw [show decide ((l.length : Int) = 0) = false from decide_eq_false (by omega)]
  have hcv : cviO .i64 (.int .u8 k) = some (.int .i64 k) := by
    simp only [cviO, wrap64' (show (-9223372036854775808 : Int) ≤ k by omega) (show k ≤ 9223372036854775807 by omega)]
  simp only [hcv, vs, i64_rem hk0 (show (0 : Int) < (l.length : Int) by omega)]
  obtain ⟨n, hn⟩ : ∃ n : Nat, k % (l.length : Int) = (n : Int) := ⟨(k % (l.length : Int)).toNat, by have := Int.emod_nonneg k (show (l.length : Int) ≠ 0 by omega); omega⟩
  have hnl : n < l.length := by have := Int.emod_lt_of_pos k (show (0 : Int) < (l.length : Int) by omega); omega
  rw [hn]
  have hu6 : UsL w6 v l := h.ext hE6 fun _ _ h => h
  obtain ⟨v1, hc1, hs1⟩ := hu6.cutLo (Nat.le_of_lt hnl)
  simp only [hc1, vs]
  refine append_own E24 (Own.nil w6 37 6) hs1 (uC_one _) (by simp; omega) (by simp; omega) fun va wa hoa hea hka _ => ?_
  rw [Nat.zero_add, List.nil_append] at hoa
  have nil0 : ∀ k, ¬ inB (.slice none 0 0) k := fun k hk => by simp [inB, Value.ownBlock] at hk
  have hEa0 : Ext No w6 wa := hea.mono fun m _ hm => absurd hm (nil0 m)
  have hEa := hE6.tr hEa0
  have hnb : ∀ m, inB va m → w6.heap.size ≤ m := fun m hm => (hka m hm).resolve_left (nil0 m)
  have hua : UsL wa v l := h.ext hEa fun _ _ h => h
  obtain ⟨v2, hc2, hs2⟩ := hua.cutHi (Nat.le_of_lt hnl)
  have hc2' : cutO 6 v none (some (.int .i64 (n : Int))) = some v2 := hc2
  simp only [hc2', vs]
  refine append_own E24 hoa hs2 (uC_one _) (by simp; omega) (by simp; omega) fun vb wb hob heb hkb _ => ?_
  have hEb : Ext No w wb := hEa.trans heb fun m hm hin => by have := hnb m hin; have := hE6.size; omega
  have hub : UsL wb vb (l.drop n ++ l.take n) := by
    have e1 : (l.drop n).flatMap uC ++ (l.take n).flatMap uC = (l.drop n ++ l.take n).flatMap uC := by simp
    have e2 : (l.drop n).length + (l.take n).length = (l.drop n ++ l.take n).length := by simp
    rw [e1, e2] at hob
    exact hob.sl hob.le
  have hbwb : Bk wb w.heap.size (enc whole) 23 := ((hbw.no he6).no hEa0).ext heb fun hin => by have := hnb _ hin; have := hE6.size; have := (hbw.no he6).lt; omega
  rw [hbwb.all (by rw [enc_len]; exact hw)]
  change Ret PR 9 #[vec whole, v] wb _
  refine (order_ok hw (h.ext hEb fun _ _ h => h) (by omega)).mono ?_
  rintro _ wc ⟨o1, e1, x1, hR1, rfl, ho1, hec, hn1⟩
  have hEc := hEb.tr hec
  simp only [vs]
  rw [(hbwb.no hec).all (by rw [enc_len]; exact hw)]
  change Ret PR 9 #[vec whole, vb] wc _
  have hperm : l.Perm (l.drop n ++ l.take n) := by
    have h1 : l.Perm (l.take n ++ l.drop n) := by rw [List.take_append_drop]
    exact h1.trans List.perm_append_comm
  have hlen2 : (l.drop n ++ l.take n).length = l.length := hperm.length_eq.symm
  refine (order_ok hw (hub.ext hec fun _ _ h => h) (by omega)).mono ?_
  rintro _ wd ⟨o2, e2, x2, hR2, rfl, ho2, hed, hn2⟩
  obtain ⟨rfl, hee⟩ := hR1.turn hperm hR2
  simp only [vs, beq_dec]
  have hdd : decide (e1 = 0) = decide (e2 = 0) := decide_eq_decide.2 hee
  rw [hdd]
  simp only [beq_self_eq_true, vs]
  have ho1d := ho1.ext hed fun _ _ h => h
  refine (sameS_ok (ho1d.sl ho1d.le) (ho2.sl ho2.le)).mono ?_
  rintro _ we ⟨rfl, hee⟩
  simp only [decide_true, vs]
  exact ⟨by trivial, (hEc.tr hed).tr hee⟩

section
variable {H : Type} {en : TypeId × Value → H} {w : World} {base : Nat} {spare : Nat → Bool} {held : Bool}
theorem vec_of {cs : Array Value} (h : Reads en PR w base spare held 23 cs.toList) : ∃ v : List Int, v.length = 4 ∧ Value.agg cs = vec v := by
  obtain ⟨v, h1, h2⟩ := read_vec h
  refine ⟨v, h1, ?_⟩
  unfold vec
  rw [← h2]
theorem fits_u8 {a : Int} (h : (Lit.int .u8 a).wf = true) : 0 ≤ a ∧ a ≤ 255 := by
  simpa [Lit.wf, IntKind.min, IntKind.max, IntKind.bits, IntKind.signed] using h
theorem shareTurns_said {cs : Array Value} (h0 : Reads en PR w base spare held 23 cs.toList) {v : Value} (h1 : Reads en PR w base spare held 24 [v]) {k : Int} (hk : (Lit.int .u8 k).wf = true) :
    Ret PR 4 #[.agg cs, v, .int .u8 k] w (fun r w' => r = .bool true ∧ Ext No w w') := by
  obtain ⟨whole, hw, he⟩ := vec_of h0
  obtain ⟨l, hl⟩ := read_us h1
  have := fits_u8 hk
  rw [he]
  exact turns_walk hw hl this.1 this.2
end

end Go.Proofs.Ythhpdcegkbfijaa.Sh
