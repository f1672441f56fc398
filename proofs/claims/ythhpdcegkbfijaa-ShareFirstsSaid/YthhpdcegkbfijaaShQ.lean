/-
  share: ShareOrders, the walk.
-/
import Derived.Test.YthhpdcegkbfijaaShP
namespace Go.Proofs.Ythhpdcegkbfijaa.Sh
open Go.Proofs.Ythhpdcegkbfijaa.V Go.Proofs.Ythhpdcegkbfijaa.T
set_option linter.all false
set_option maxRecDepth 100000
set_option linter.unusedVariables false
set_option linter.unusedSimpArgs false
set_option linter.unnecessarySimpa false

theorem orders_walk {w : World} {whole : List Int} (hw : whole.length = 4) {v : Value} {l : List Us} (h : UsL w v l) : Ret PR 3 #[vec whole, v] w (fun r w' => r = .bool true ∧ Ext No w w') := by
  refine f3_ret ?_
  unfold f3
  refine bx_bk fun w2 he2 hsz2 hbw => ?_
  have hbw : Bk w2 w.heap.size (enc whole) 23 := hbw
  have hvec : ∀ {wz : World}, Ext No w2 wz → ∀ K : Value → Prop, lN 4 (.pointer (some ⟨w.heap.size, 0, none⟩)) wz K = K (vec whole) := fun he K => (hbw.no he).all (by rw [enc_len]; exact hw) K
  refine (awake_ok w2).mono ?_
  rintro _ w6 ⟨rfl, he6⟩
  have hlen : lenO v = some (.int .i64 l.length) := Sl.len h
  have hbig : l.length ≤ 9223372036854775807 := h.2.1
  simp only [hlen, vs, ar]
  by_cases h100 : l.length > 100
  · rw [show decide ((l.length : Int) > 100) = true from decide_eq_true (by omega)]
    simp only [vs]
    refine (awake_ok w6).mono ?_
    rintro _ w9 ⟨rfl, he9⟩
    exact ⟨rfl, (he2.tr he6).tr he9⟩
  rw [show decide ((l.length : Int) > 100) = false from decide_eq_false (by omega)]
  simp only [vs]
  rw [hvec he6]
  refine (order_ok hw (h.ext (he2.tr he6) fun _ _ h => h) (by omega)).mono ?_
  rintro _ w7 ⟨o, e, vo, hR, rfl, ho, he7, hn7⟩
  simp only [vs]
  have hx7 : Ext No w2 w7.drew := (he6.tr he7).drew
  refine ⟨fun w' => Ext No w2 w', hx7, ?_⟩
  refine Bk.lNC (b := w.heap.size) (cs := enc whole) (T := 23) (fun w' hw' => hbw.no hw') (o := 0) (vs := enc whole) (by rw [List.drop_zero, List.take_of_length_le (by rw [enc_len]; omega)]) (by rw [enc_len]; exact hw) ?_
  refine (plain_ok (h.ext (he2.tr hx7) fun _ _ h => h) (by omega)).mono ?_
  rintro vq w8 ⟨hU, he8, hn8⟩
  refine ⟨hx7.tr he8, ?_⟩
  refine (orderR_ok hw hU.sl (by omega)).mono ?_
  rintro _ w9 ⟨o2, e2, vo2, hR2, rfl, ho2, he9, hn9⟩
  obtain ⟨rfl, rfl⟩ := hR.uniq hR2
  simp only [vs, beq_self_eq_true]
  have hle := ho2.le
  have hs1 : Sl w9 1 vo o.length (encS o) := ((ho.ext (S := No) (Ext.refl No w7).drew fun _ _ h => h).ext he8 fun _ _ h => h).ext he9 (fun _ _ h => h) |>.sl hle
  refine (sameS_ok hs1 (ho2.sl hle)).mono ?_
  rintro _ w10 ⟨rfl, he10⟩
  simp only [decide_true, vs]
  exact ⟨by trivial, he2.tr (((hx7.tr he8).tr he9).tr he10)⟩

section
variable {H : Type} {en : TypeId × Value → H} {w : World} {base : Nat} {spare : Nat → Bool} {held : Bool}
theorem shareOrders_said {cs : Array Value} (h0 : Reads en PR w base spare held 23 cs.toList) {v : Value} (h1 : Reads en PR w base spare held 24 [v]) :
    Ret PR 3 #[.agg cs, v] w (fun r w' => r = .bool true ∧ Ext No w w') := by
  obtain ⟨whole, hw, he⟩ := vec_of h0
  obtain ⟨l, hl⟩ := read_us h1
  rw [he]
  exact orders_walk hw hl
end

end Go.Proofs.Ythhpdcegkbfijaa.Sh
