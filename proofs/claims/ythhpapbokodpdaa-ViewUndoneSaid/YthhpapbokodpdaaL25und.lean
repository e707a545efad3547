/- The law ViewUndone. -/
import Derived.Test.YthhpapbokodpdaaRows
import Derived.Test.YthhpapbokodpdaaP53
namespace Go.Proofs.Ythhpapbokodpdaa.viewUndone
open Go Go.ChangeShapes Go.WideShapes Go.ChangeAt Go.RowKit Go.Fw
set_option linter.unusedVariables false

theorem own : ownKnob Try.prog.godebug = none := by kernel_rfl
theorem laidOut : laidOutB Try.prog = true := by kernel_rfl

set_option maxRecDepth 100000 in
theorem lifted (os : Os) (started : os.Started) (H : Type) (enc : TypeId × Value → H) :
    ReturnsInHanded {} Try.checked os 4 .any (Rows.viewUndoneSpec.pre6 enc Try.prog Try.f4 Rows.viewUndoneRow.domain false) (Rows.viewUndoneSpec.post enc Try.prog Try.f4 false true false false) := by
  refine returnsInHanded_of_change (C := Try.checked) own started (by kernel_rfl) Try.func4
    (ChangeSpec.witness6 (enc := enc) (C := Try.checked) false ⟨#[], #[.slice none 0 0, .slice none 0 0, .int .u32 0], []⟩ 8 (by kernel_rfl) (by kernel_rfl) (by kernel_rfl) (by kernel_rfl)) ?_
  intro W base args ds gs before hval0 hW hcnd _
  have hval : ∀ (j : Nat) t v, Try.f4.params[j]? = some t → args[j]? = some v → Value.okWide Try.prog W .any base t v := hval0
  have hW' := hW
  obtain ⟨p, q, hA0, hV, rfl, hfz, hnd⟩ := hW
  have hA : DataW.TrodAll enc Try.prog W 0 (fun _ => true) true Try.f4.params.toList args.toList ds p := hA0
  rw [Try.params4] at hA hval
  obtain ⟨v0, vs0, d0, ds0, p0, q0, hargs, rfl, rfl, h0, r0⟩ := trodAll_cons hA
  obtain ⟨v1, vs1, d1, ds1, p1, q1, rfl, rfl, rfl, h1, r1⟩ := trodAll_cons r0
  obtain ⟨v2, vs2, d2, ds2, p2, q2, rfl, rfl, rfl, h2, r2⟩ := trodAll_cons r1
  obtain ⟨rfl, rfl, rfl⟩ := trodAll_nil r2
  obtain rfl : args = #[v0, v1, v2] := by cases args; simp_all
  obtain ⟨rfl, rfl⟩ := trodVars_none hV
  have k0 := h0
  have lt0 : ∀ x ∈ p0, x.block < W.heap.size := by obtain ⟨m, hm⟩ := k0; exact DataW.trod_lt m _ _ _ hm
  obtain ⟨x0, hx0, w0⟩ := arg_any (shB_ok (.sq 37 shCoin) 22 (by kernel_rfl)) (hval 0 22 v0 rfl rfl) h0
  obtain ⟨a0, rfl⟩ := coins_of hx0 w0.wf
  have k1 := h1
  have lt1 : ∀ x ∈ p1, x.block < W.heap.size := by obtain ⟨m, hm⟩ := k1; exact DataW.trod_lt m _ _ _ hm
  obtain ⟨x1, hx1, w1⟩ := arg_any (shB_ok (.sq 4 shTx) 48 (by kernel_rfl)) (hval 1 48 v1 rfl rfl) h1
  obtain ⟨a1, rfl⟩ := txs_of hx1 w1.wf
  have k2 := h2
  have lt2 : ∀ x ∈ p2, x.block < W.heap.size := by obtain ⟨m, hm⟩ := k2; exact DataW.trod_lt m _ _ _ hm
  obtain ⟨x2, hx2, w2⟩ := arg_any (shB_ok (.int .u32) 24 (by kernel_rfl)) (hval 2 24 v2 rfl rfl) h2
  obtain ⟨a2, rfl⟩ := h32_shp hx2 w2.wf
  clear hA0 hval0
  have hcall := law_walk c4 (ts := [coinsT a0, txsT a1, h32T a2]) (by first | rfl | exact if_pos ⟨_, rfl⟩ | (simp only [F4, inv_of coinsT_inj, inv_of txsT_inj, inv_of h32T_inj]; done) | (unfold F4; rfl)) (W := W) (vs := [v0, v1, v2]) rfl (by
    intro i t hi
    match i, hi with
    | 0, hi => cases hi; exact ⟨_, rfl, w0⟩
    | 1, hi => cases hi; exact ⟨_, rfl, w1⟩
    | 2, hi => cases hi; exact ⟨_, rfl, w2⟩
    | i + 3, hi => simp at hi)
  refine hcall.mono fun e W' ⟨he, bel⟩ => ?_
  subst he
  exact ⟨_, rfl, _, _, _, [], _, [], hW', trodAll_mk1 (shut_bool Try.underlying4 _), (trodAll_cons_mk (Below.trod laidOut (by kernel_rfl) (of_decide_eq_true (by kernel_rfl)) k0 bel lt0) (trodAll_cons_mk (Below.trod laidOut (by kernel_rfl) (of_decide_eq_true (by kernel_rfl)) k1 bel lt1) (trodAll_cons_mk (Below.trod laidOut (by kernel_rfl) (of_decide_eq_true (by kernel_rfl)) k2 bel lt2) trodAll_mk0))), rfl, bel.frame _, fun h => by cases h⟩

theorem over : Rows.viewUndoneRow.holds Try.pinned (OpenSpec.ofChange Rows.viewUndoneSpec) :=
  OpenClaim.holds_of_wide 4 Try.f4 rfl rfl rfl rfl rfl rfl rfl ⟨rfl, rfl, rfl, rfl, rfl⟩ rfl rfl rfl rfl rfl (by kernel_rfl) Try.func4 (by kernel_rfl)
    (of_decide_eq_true (by kernel_rfl)) (by unfold Func.isWrapper; first | (rw [if_pos (by decide +kernel)]; kernel_rfl) | (rw [if_neg (by decide +kernel)]; exact ⟨rfl, rfl⟩))
    (fun os started H enc _ => lifted os started H enc)

theorem proved : Rows.ViewUndoneSaid := over
end Go.Proofs.Ythhpapbokodpdaa.viewUndone
