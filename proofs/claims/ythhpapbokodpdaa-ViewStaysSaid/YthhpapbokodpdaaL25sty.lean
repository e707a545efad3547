/- The law ViewStays. -/
import Derived.Test.YthhpapbokodpdaaRows
import Derived.Test.YthhpapbokodpdaaP50
namespace Go.Proofs.Ythhpapbokodpdaa.viewStays
open Go Go.ChangeShapes Go.WideShapes Go.ChangeAt Go.RowKit Go.Fw
set_option linter.unusedVariables false

theorem own : ownKnob Try.prog.godebug = none := by kernel_rfl
theorem laidOut : laidOutB Try.prog = true := by kernel_rfl

set_option maxRecDepth 100000 in
theorem lifted (os : Os) (started : os.Started) (H : Type) (enc : TypeId × Value → H) :
    ReturnsInHanded {} Try.checked os 5 .any (Rows.viewStaysSpec.pre6 enc Try.prog Try.f5 Rows.viewStaysRow.domain false) (Rows.viewStaysSpec.post enc Try.prog Try.f5 false true false false) := by
  refine returnsInHanded_of_change (C := Try.checked) own started (by kernel_rfl) Try.func5
    (ChangeSpec.witness6 (enc := enc) (C := Try.checked) false ⟨#[], #[.slice none 0 0, .agg (#[.int .i64 0] ++ (#[] ++ Array.replicate 32 (.int .u8 0) ++ #[.int .u32 0, .int .u64 0, .slice none 0 0, .int .u32 0, .bool false]) ++ #[.int .u32 0, .slice none 0 0, .slice none 0 0, .int .u32 0, .slice none 0 0, .int .u32 0, .bool false, .slice none 0 0])], []⟩ 8 (by kernel_rfl) (by kernel_rfl) (by kernel_rfl) (by kernel_rfl)) ?_
  intro W base args ds gs before hval0 hW hcnd _
  have hval : ∀ (j : Nat) t v, Try.f5.params[j]? = some t → args[j]? = some v → Value.okWide Try.prog W .any base t v := hval0
  have hW' := hW
  obtain ⟨p, q, hA0, hV, rfl, hfz, hnd⟩ := hW
  have hA : DataW.TrodAll enc Try.prog W 0 (fun _ => true) true Try.f5.params.toList args.toList ds p := hA0
  rw [Try.params5] at hA hval
  obtain ⟨v0, vs0, d0, ds0, p0, q0, hargs, rfl, rfl, h0, r0⟩ := trodAll_cons hA
  obtain ⟨v1, vs1, d1, ds1, p1, q1, rfl, rfl, rfl, h1, r1⟩ := trodAll_cons r0
  obtain ⟨rfl, rfl, rfl⟩ := trodAll_nil r1
  obtain rfl : args = #[v0, v1] := by cases args; simp_all
  obtain ⟨rfl, rfl⟩ := trodVars_none hV
  have k0 := h0
  have lt0 : ∀ x ∈ p0, x.block < W.heap.size := by obtain ⟨m, hm⟩ := k0; exact DataW.trod_lt m _ _ _ hm
  obtain ⟨x0, hx0, w0⟩ := arg_any (shB_ok (.sq 37 shCoin) 22 (by kernel_rfl)) (hval 0 22 v0 rfl rfl) h0
  obtain ⟨a0, rfl⟩ := coins_of hx0 w0.wf
  have k1 := h1
  have lt1 : ∀ x ∈ p1, x.block < W.heap.size := by obtain ⟨m, hm⟩ := k1; exact DataW.trod_lt m _ _ _ hm
  obtain ⟨x1, hx1, w1⟩ := arg_any (shB_ok shVact 60 (by kernel_rfl)) (hval 1 60 v1 rfl rfl) h1
  obtain ⟨a1, rfl⟩ := vact_of hx1 w1.wf
  clear hA0 hval0
  have hcall := law_walk c5 (ts := [coinsT a0, vactT a1]) (by first | rfl | exact if_pos ⟨_, rfl⟩ | (simp only [F5, inv_of coinsT_inj, inv_of vactT_inj]; done) | (unfold F5; rfl)) (W := W) (vs := [v0, v1]) rfl (by
    intro i t hi
    match i, hi with
    | 0, hi => cases hi; exact ⟨_, rfl, w0⟩
    | 1, hi => cases hi; exact ⟨_, rfl, w1⟩
    | i + 2, hi => simp at hi)
  refine hcall.mono fun e W' ⟨he, bel⟩ => ?_
  subst he
  exact ⟨_, rfl, _, _, _, [], _, [], hW', trodAll_mk1 (shut_bool Try.underlying4 _), (trodAll_cons_mk (Below.trod laidOut (by kernel_rfl) (of_decide_eq_true (by kernel_rfl)) k0 bel lt0) (trodAll_cons_mk (Below.trod laidOut (by kernel_rfl) (of_decide_eq_true (by kernel_rfl)) k1 bel lt1) trodAll_mk0)), rfl, bel.frame _, fun h => by cases h⟩

theorem over : Rows.viewStaysRow.holds Try.pinned (OpenSpec.ofChange Rows.viewStaysSpec) :=
  OpenClaim.holds_of_wide 5 Try.f5 rfl rfl rfl rfl rfl rfl rfl ⟨rfl, rfl, rfl, rfl, rfl⟩ rfl rfl rfl rfl rfl (by kernel_rfl) Try.func5 (by kernel_rfl)
    (of_decide_eq_true (by kernel_rfl)) (by unfold Func.isWrapper; first | (rw [if_pos (by decide +kernel)]; kernel_rfl) | (rw [if_neg (by decide +kernel)]; exact ⟨rfl, rfl⟩))
    (fun os started H enc _ => lifted os started H enc)

theorem proved : Rows.ViewStaysSaid := over
end Go.Proofs.Ythhpapbokodpdaa.viewStays
