/- The abstract machine, and the contracts of the code: part 40. -/
import Derived.Test.YtjepppdninejdaaFwT27

section
/- Chapter 27: a disk's calls. -/
namespace Go.Fw
open Go Go.Proofs
set_option linter.unusedVariables false
set_option linter.unusedSimpArgs false

/-- A disk in memory. -/
abbrev dk (a b c : Nat) (left : Int) (off : Bool) : Blk := .bx (.st [.own a, .own b, .own c, .t (.int .i64 left), .t (.bool off)])

def spL (l : Int) (off : Bool) : Int × Bool × Bool := if l = 0 then (l, true, false) else if off = true then (l, off, false) else if 0 < l then (l - 1, off, true) else (l, off, true)

def G26 : GFun
  | [.bx (.st [.own 1, .own 2, .own 3, .t (.int .i64 l), .t (.bool off)]), .sq 128 s, .sq 128 n, .sq 129 p], [.ptr 0 0 []] => some ([dk 1 2 3 (spL l off).1 (spL l off).2.1, .sq 128 s, .sq 128 n, .sq 129 p], .t (.bool (spL l off).2.2))
  | _, _ => none

theorem cl26 : GClOk Try.prog [] := GClOk.nil _

theorem inK_i64 {l : Int} (h : inK .i64 l) : -9223372036854775808 ≤ l ∧ l ≤ 9223372036854775807 := by
  simpa [inK, IntKind.min, IntKind.max, IntKind.signed, IntKind.bits] using h

/-- A number in a box is one of its kind. -/
theorem bx_int {c : Ctx} {m : Mem} {w : World} {H : List Blk} (h : Inv c m w H) {i : Nat} {xs : List AV} (hi : H[i]? = some (.bx (.st xs))) {k : IntKind} {l : Int} (hk : AV.t (.int k l) ∈ xs) : inK k l := by
  obtain ⟨b, cur, e, _, _, _, hw, _⟩ := h.ok _ _ hi
  simp only [AV.wf] at hw
  have := (AV.wfL_iff xs).1 hw _ hk
  simpa only [AV.wf, T.wf] using this

theorem g26 : GCon Try.prog 26 G26 := by
  refine gcon (E := E) (rs := [(2, 4)]) Try.func26 rfl Try.ntmps26 (by kernel_rfl) rfl (by decide) G26 (np := 1) ?_ ?_
  · intro HB xs h; unfold G26; split <;> first | rfl | (simp at h; done)
  intro HB xs H r hG hwf hex
  unfold G26 at hG
  split at hG <;> try (cases hG; done)
  rename_i l off s n p
  cases hG
  obtain ⟨_, _, _, hinv⟩ := hex
  have hl := inK_i64 (bx_int hinv (i := 0) rfl (k := .i64) (l := l) (by simp))
  refine AWP.gseq X_ok cl26 [0, 2, 7, 14, 19] (by ((repeat (first | simp only [W, eqq, ↓reduceIte, Nat.reduceEqDiff, Nat.reduceLT, Nat.reduceLeDiff, Nat.reduceAdd, Nat.reduceMul, Nat.reduceSub, Nat.reduceBEq, Int.reduceLE, Int.reduceLT, Int.reduceNeg, Int.reduceToNat, Int.reduceEq, Int.reduceBEq, Int.reduceBNe, Nat.reduceBNe, bne_self_eq_false, reduceCtorEq, gentry] | (rewrite [if_pos]; rotate_left; focus (first | omega | (simp only [LN, gentry]; omega) | (refine ⟨?_, ?_⟩ <;> (simp only [LN, gentry] <;> omega)))) | (rewrite [if_neg]; rotate_left; focus (first | omega | (simp only [LN, gentry]; omega) | (refine ⟨?_, ?_⟩ <;> (simp only [LN, gentry] <;> omega)))))); with_reducible rfl)) ?_
  refine AWP.seq ?_
  refine AWP.gseq X_ok cl26 [0, 2, 7, 14, 19] (by ((repeat (first | simp only [W, eqq, ↓reduceIte, Nat.reduceEqDiff, Nat.reduceLT, Nat.reduceLeDiff, Nat.reduceAdd, Nat.reduceMul, Nat.reduceSub, Nat.reduceBEq, Int.reduceLE, Int.reduceLT, Int.reduceNeg, Int.reduceToNat, Int.reduceEq, Int.reduceBEq, Int.reduceBNe, Nat.reduceBNe, bne_self_eq_false, reduceCtorEq] | (rewrite [if_pos]; rotate_left; focus (first | omega | (simp only [LN]; omega) | (refine ⟨?_, ?_⟩ <;> (simp only [LN] <;> omega)))) | (rewrite [if_neg]; rotate_left; focus (first | omega | (simp only [LN]; omega) | (refine ⟨?_, ?_⟩ <;> (simp only [LN] <;> omega)))))); with_reducible rfl)) ?_
  cases h0 : (l == 0)
  case true =>
    have h0' : l = 0 := by simpa using h0
    subst h0'
    have e : spL 0 off = (0, true, false) := by simp [spL]
    rw [e]
    refine AWP.condT (by simp only [W, eqq, ↓reduceIte, Nat.reduceEqDiff, Nat.reduceLT, Nat.reduceLeDiff, Nat.reduceAdd, Nat.reduceMul, Nat.reduceSub, Nat.reduceBEq, Int.reduceLE, Int.reduceLT, Int.reduceNeg, Int.reduceToNat, Int.reduceEq, Int.reduceBEq, Int.reduceBNe, Nat.reduceBNe, bne_self_eq_false, reduceCtorEq, h0]) ?_
    refine AWP.greg X_ok cl26 [0, 2, 7, 14, 19] (by ((repeat (first | simp only [W, eqq, ↓reduceIte, Nat.reduceEqDiff, Nat.reduceLT, Nat.reduceLeDiff, Nat.reduceAdd, Nat.reduceMul, Nat.reduceSub, Nat.reduceBEq, Int.reduceLE, Int.reduceLT, Int.reduceNeg, Int.reduceToNat, Int.reduceEq, Int.reduceBEq, Int.reduceBNe, Nat.reduceBNe, bne_self_eq_false, reduceCtorEq] | (rewrite [if_pos]; rotate_left; focus (first | omega | (simp only [LN]; omega) | (refine ⟨?_, ?_⟩ <;> (simp only [LN] <;> omega)))) | (rewrite [if_neg]; rotate_left; focus (first | omega | (simp only [LN]; omega) | (refine ⟨?_, ?_⟩ <;> (simp only [LN] <;> omega)))))); with_reducible rfl)) ?_
    show AWP _ _ _ _ _ _
    refine AWP.seq ?_
    refine AWP.gseq X_ok cl26 [0, 2, 7, 14, 19] (by ((repeat (first | simp only [W, eqq, ↓reduceIte, Nat.reduceEqDiff, Nat.reduceLT, Nat.reduceLeDiff, Nat.reduceAdd, Nat.reduceMul, Nat.reduceSub, Nat.reduceBEq, Int.reduceLE, Int.reduceLT, Int.reduceNeg, Int.reduceToNat, Int.reduceEq, Int.reduceBEq, Int.reduceBNe, Nat.reduceBNe, bne_self_eq_false, reduceCtorEq] | (rewrite [if_pos]; rotate_left; focus (first | omega | (simp only [LN]; omega) | (refine ⟨?_, ?_⟩ <;> (simp only [LN] <;> omega)))) | (rewrite [if_neg]; rotate_left; focus (first | omega | (simp only [LN]; omega) | (refine ⟨?_, ?_⟩ <;> (simp only [LN] <;> omega)))))); with_reducible rfl)) ?_
    refine AWP.condT (by simp only [W, eqq, ↓reduceIte, Nat.reduceEqDiff, Nat.reduceLT, Nat.reduceLeDiff, Nat.reduceAdd, Nat.reduceMul, Nat.reduceSub, Nat.reduceBEq, Int.reduceLE, Int.reduceLT, Int.reduceNeg, Int.reduceToNat, Int.reduceEq, Int.reduceBEq, Int.reduceBNe, Nat.reduceBNe, bne_self_eq_false, reduceCtorEq]) ?_
    refine AWP.gseq X_ok cl26 [0, 2, 7, 14, 19] (by ((repeat (first | simp only [W, eqq, ↓reduceIte, Nat.reduceEqDiff, Nat.reduceLT, Nat.reduceLeDiff, Nat.reduceAdd, Nat.reduceMul, Nat.reduceSub, Nat.reduceBEq, Int.reduceLE, Int.reduceLT, Int.reduceNeg, Int.reduceToNat, Int.reduceEq, Int.reduceBEq, Int.reduceBNe, Nat.reduceBNe, bne_self_eq_false, reduceCtorEq] | (rewrite [if_pos]; rotate_left; focus (first | omega | (simp only [LN]; omega) | (refine ⟨?_, ?_⟩ <;> (simp only [LN] <;> omega)))) | (rewrite [if_neg]; rotate_left; focus (first | omega | (simp only [LN]; omega) | (refine ⟨?_, ?_⟩ <;> (simp only [LN] <;> omega)))))); with_reducible rfl)) ?_
    exact AWP.ret ⟨.inr rfl, [], [0, 1, 2, 3], (show okIds 4 [0, 1, 2, 3] by decide), rfl, rfl⟩
  case false =>
    have h0' : l ≠ 0 := by simpa using h0
    refine AWP.condF (by simp only [W, eqq, ↓reduceIte, Nat.reduceEqDiff, Nat.reduceLT, Nat.reduceLeDiff, Nat.reduceAdd, Nat.reduceMul, Nat.reduceSub, Nat.reduceBEq, Int.reduceLE, Int.reduceLT, Int.reduceNeg, Int.reduceToNat, Int.reduceEq, Int.reduceBEq, Int.reduceBNe, Nat.reduceBNe, bne_self_eq_false, reduceCtorEq, h0]) (AWP.skip ?_)
    show AWP _ _ _ _ _ _
    refine AWP.seq ?_
    refine AWP.gseq X_ok cl26 [0, 2, 7, 14, 19] (by ((repeat (first | simp only [W, eqq, ↓reduceIte, Nat.reduceEqDiff, Nat.reduceLT, Nat.reduceLeDiff, Nat.reduceAdd, Nat.reduceMul, Nat.reduceSub, Nat.reduceBEq, Int.reduceLE, Int.reduceLT, Int.reduceNeg, Int.reduceToNat, Int.reduceEq, Int.reduceBEq, Int.reduceBNe, Nat.reduceBNe, bne_self_eq_false, reduceCtorEq] | (rewrite [if_pos]; rotate_left; focus (first | omega | (simp only [LN]; omega) | (refine ⟨?_, ?_⟩ <;> (simp only [LN] <;> omega)))) | (rewrite [if_neg]; rotate_left; focus (first | omega | (simp only [LN]; omega) | (refine ⟨?_, ?_⟩ <;> (simp only [LN] <;> omega)))))); with_reducible rfl)) ?_
    cases off
    case true =>
      have e : spL l true = (l, true, false) := by simp [spL, h0']
      rw [e]
      refine AWP.condT (by simp only [W, eqq, ↓reduceIte, Nat.reduceEqDiff, Nat.reduceLT, Nat.reduceLeDiff, Nat.reduceAdd, Nat.reduceMul, Nat.reduceSub, Nat.reduceBEq, Int.reduceLE, Int.reduceLT, Int.reduceNeg, Int.reduceToNat, Int.reduceEq, Int.reduceBEq, Int.reduceBNe, Nat.reduceBNe, bne_self_eq_false, reduceCtorEq]) ?_
      refine AWP.gseq X_ok cl26 [0, 2, 7, 14, 19] (by ((repeat (first | simp only [W, eqq, ↓reduceIte, Nat.reduceEqDiff, Nat.reduceLT, Nat.reduceLeDiff, Nat.reduceAdd, Nat.reduceMul, Nat.reduceSub, Nat.reduceBEq, Int.reduceLE, Int.reduceLT, Int.reduceNeg, Int.reduceToNat, Int.reduceEq, Int.reduceBEq, Int.reduceBNe, Nat.reduceBNe, bne_self_eq_false, reduceCtorEq] | (rewrite [if_pos]; rotate_left; focus (first | omega | (simp only [LN]; omega) | (refine ⟨?_, ?_⟩ <;> (simp only [LN] <;> omega)))) | (rewrite [if_neg]; rotate_left; focus (first | omega | (simp only [LN]; omega) | (refine ⟨?_, ?_⟩ <;> (simp only [LN] <;> omega)))))); with_reducible rfl)) ?_
      exact AWP.ret ⟨.inr rfl, [], [0, 1, 2, 3], (show okIds 4 [0, 1, 2, 3] by decide), rfl, rfl⟩
    case false =>
      refine AWP.condF (by simp only [W, eqq, ↓reduceIte, Nat.reduceEqDiff, Nat.reduceLT, Nat.reduceLeDiff, Nat.reduceAdd, Nat.reduceMul, Nat.reduceSub, Nat.reduceBEq, Int.reduceLE, Int.reduceLT, Int.reduceNeg, Int.reduceToNat, Int.reduceEq, Int.reduceBEq, Int.reduceBNe, Nat.reduceBNe, bne_self_eq_false, reduceCtorEq]) (AWP.skip ?_)
      show AWP _ _ _ _ _ _
      refine AWP.seq ?_
      refine AWP.gseq X_ok cl26 [0, 2, 7, 14, 19] (by ((repeat (first | simp only [W, eqq, ↓reduceIte, Nat.reduceEqDiff, Nat.reduceLT, Nat.reduceLeDiff, Nat.reduceAdd, Nat.reduceMul, Nat.reduceSub, Nat.reduceBEq, Int.reduceLE, Int.reduceLT, Int.reduceNeg, Int.reduceToNat, Int.reduceEq, Int.reduceBEq, Int.reduceBNe, Nat.reduceBNe, bne_self_eq_false, reduceCtorEq] | (rewrite [if_pos]; rotate_left; focus (first | omega | (simp only [LN]; omega) | (refine ⟨?_, ?_⟩ <;> (simp only [LN] <;> omega)))) | (rewrite [if_neg]; rotate_left; focus (first | omega | (simp only [LN]; omega) | (refine ⟨?_, ?_⟩ <;> (simp only [LN] <;> omega)))))); with_reducible rfl)) ?_
      by_cases h1 : 0 < l
      · have e : spL l false = (l - 1, false, true) := by simp [spL, h0', h1]
        rw [e]
        have hw : IntKind.i64.wrap (l - 1) = l - 1 := wrap_i64 (by omega) (by omega)
        refine AWP.condT (by simp only [W, eqq, ↓reduceIte, Nat.reduceEqDiff, Nat.reduceLT, Nat.reduceLeDiff, Nat.reduceAdd, Nat.reduceMul, Nat.reduceSub, Nat.reduceBEq, Int.reduceLE, Int.reduceLT, Int.reduceNeg, Int.reduceToNat, Int.reduceEq, Int.reduceBEq, Int.reduceBNe, Nat.reduceBNe, bne_self_eq_false, reduceCtorEq, h1, gt_iff_lt]) ?_
        refine AWP.greg X_ok cl26 [0, 2, 7, 14, 19] (by ((repeat (first | simp only [W, eqq, ↓reduceIte, Nat.reduceEqDiff, Nat.reduceLT, Nat.reduceLeDiff, Nat.reduceAdd, Nat.reduceMul, Nat.reduceSub, Nat.reduceBEq, Int.reduceLE, Int.reduceLT, Int.reduceNeg, Int.reduceToNat, Int.reduceEq, Int.reduceBEq, Int.reduceBNe, Nat.reduceBNe, bne_self_eq_false, reduceCtorEq, hw] | (rewrite [if_pos]; rotate_left; focus (first | omega | (simp only [LN, hw]; omega) | (refine ⟨?_, ?_⟩ <;> (simp only [LN, hw] <;> omega)))) | (rewrite [if_neg]; rotate_left; focus (first | omega | (simp only [LN, hw]; omega) | (refine ⟨?_, ?_⟩ <;> (simp only [LN, hw] <;> omega)))))); with_reducible rfl)) ?_
        show AWP _ _ _ _ _ _
        refine AWP.gseq X_ok cl26 [0, 2, 7, 14, 19] (by ((repeat (first | simp only [W, eqq, ↓reduceIte, Nat.reduceEqDiff, Nat.reduceLT, Nat.reduceLeDiff, Nat.reduceAdd, Nat.reduceMul, Nat.reduceSub, Nat.reduceBEq, Int.reduceLE, Int.reduceLT, Int.reduceNeg, Int.reduceToNat, Int.reduceEq, Int.reduceBEq, Int.reduceBNe, Nat.reduceBNe, bne_self_eq_false, reduceCtorEq] | (rewrite [if_pos]; rotate_left; focus (first | omega | (simp only [LN]; omega) | (refine ⟨?_, ?_⟩ <;> (simp only [LN] <;> omega)))) | (rewrite [if_neg]; rotate_left; focus (first | omega | (simp only [LN]; omega) | (refine ⟨?_, ?_⟩ <;> (simp only [LN] <;> omega)))))); with_reducible rfl)) ?_
        exact AWP.ret ⟨.inr rfl, [], [0, 1, 2, 3], (show okIds 4 [0, 1, 2, 3] by decide), rfl, rfl⟩
      · have e : spL l false = (l, false, true) := by simp [spL, h0', h1]
        rw [e]
        refine AWP.condF (by simp only [W, eqq, ↓reduceIte, Nat.reduceEqDiff, Nat.reduceLT, Nat.reduceLeDiff, Nat.reduceAdd, Nat.reduceMul, Nat.reduceSub, Nat.reduceBEq, Int.reduceLE, Int.reduceLT, Int.reduceNeg, Int.reduceToNat, Int.reduceEq, Int.reduceBEq, Int.reduceBNe, Nat.reduceBNe, bne_self_eq_false, reduceCtorEq, h1, gt_iff_lt]) (AWP.skip ?_)
        show AWP _ _ _ _ _ _
        refine AWP.gseq X_ok cl26 [0, 2, 7, 14, 19] (by ((repeat (first | simp only [W, eqq, ↓reduceIte, Nat.reduceEqDiff, Nat.reduceLT, Nat.reduceLeDiff, Nat.reduceAdd, Nat.reduceMul, Nat.reduceSub, Nat.reduceBEq, Int.reduceLE, Int.reduceLT, Int.reduceNeg, Int.reduceToNat, Int.reduceEq, Int.reduceBEq, Int.reduceBNe, Nat.reduceBNe, bne_self_eq_false, reduceCtorEq] | (rewrite [if_pos]; rotate_left; focus (first | omega | (simp only [LN]; omega) | (refine ⟨?_, ?_⟩ <;> (simp only [LN] <;> omega)))) | (rewrite [if_neg]; rotate_left; focus (first | omega | (simp only [LN]; omega) | (refine ⟨?_, ?_⟩ <;> (simp only [LN] <;> omega)))))); with_reducible rfl)) ?_
        exact AWP.ret ⟨.inr rfl, [], [0, 1, 2, 3], (show okIds 4 [0, 1, 2, 3] by decide), rfl, rfl⟩

def G25 : GFun
  | [], [.t .nilp, .t (.int .i64 i)] => some ([], .t (.bool false))
  | [.bx (.st [.own 1, .own 2, .own 3, .t (.int .i64 l), .t (.bool off)]), .sq 128 s, .sq 128 n, .sq 129 p], [.ptr 0 0 [], .t (.int .i64 i)] => some ([dk 1 2 3 l off, .sq 128 s, .sq 128 n, .sq 129 p], .t (.bool (decide (0 ≤ i) && decide (i < s.length))))
  | _, _ => none

theorem cl25 : GClOk Try.prog [] := GClOk.nil _

theorem g25 : GCon Try.prog 25 G25 := by
  refine gcon (E := E) (rs := [(4, 4)]) Try.func25 rfl Try.ntmps25 (by kernel_rfl) rfl (by decide) G25 (np := 2) ?_ ?_
  · intro HB xs h; unfold G25; split <;> first | rfl | (simp at h; done)
  intro HB xs H r hG hwf hex
  unfold G25 at hG
  split at hG <;> try (cases hG; done)
  · cases hG
    refine AWP.gseq X_ok cl25 [0, 1, 4] (by ((repeat (first | simp only [W, eqq, ↓reduceIte, Nat.reduceEqDiff, Nat.reduceLT, Nat.reduceLeDiff, Nat.reduceAdd, Nat.reduceMul, Nat.reduceSub, Nat.reduceBEq, Int.reduceLE, Int.reduceLT, Int.reduceNeg, Int.reduceToNat, Int.reduceEq, Int.reduceBEq, Int.reduceBNe, Nat.reduceBNe, bne_self_eq_false, reduceCtorEq, gentry] | (rewrite [if_pos]; rotate_left; focus (first | omega | (simp only [LN, gentry]; omega) | (refine ⟨?_, ?_⟩ <;> (simp only [LN, gentry] <;> omega)))) | (rewrite [if_neg]; rotate_left; focus (first | omega | (simp only [LN, gentry]; omega) | (refine ⟨?_, ?_⟩ <;> (simp only [LN, gentry] <;> omega)))))); with_reducible rfl)) ?_
    refine AWP.gseq X_ok cl25 [0, 1, 4] (by ((repeat (first | simp only [W, eqq, ↓reduceIte, Nat.reduceEqDiff, Nat.reduceLT, Nat.reduceLeDiff, Nat.reduceAdd, Nat.reduceMul, Nat.reduceSub, Nat.reduceBEq, Int.reduceLE, Int.reduceLT, Int.reduceNeg, Int.reduceToNat, Int.reduceEq, Int.reduceBEq, Int.reduceBNe, Nat.reduceBNe, bne_self_eq_false, reduceCtorEq] | (rewrite [if_pos]; rotate_left; focus (first | omega | (simp only [LN]; omega) | (refine ⟨?_, ?_⟩ <;> (simp only [LN] <;> omega)))) | (rewrite [if_neg]; rotate_left; focus (first | omega | (simp only [LN]; omega) | (refine ⟨?_, ?_⟩ <;> (simp only [LN] <;> omega)))))); with_reducible rfl)) ?_
    exact AWP.ret ⟨.inr rfl, [], [], (show okIds 0 [] by decide), rfl, rfl⟩
  · rename_i l off s n p i
    cases hG
    refine AWP.gseq X_ok cl25 [0, 1, 4] (by ((repeat (first | simp only [W, eqq, ↓reduceIte, Nat.reduceEqDiff, Nat.reduceLT, Nat.reduceLeDiff, Nat.reduceAdd, Nat.reduceMul, Nat.reduceSub, Nat.reduceBEq, Int.reduceLE, Int.reduceLT, Int.reduceNeg, Int.reduceToNat, Int.reduceEq, Int.reduceBEq, Int.reduceBNe, Nat.reduceBNe, bne_self_eq_false, reduceCtorEq, gentry] | (rewrite [if_pos]; rotate_left; focus (first | omega | (simp only [LN, gentry]; omega) | (refine ⟨?_, ?_⟩ <;> (simp only [LN, gentry] <;> omega)))) | (rewrite [if_neg]; rotate_left; focus (first | omega | (simp only [LN, gentry]; omega) | (refine ⟨?_, ?_⟩ <;> (simp only [LN, gentry] <;> omega)))))); with_reducible rfl)) ?_
    by_cases h0 : 0 ≤ i
    · refine AWP.gseq X_ok cl25 [0, 1, 4] (by ((repeat (first | simp only [W, eqq, ↓reduceIte, Nat.reduceEqDiff, Nat.reduceLT, Nat.reduceLeDiff, Nat.reduceAdd, Nat.reduceMul, Nat.reduceSub, Nat.reduceBEq, Int.reduceLE, Int.reduceLT, Int.reduceNeg, Int.reduceToNat, Int.reduceEq, Int.reduceBEq, Int.reduceBNe, Nat.reduceBNe, bne_self_eq_false, reduceCtorEq, h0, ge_iff_le] | (rewrite [if_pos]; rotate_left; focus (first | omega | (simp only [LN, h0, ge_iff_le]; omega) | (refine ⟨?_, ?_⟩ <;> (simp only [LN, h0, ge_iff_le] <;> omega)))) | (rewrite [if_neg]; rotate_left; focus (first | omega | (simp only [LN, h0, ge_iff_le]; omega) | (refine ⟨?_, ?_⟩ <;> (simp only [LN, h0, ge_iff_le] <;> omega)))))); with_reducible rfl)) ?_
      exact AWP.ret ⟨.inr rfl, [], [0, 1, 2, 3], (show okIds 4 [0, 1, 2, 3] by decide), rfl, (by (try simp only [h0, decide_true, decide_false, Bool.true_and, Bool.false_and, Bool.and_true, Bool.and_false, if_true, if_false, ↓reduceIte]); rfl)⟩
    · refine AWP.gseq X_ok cl25 [0, 1, 4] (by ((repeat (first | simp only [W, eqq, ↓reduceIte, Nat.reduceEqDiff, Nat.reduceLT, Nat.reduceLeDiff, Nat.reduceAdd, Nat.reduceMul, Nat.reduceSub, Nat.reduceBEq, Int.reduceLE, Int.reduceLT, Int.reduceNeg, Int.reduceToNat, Int.reduceEq, Int.reduceBEq, Int.reduceBNe, Nat.reduceBNe, bne_self_eq_false, reduceCtorEq, h0, ge_iff_le] | (rewrite [if_pos]; rotate_left; focus (first | omega | (simp only [LN, h0, ge_iff_le]; omega) | (refine ⟨?_, ?_⟩ <;> (simp only [LN, h0, ge_iff_le] <;> omega)))) | (rewrite [if_neg]; rotate_left; focus (first | omega | (simp only [LN, h0, ge_iff_le]; omega) | (refine ⟨?_, ?_⟩ <;> (simp only [LN, h0, ge_iff_le] <;> omega)))))); with_reducible rfl)) ?_
      exact AWP.ret ⟨.inr rfl, [], [0, 1, 2, 3], (show okIds 4 [0, 1, 2, 3] by decide), rfl, (by (try simp only [h0, decide_true, decide_false, Bool.true_and, Bool.false_and, Bool.and_true, Bool.and_false, if_true, if_false, ↓reduceIte]); rfl)⟩

end Go.Fw

end

section
/- Chapter 27: a new disk, its fuse, how many. -/
namespace Go.Fw
open Go Go.Proofs
set_option linter.unusedVariables false
set_option linter.unusedSimpArgs false

def F9 : Fun
  | [.int .i64 k] => if k < 1 ∨ 8192 < k then some ([], .tup [.t .nilp, .t (.int .i64 1)])
    else some ([dk 1 2 3 (-1) false, .sq 128 (List.replicate k.toNat (.ba 128 (zby 128))), .sq 128 (List.replicate k.toNat (.ba 128 (zby 128))), .sq 129 []], .tup [.ptr 0 0 [], .t (.int .i64 0)])
  | _ => none

theorem cl9 : GClOk Try.prog [] := GClOk.nil _

theorem c9 : ACon Try.prog 9 F9 := by
  refine acon (E := E) (rs := [(2, 24), (3, 25)]) Try.func9 rfl Try.ntmps9 (by kernel_rfl) rfl (by decide) F9 (np := 1) ?_ ?_
  · intro ts h; unfold F9; split <;> first | rfl | (simp at h; done)
  intro ts H r hF hwf
  unfold F9 at hF
  split at hF <;> try (cases hF; done)
  rename_i k
  refine AWP.gseq X_ok cl9 [0, 2, 3, 9] (by ((repeat (first | simp only [W, eqq, ↓reduceIte, Nat.reduceEqDiff, Nat.reduceLT, Nat.reduceLeDiff, Nat.reduceAdd, Nat.reduceMul, Nat.reduceSub, Nat.reduceBEq, Int.reduceLE, Int.reduceLT, Int.reduceNeg, Int.reduceToNat, Int.reduceEq, Int.reduceBEq, Int.reduceBNe, Nat.reduceBNe, bne_self_eq_false, reduceCtorEq] | (rewrite [if_pos]; rotate_left; focus (first | omega | (simp only [LN]; omega) | (refine ⟨?_, ?_⟩ <;> (simp only [LN] <;> omega)))) | (rewrite [if_neg]; rotate_left; focus (first | omega | (simp only [LN]; omega) | (refine ⟨?_, ?_⟩ <;> (simp only [LN] <;> omega)))))); with_reducible rfl)) ?_
  refine AWP.seq ?_
  by_cases h1 : k < 1
  · rw [if_pos (Or.inl h1)] at hF
    cases hF
    refine AWP.gseq X_ok cl9 [0, 2, 3, 9] (by ((repeat (first | simp only [W, eqq, ↓reduceIte, Nat.reduceEqDiff, Nat.reduceLT, Nat.reduceLeDiff, Nat.reduceAdd, Nat.reduceMul, Nat.reduceSub, Nat.reduceBEq, Int.reduceLE, Int.reduceLT, Int.reduceNeg, Int.reduceToNat, Int.reduceEq, Int.reduceBEq, Int.reduceBNe, Nat.reduceBNe, bne_self_eq_false, reduceCtorEq, h1] | (rewrite [if_pos]; rotate_left; focus (first | omega | (simp only [LN, h1]; omega) | (refine ⟨?_, ?_⟩ <;> (simp only [LN, h1] <;> omega)))) | (rewrite [if_neg]; rotate_left; focus (first | omega | (simp only [LN, h1]; omega) | (refine ⟨?_, ?_⟩ <;> (simp only [LN, h1] <;> omega)))))); with_reducible rfl)) ?_
    refine AWP.condT (by simp only [W, eqq, ↓reduceIte, Nat.reduceEqDiff, Nat.reduceLT, Nat.reduceLeDiff, Nat.reduceAdd, Nat.reduceMul, Nat.reduceSub, Nat.reduceBEq, Int.reduceLE, Int.reduceLT, Int.reduceNeg, Int.reduceToNat, Int.reduceEq, Int.reduceBEq, Int.reduceBNe, Nat.reduceBNe, bne_self_eq_false, reduceCtorEq]) ?_
    refine AWP.gseq X_ok cl9 [0, 2, 3, 9] (by ((repeat (first | simp only [W, eqq, ↓reduceIte, Nat.reduceEqDiff, Nat.reduceLT, Nat.reduceLeDiff, Nat.reduceAdd, Nat.reduceMul, Nat.reduceSub, Nat.reduceBEq, Int.reduceLE, Int.reduceLT, Int.reduceNeg, Int.reduceToNat, Int.reduceEq, Int.reduceBEq, Int.reduceBNe, Nat.reduceBNe, bne_self_eq_false, reduceCtorEq] | (rewrite [if_pos]; rotate_left; focus (first | omega | (simp only [LN]; omega) | (refine ⟨?_, ?_⟩ <;> (simp only [LN] <;> omega)))) | (rewrite [if_neg]; rotate_left; focus (first | omega | (simp only [LN]; omega) | (refine ⟨?_, ?_⟩ <;> (simp only [LN] <;> omega)))))); with_reducible rfl)) ?_
    exact AWP.ret ⟨.inr rfl, [], [], by decide, rfl, rfl⟩
  · by_cases h2 : 8192 < k
    · rw [if_pos (Or.inr h2)] at hF
      cases hF
      refine AWP.gseq X_ok cl9 [0, 2, 3, 9] (by ((repeat (first | simp only [W, eqq, ↓reduceIte, Nat.reduceEqDiff, Nat.reduceLT, Nat.reduceLeDiff, Nat.reduceAdd, Nat.reduceMul, Nat.reduceSub, Nat.reduceBEq, Int.reduceLE, Int.reduceLT, Int.reduceNeg, Int.reduceToNat, Int.reduceEq, Int.reduceBEq, Int.reduceBNe, Nat.reduceBNe, bne_self_eq_false, reduceCtorEq, h1, h2, gt_iff_lt] | (rewrite [if_pos]; rotate_left; focus (first | omega | (simp only [LN, h1, h2, gt_iff_lt]; omega) | (refine ⟨?_, ?_⟩ <;> (simp only [LN, h1, h2, gt_iff_lt] <;> omega)))) | (rewrite [if_neg]; rotate_left; focus (first | omega | (simp only [LN, h1, h2, gt_iff_lt]; omega) | (refine ⟨?_, ?_⟩ <;> (simp only [LN, h1, h2, gt_iff_lt] <;> omega)))))); with_reducible rfl)) ?_
      refine AWP.condT (by simp only [W, eqq, ↓reduceIte, Nat.reduceEqDiff, Nat.reduceLT, Nat.reduceLeDiff, Nat.reduceAdd, Nat.reduceMul, Nat.reduceSub, Nat.reduceBEq, Int.reduceLE, Int.reduceLT, Int.reduceNeg, Int.reduceToNat, Int.reduceEq, Int.reduceBEq, Int.reduceBNe, Nat.reduceBNe, bne_self_eq_false, reduceCtorEq]) ?_
      refine AWP.gseq X_ok cl9 [0, 2, 3, 9] (by ((repeat (first | simp only [W, eqq, ↓reduceIte, Nat.reduceEqDiff, Nat.reduceLT, Nat.reduceLeDiff, Nat.reduceAdd, Nat.reduceMul, Nat.reduceSub, Nat.reduceBEq, Int.reduceLE, Int.reduceLT, Int.reduceNeg, Int.reduceToNat, Int.reduceEq, Int.reduceBEq, Int.reduceBNe, Nat.reduceBNe, bne_self_eq_false, reduceCtorEq] | (rewrite [if_pos]; rotate_left; focus (first | omega | (simp only [LN]; omega) | (refine ⟨?_, ?_⟩ <;> (simp only [LN] <;> omega)))) | (rewrite [if_neg]; rotate_left; focus (first | omega | (simp only [LN]; omega) | (refine ⟨?_, ?_⟩ <;> (simp only [LN] <;> omega)))))); with_reducible rfl)) ?_
      exact AWP.ret ⟨.inr rfl, [], [], by decide, rfl, rfl⟩
    · rw [if_neg (by omega)] at hF
      cases hF
      refine AWP.gseq X_ok cl9 [0, 2, 3, 9] (by ((repeat (first | simp only [W, eqq, ↓reduceIte, Nat.reduceEqDiff, Nat.reduceLT, Nat.reduceLeDiff, Nat.reduceAdd, Nat.reduceMul, Nat.reduceSub, Nat.reduceBEq, Int.reduceLE, Int.reduceLT, Int.reduceNeg, Int.reduceToNat, Int.reduceEq, Int.reduceBEq, Int.reduceBNe, Nat.reduceBNe, bne_self_eq_false, reduceCtorEq, h1, h2, gt_iff_lt] | (rewrite [if_pos]; rotate_left; focus (first | omega | (simp only [LN, h1, h2, gt_iff_lt]; omega) | (refine ⟨?_, ?_⟩ <;> (simp only [LN, h1, h2, gt_iff_lt] <;> omega)))) | (rewrite [if_neg]; rotate_left; focus (first | omega | (simp only [LN, h1, h2, gt_iff_lt]; omega) | (refine ⟨?_, ?_⟩ <;> (simp only [LN, h1, h2, gt_iff_lt] <;> omega)))))); with_reducible rfl)) ?_
      refine AWP.condF (by simp only [W, eqq, ↓reduceIte, Nat.reduceEqDiff, Nat.reduceLT, Nat.reduceLeDiff, Nat.reduceAdd, Nat.reduceMul, Nat.reduceSub, Nat.reduceBEq, Int.reduceLE, Int.reduceLT, Int.reduceNeg, Int.reduceToNat, Int.reduceEq, Int.reduceBEq, Int.reduceBNe, Nat.reduceBNe, bne_self_eq_false, reduceCtorEq]) (AWP.skip ?_)
      show AWP _ _ _ _ _ _
      refine AWP.gseqD X_ok cl9 [0, 2, 3, 9] mix [⟨0, [0], []⟩, ⟨1, [10], []⟩, ⟨0, [0], []⟩, ⟨1, [12], []⟩, ⟨1, [11, 13], [1, 3]⟩, ⟨1, [14], [1, 3, 4]⟩, ⟨0, [15], [1, 3, 4, 5]⟩, ⟨0, [], [1, 3, 4, 5]⟩] (by kernel_rfl) (by ((repeat (first | simp only [W, eqq, ↓reduceIte, Nat.reduceEqDiff, Nat.reduceLT, Nat.reduceLeDiff, Nat.reduceAdd, Nat.reduceMul, Nat.reduceSub, Nat.reduceBEq, Int.reduceLE, Int.reduceLT, Int.reduceNeg, Int.reduceToNat, Int.reduceEq, Int.reduceBEq, Int.reduceBNe, Nat.reduceBNe, bne_self_eq_false, reduceCtorEq] | (rewrite [if_pos]; rotate_left; focus (first | omega | (simp only [LN]; omega) | (refine ⟨?_, ?_⟩ <;> (simp only [LN] <;> omega)))) | (rewrite [if_neg]; rotate_left; focus (first | omega | (simp only [LN]; omega) | (refine ⟨?_, ?_⟩ <;> (simp only [LN] <;> omega)))))); with_reducible rfl)) ?_
      refine AWP.weak (Weak.ownBx (v' := _) 2 [2] 2 (.sq 129 []) rfl (by simp only [W, eqq, ↓reduceIte, Nat.reduceEqDiff, Nat.reduceLT, Nat.reduceLeDiff, Nat.reduceAdd, Nat.reduceMul, Nat.reduceSub, Nat.reduceBEq, Int.reduceLE, Int.reduceLT, Int.reduceNeg, Int.reduceToNat, Int.reduceEq, Int.reduceBEq, Int.reduceBNe, Nat.reduceBNe, bne_self_eq_false, reduceCtorEq]) (by simp only [W, eqq, ↓reduceIte, Nat.reduceEqDiff, Nat.reduceLT, Nat.reduceLeDiff, Nat.reduceAdd, Nat.reduceMul, Nat.reduceSub, Nat.reduceBEq, Int.reduceLE, Int.reduceLT, Int.reduceNeg, Int.reduceToNat, Int.reduceEq, Int.reduceBEq, Int.reduceBNe, Nat.reduceBNe, bne_self_eq_false, reduceCtorEq]) (by simp only [W, eqq, ↓reduceIte, Nat.reduceEqDiff, Nat.reduceLT, Nat.reduceLeDiff, Nat.reduceAdd, Nat.reduceMul, Nat.reduceSub, Nat.reduceBEq, Int.reduceLE, Int.reduceLT, Int.reduceNeg, Int.reduceToNat, Int.reduceEq, Int.reduceBEq, Int.reduceBNe, Nat.reduceBNe, bne_self_eq_false, reduceCtorEq]; rfl) (.inr ⟨_, by decide, rfl⟩)) ?_
      exact AWP.ret ⟨.inr rfl, [], [2, 0, 1, 3], by decide, rfl, rfl⟩

def G17 : GFun
  | [], [.t .nilp, .t (.int .i64 k)] => some ([], .tup [])
  | [.bx (.st [.own 1, .own 2, .own 3, .t (.int .i64 l), .t (.bool off)]), .sq 128 s, .sq 128 n, .sq 129 p], [.ptr 0 0 [], .t (.int .i64 k)] =>
    some ([dk 1 2 3 (if off = true then l else if 0 > k then 0 else k) off, .sq 128 s, .sq 128 n, .sq 129 p], .tup [])
  | _, _ => none

theorem cl17 : GClOk Try.prog [] := GClOk.nil _

theorem g17 : GCon Try.prog 17 G17 := by
  refine gcon (E := E) (rs := []) Try.func17 rfl Try.ntmps17 (by kernel_rfl) rfl (by decide) G17 (np := 2) ?_ ?_
  · intro HB xs h; unfold G17; split <;> first | rfl | (simp at h; done)
  intro HB xs H r hG hwf hex
  unfold G17 at hG
  split at hG <;> try (cases hG; done)
  · cases hG
    refine AWP.gseq X_ok cl17 [0, 1, 12] (by ((repeat (first | simp only [W, eqq, ↓reduceIte, Nat.reduceEqDiff, Nat.reduceLT, Nat.reduceLeDiff, Nat.reduceAdd, Nat.reduceMul, Nat.reduceSub, Nat.reduceBEq, Int.reduceLE, Int.reduceLT, Int.reduceNeg, Int.reduceToNat, Int.reduceEq, Int.reduceBEq, Int.reduceBNe, Nat.reduceBNe, bne_self_eq_false, reduceCtorEq, gentry] | (rewrite [if_pos]; rotate_left; focus (first | omega | (simp only [LN, gentry]; omega) | (refine ⟨?_, ?_⟩ <;> (simp only [LN, gentry] <;> omega)))) | (rewrite [if_neg]; rotate_left; focus (first | omega | (simp only [LN, gentry]; omega) | (refine ⟨?_, ?_⟩ <;> (simp only [LN, gentry] <;> omega)))))); with_reducible rfl)) ?_
    refine AWP.condF (by simp only [W, eqq, ↓reduceIte, Nat.reduceEqDiff, Nat.reduceLT, Nat.reduceLeDiff, Nat.reduceAdd, Nat.reduceMul, Nat.reduceSub, Nat.reduceBEq, Int.reduceLE, Int.reduceLT, Int.reduceNeg, Int.reduceToNat, Int.reduceEq, Int.reduceBEq, Int.reduceBNe, Nat.reduceBNe, bne_self_eq_false, reduceCtorEq]) (AWP.skip ?_)
    exact ⟨.inl rfl, [], [], (show okIds 0 [] by decide), rfl, rfl⟩
  · rename_i l off s n p k
    cases hG
    cases off
    · refine AWP.gseq X_ok cl17 [0, 1, 12] (by ((repeat (first | simp only [W, eqq, ↓reduceIte, Nat.reduceEqDiff, Nat.reduceLT, Nat.reduceLeDiff, Nat.reduceAdd, Nat.reduceMul, Nat.reduceSub, Nat.reduceBEq, Int.reduceLE, Int.reduceLT, Int.reduceNeg, Int.reduceToNat, Int.reduceEq, Int.reduceBEq, Int.reduceBNe, Nat.reduceBNe, bne_self_eq_false, reduceCtorEq, gentry] | (rewrite [if_pos]; rotate_left; focus (first | omega | (simp only [LN, gentry]; omega) | (refine ⟨?_, ?_⟩ <;> (simp only [LN, gentry] <;> omega)))) | (rewrite [if_neg]; rotate_left; focus (first | omega | (simp only [LN, gentry]; omega) | (refine ⟨?_, ?_⟩ <;> (simp only [LN, gentry] <;> omega)))))); with_reducible rfl)) ?_
      refine AWP.condT (by simp only [W, eqq, ↓reduceIte, Nat.reduceEqDiff, Nat.reduceLT, Nat.reduceLeDiff, Nat.reduceAdd, Nat.reduceMul, Nat.reduceSub, Nat.reduceBEq, Int.reduceLE, Int.reduceLT, Int.reduceNeg, Int.reduceToNat, Int.reduceEq, Int.reduceBEq, Int.reduceBNe, Nat.reduceBNe, bne_self_eq_false, reduceCtorEq]) ?_
      refine AWP.greg X_ok cl17 [0, 1, 12] (by ((repeat (first | simp only [W, eqq, ↓reduceIte, Nat.reduceEqDiff, Nat.reduceLT, Nat.reduceLeDiff, Nat.reduceAdd, Nat.reduceMul, Nat.reduceSub, Nat.reduceBEq, Int.reduceLE, Int.reduceLT, Int.reduceNeg, Int.reduceToNat, Int.reduceEq, Int.reduceBEq, Int.reduceBNe, Nat.reduceBNe, bne_self_eq_false, reduceCtorEq] | (rewrite [if_pos]; rotate_left; focus (first | omega | (simp only [LN]; omega) | (refine ⟨?_, ?_⟩ <;> (simp only [LN] <;> omega)))) | (rewrite [if_neg]; rotate_left; focus (first | omega | (simp only [LN]; omega) | (refine ⟨?_, ?_⟩ <;> (simp only [LN] <;> omega)))))); with_reducible rfl)) ?_
      exact ⟨.inl rfl, [], [0, 1, 2, 3], (show okIds 4 [0, 1, 2, 3] by decide), (by (try simp only [decide_true, decide_false, Bool.true_and, Bool.false_and, Bool.and_true, Bool.and_false, if_true, if_false, ↓reduceIte]); rfl), rfl⟩
    · refine AWP.gseq X_ok cl17 [0, 1, 12] (by ((repeat (first | simp only [W, eqq, ↓reduceIte, Nat.reduceEqDiff, Nat.reduceLT, Nat.reduceLeDiff, Nat.reduceAdd, Nat.reduceMul, Nat.reduceSub, Nat.reduceBEq, Int.reduceLE, Int.reduceLT, Int.reduceNeg, Int.reduceToNat, Int.reduceEq, Int.reduceBEq, Int.reduceBNe, Nat.reduceBNe, bne_self_eq_false, reduceCtorEq, gentry] | (rewrite [if_pos]; rotate_left; focus (first | omega | (simp only [LN, gentry]; omega) | (refine ⟨?_, ?_⟩ <;> (simp only [LN, gentry] <;> omega)))) | (rewrite [if_neg]; rotate_left; focus (first | omega | (simp only [LN, gentry]; omega) | (refine ⟨?_, ?_⟩ <;> (simp only [LN, gentry] <;> omega)))))); with_reducible rfl)) ?_
      refine AWP.condF (by simp only [W, eqq, ↓reduceIte, Nat.reduceEqDiff, Nat.reduceLT, Nat.reduceLeDiff, Nat.reduceAdd, Nat.reduceMul, Nat.reduceSub, Nat.reduceBEq, Int.reduceLE, Int.reduceLT, Int.reduceNeg, Int.reduceToNat, Int.reduceEq, Int.reduceBEq, Int.reduceBNe, Nat.reduceBNe, bne_self_eq_false, reduceCtorEq]) (AWP.skip ?_)
      exact ⟨.inl rfl, [], [0, 1, 2, 3], (show okIds 4 [0, 1, 2, 3] by decide), (by (try simp only [decide_true, decide_false, Bool.true_and, Bool.false_and, Bool.and_true, Bool.and_false, if_true, if_false, ↓reduceIte]); rfl), rfl⟩

def G18 : GFun
  | [], [.t .nilp] => some ([], .t (.int .i64 0))
  | [.bx (.st [.own 1, .own 2, .own 3, .t (.int .i64 l), .t (.bool off)]), .sq 128 s, .sq 128 n, .sq 129 p], [.ptr 0 0 []] => some ([dk 1 2 3 l off, .sq 128 s, .sq 128 n, .sq 129 p], .t (.int .i64 p.length))
  | _, _ => none

theorem cl18 : GClOk Try.prog [] := GClOk.nil _

theorem g18 : GCon Try.prog 18 G18 := by
  refine gcon (E := E) (rs := [(2, 3)]) Try.func18 rfl Try.ntmps18 (by kernel_rfl) rfl (by decide) G18 (np := 1) ?_ ?_
  · intro HB xs h; unfold G18; split <;> first | rfl | (simp at h; done)
  intro HB xs H r hG hwf hex
  unfold G18 at hG
  split at hG <;> try (cases hG; done)
  · cases hG
    refine AWP.gseq X_ok cl18 [0, 2, 4] (by ((repeat (first | simp only [W, eqq, ↓reduceIte, Nat.reduceEqDiff, Nat.reduceLT, Nat.reduceLeDiff, Nat.reduceAdd, Nat.reduceMul, Nat.reduceSub, Nat.reduceBEq, Int.reduceLE, Int.reduceLT, Int.reduceNeg, Int.reduceToNat, Int.reduceEq, Int.reduceBEq, Int.reduceBNe, Nat.reduceBNe, bne_self_eq_false, reduceCtorEq, gentry] | (rewrite [if_pos]; rotate_left; focus (first | omega | (simp only [LN, gentry]; omega) | (refine ⟨?_, ?_⟩ <;> (simp only [LN, gentry] <;> omega)))) | (rewrite [if_neg]; rotate_left; focus (first | omega | (simp only [LN, gentry]; omega) | (refine ⟨?_, ?_⟩ <;> (simp only [LN, gentry] <;> omega)))))); with_reducible rfl)) ?_
    refine AWP.seq ?_
    refine AWP.gseq X_ok cl18 [0, 2, 4] (by ((repeat (first | simp only [W, eqq, ↓reduceIte, Nat.reduceEqDiff, Nat.reduceLT, Nat.reduceLeDiff, Nat.reduceAdd, Nat.reduceMul, Nat.reduceSub, Nat.reduceBEq, Int.reduceLE, Int.reduceLT, Int.reduceNeg, Int.reduceToNat, Int.reduceEq, Int.reduceBEq, Int.reduceBNe, Nat.reduceBNe, bne_self_eq_false, reduceCtorEq] | (rewrite [if_pos]; rotate_left; focus (first | omega | (simp only [LN]; omega) | (refine ⟨?_, ?_⟩ <;> (simp only [LN] <;> omega)))) | (rewrite [if_neg]; rotate_left; focus (first | omega | (simp only [LN]; omega) | (refine ⟨?_, ?_⟩ <;> (simp only [LN] <;> omega)))))); with_reducible rfl)) ?_
    refine AWP.condT (by simp only [W, eqq, ↓reduceIte, Nat.reduceEqDiff, Nat.reduceLT, Nat.reduceLeDiff, Nat.reduceAdd, Nat.reduceMul, Nat.reduceSub, Nat.reduceBEq, Int.reduceLE, Int.reduceLT, Int.reduceNeg, Int.reduceToNat, Int.reduceEq, Int.reduceBEq, Int.reduceBNe, Nat.reduceBNe, bne_self_eq_false, reduceCtorEq]) ?_
    refine AWP.gseq X_ok cl18 [0, 2, 4] (by ((repeat (first | simp only [W, eqq, ↓reduceIte, Nat.reduceEqDiff, Nat.reduceLT, Nat.reduceLeDiff, Nat.reduceAdd, Nat.reduceMul, Nat.reduceSub, Nat.reduceBEq, Int.reduceLE, Int.reduceLT, Int.reduceNeg, Int.reduceToNat, Int.reduceEq, Int.reduceBEq, Int.reduceBNe, Nat.reduceBNe, bne_self_eq_false, reduceCtorEq] | (rewrite [if_pos]; rotate_left; focus (first | omega | (simp only [LN]; omega) | (refine ⟨?_, ?_⟩ <;> (simp only [LN] <;> omega)))) | (rewrite [if_neg]; rotate_left; focus (first | omega | (simp only [LN]; omega) | (refine ⟨?_, ?_⟩ <;> (simp only [LN] <;> omega)))))); with_reducible rfl)) ?_
    exact AWP.ret ⟨.inr rfl, [], [], (show okIds 0 [] by decide), rfl, rfl⟩
  · rename_i l off s n p
    cases hG
    refine AWP.gseq X_ok cl18 [0, 2, 4] (by ((repeat (first | simp only [W, eqq, ↓reduceIte, Nat.reduceEqDiff, Nat.reduceLT, Nat.reduceLeDiff, Nat.reduceAdd, Nat.reduceMul, Nat.reduceSub, Nat.reduceBEq, Int.reduceLE, Int.reduceLT, Int.reduceNeg, Int.reduceToNat, Int.reduceEq, Int.reduceBEq, Int.reduceBNe, Nat.reduceBNe, bne_self_eq_false, reduceCtorEq, gentry] | (rewrite [if_pos]; rotate_left; focus (first | omega | (simp only [LN, gentry]; omega) | (refine ⟨?_, ?_⟩ <;> (simp only [LN, gentry] <;> omega)))) | (rewrite [if_neg]; rotate_left; focus (first | omega | (simp only [LN, gentry]; omega) | (refine ⟨?_, ?_⟩ <;> (simp only [LN, gentry] <;> omega)))))); with_reducible rfl)) ?_
    refine AWP.seq ?_
    refine AWP.gseq X_ok cl18 [0, 2, 4] (by ((repeat (first | simp only [W, eqq, ↓reduceIte, Nat.reduceEqDiff, Nat.reduceLT, Nat.reduceLeDiff, Nat.reduceAdd, Nat.reduceMul, Nat.reduceSub, Nat.reduceBEq, Int.reduceLE, Int.reduceLT, Int.reduceNeg, Int.reduceToNat, Int.reduceEq, Int.reduceBEq, Int.reduceBNe, Nat.reduceBNe, bne_self_eq_false, reduceCtorEq] | (rewrite [if_pos]; rotate_left; focus (first | omega | (simp only [LN]; omega) | (refine ⟨?_, ?_⟩ <;> (simp only [LN] <;> omega)))) | (rewrite [if_neg]; rotate_left; focus (first | omega | (simp only [LN]; omega) | (refine ⟨?_, ?_⟩ <;> (simp only [LN] <;> omega)))))); with_reducible rfl)) ?_
    refine AWP.condF (by simp only [W, eqq, ↓reduceIte, Nat.reduceEqDiff, Nat.reduceLT, Nat.reduceLeDiff, Nat.reduceAdd, Nat.reduceMul, Nat.reduceSub, Nat.reduceBEq, Int.reduceLE, Int.reduceLT, Int.reduceNeg, Int.reduceToNat, Int.reduceEq, Int.reduceBEq, Int.reduceBNe, Nat.reduceBNe, bne_self_eq_false, reduceCtorEq]) (AWP.skip ?_)
    show AWP _ _ _ _ _ _
    refine AWP.gseq X_ok cl18 [0, 2, 4] (by ((repeat (first | simp only [W, eqq, ↓reduceIte, Nat.reduceEqDiff, Nat.reduceLT, Nat.reduceLeDiff, Nat.reduceAdd, Nat.reduceMul, Nat.reduceSub, Nat.reduceBEq, Int.reduceLE, Int.reduceLT, Int.reduceNeg, Int.reduceToNat, Int.reduceEq, Int.reduceBEq, Int.reduceBNe, Nat.reduceBNe, bne_self_eq_false, reduceCtorEq] | (rewrite [if_pos]; rotate_left; focus (first | omega | (simp only [LN]; omega) | (refine ⟨?_, ?_⟩ <;> (simp only [LN] <;> omega)))) | (rewrite [if_neg]; rotate_left; focus (first | omega | (simp only [LN]; omega) | (refine ⟨?_, ?_⟩ <;> (simp only [LN] <;> omega)))))); with_reducible rfl)) ?_
    exact AWP.ret ⟨.inr rfl, [], [0, 1, 2, 3], (show okIds 4 [0, 1, 2, 3] by decide), rfl, rfl⟩

def G24 : GFun
  | [], [.t .nilp] => some ([], .t (.int .i64 0))
  | [.bx (.st [.own 1, .own 2, .own 3, .t (.int .i64 l), .t (.bool off)]), .sq 128 s, .sq 128 n, .sq 129 p], [.ptr 0 0 []] => some ([dk 1 2 3 l off, .sq 128 s, .sq 128 n, .sq 129 p], .t (.int .i64 s.length))
  | _, _ => none

theorem cl24 : GClOk Try.prog [] := GClOk.nil _

theorem g24 : GCon Try.prog 24 G24 := by
  refine gcon (E := E) (rs := [(2, 3)]) Try.func24 rfl Try.ntmps24 (by kernel_rfl) rfl (by decide) G24 (np := 1) ?_ ?_
  · intro HB xs h; unfold G24; split <;> first | rfl | (simp at h; done)
  intro HB xs H r hG hwf hex
  unfold G24 at hG
  split at hG <;> try (cases hG; done)
  · cases hG
    refine AWP.gseq X_ok cl24 [0, 2, 4] (by ((repeat (first | simp only [W, eqq, ↓reduceIte, Nat.reduceEqDiff, Nat.reduceLT, Nat.reduceLeDiff, Nat.reduceAdd, Nat.reduceMul, Nat.reduceSub, Nat.reduceBEq, Int.reduceLE, Int.reduceLT, Int.reduceNeg, Int.reduceToNat, Int.reduceEq, Int.reduceBEq, Int.reduceBNe, Nat.reduceBNe, bne_self_eq_false, reduceCtorEq, gentry] | (rewrite [if_pos]; rotate_left; focus (first | omega | (simp only [LN, gentry]; omega) | (refine ⟨?_, ?_⟩ <;> (simp only [LN, gentry] <;> omega)))) | (rewrite [if_neg]; rotate_left; focus (first | omega | (simp only [LN, gentry]; omega) | (refine ⟨?_, ?_⟩ <;> (simp only [LN, gentry] <;> omega)))))); with_reducible rfl)) ?_
    refine AWP.seq ?_
    refine AWP.gseq X_ok cl24 [0, 2, 4] (by ((repeat (first | simp only [W, eqq, ↓reduceIte, Nat.reduceEqDiff, Nat.reduceLT, Nat.reduceLeDiff, Nat.reduceAdd, Nat.reduceMul, Nat.reduceSub, Nat.reduceBEq, Int.reduceLE, Int.reduceLT, Int.reduceNeg, Int.reduceToNat, Int.reduceEq, Int.reduceBEq, Int.reduceBNe, Nat.reduceBNe, bne_self_eq_false, reduceCtorEq] | (rewrite [if_pos]; rotate_left; focus (first | omega | (simp only [LN]; omega) | (refine ⟨?_, ?_⟩ <;> (simp only [LN] <;> omega)))) | (rewrite [if_neg]; rotate_left; focus (first | omega | (simp only [LN]; omega) | (refine ⟨?_, ?_⟩ <;> (simp only [LN] <;> omega)))))); with_reducible rfl)) ?_
    refine AWP.condT (by simp only [W, eqq, ↓reduceIte, Nat.reduceEqDiff, Nat.reduceLT, Nat.reduceLeDiff, Nat.reduceAdd, Nat.reduceMul, Nat.reduceSub, Nat.reduceBEq, Int.reduceLE, Int.reduceLT, Int.reduceNeg, Int.reduceToNat, Int.reduceEq, Int.reduceBEq, Int.reduceBNe, Nat.reduceBNe, bne_self_eq_false, reduceCtorEq]) ?_
    refine AWP.gseq X_ok cl24 [0, 2, 4] (by ((repeat (first | simp only [W, eqq, ↓reduceIte, Nat.reduceEqDiff, Nat.reduceLT, Nat.reduceLeDiff, Nat.reduceAdd, Nat.reduceMul, Nat.reduceSub, Nat.reduceBEq, Int.reduceLE, Int.reduceLT, Int.reduceNeg, Int.reduceToNat, Int.reduceEq, Int.reduceBEq, Int.reduceBNe, Nat.reduceBNe, bne_self_eq_false, reduceCtorEq] | (rewrite [if_pos]; rotate_left; focus (first | omega | (simp only [LN]; omega) | (refine ⟨?_, ?_⟩ <;> (simp only [LN] <;> omega)))) | (rewrite [if_neg]; rotate_left; focus (first | omega | (simp only [LN]; omega) | (refine ⟨?_, ?_⟩ <;> (simp only [LN] <;> omega)))))); with_reducible rfl)) ?_
    exact AWP.ret ⟨.inr rfl, [], [], (show okIds 0 [] by decide), rfl, rfl⟩
  · rename_i l off s n p
    cases hG
    refine AWP.gseq X_ok cl24 [0, 2, 4] (by ((repeat (first | simp only [W, eqq, ↓reduceIte, Nat.reduceEqDiff, Nat.reduceLT, Nat.reduceLeDiff, Nat.reduceAdd, Nat.reduceMul, Nat.reduceSub, Nat.reduceBEq, Int.reduceLE, Int.reduceLT, Int.reduceNeg, Int.reduceToNat, Int.reduceEq, Int.reduceBEq, Int.reduceBNe, Nat.reduceBNe, bne_self_eq_false, reduceCtorEq, gentry] | (rewrite [if_pos]; rotate_left; focus (first | omega | (simp only [LN, gentry]; omega) | (refine ⟨?_, ?_⟩ <;> (simp only [LN, gentry] <;> omega)))) | (rewrite [if_neg]; rotate_left; focus (first | omega | (simp only [LN, gentry]; omega) | (refine ⟨?_, ?_⟩ <;> (simp only [LN, gentry] <;> omega)))))); with_reducible rfl)) ?_
    refine AWP.seq ?_
    refine AWP.gseq X_ok cl24 [0, 2, 4] (by ((repeat (first | simp only [W, eqq, ↓reduceIte, Nat.reduceEqDiff, Nat.reduceLT, Nat.reduceLeDiff, Nat.reduceAdd, Nat.reduceMul, Nat.reduceSub, Nat.reduceBEq, Int.reduceLE, Int.reduceLT, Int.reduceNeg, Int.reduceToNat, Int.reduceEq, Int.reduceBEq, Int.reduceBNe, Nat.reduceBNe, bne_self_eq_false, reduceCtorEq] | (rewrite [if_pos]; rotate_left; focus (first | omega | (simp only [LN]; omega) | (refine ⟨?_, ?_⟩ <;> (simp only [LN] <;> omega)))) | (rewrite [if_neg]; rotate_left; focus (first | omega | (simp only [LN]; omega) | (refine ⟨?_, ?_⟩ <;> (simp only [LN] <;> omega)))))); with_reducible rfl)) ?_
    refine AWP.condF (by simp only [W, eqq, ↓reduceIte, Nat.reduceEqDiff, Nat.reduceLT, Nat.reduceLeDiff, Nat.reduceAdd, Nat.reduceMul, Nat.reduceSub, Nat.reduceBEq, Int.reduceLE, Int.reduceLT, Int.reduceNeg, Int.reduceToNat, Int.reduceEq, Int.reduceBEq, Int.reduceBNe, Nat.reduceBNe, bne_self_eq_false, reduceCtorEq]) (AWP.skip ?_)
    show AWP _ _ _ _ _ _
    refine AWP.gseq X_ok cl24 [0, 2, 4] (by ((repeat (first | simp only [W, eqq, ↓reduceIte, Nat.reduceEqDiff, Nat.reduceLT, Nat.reduceLeDiff, Nat.reduceAdd, Nat.reduceMul, Nat.reduceSub, Nat.reduceBEq, Int.reduceLE, Int.reduceLT, Int.reduceNeg, Int.reduceToNat, Int.reduceEq, Int.reduceBEq, Int.reduceBNe, Nat.reduceBNe, bne_self_eq_false, reduceCtorEq] | (rewrite [if_pos]; rotate_left; focus (first | omega | (simp only [LN]; omega) | (refine ⟨?_, ?_⟩ <;> (simp only [LN] <;> omega)))) | (rewrite [if_neg]; rotate_left; focus (first | omega | (simp only [LN]; omega) | (refine ⟨?_, ?_⟩ <;> (simp only [LN] <;> omega)))))); with_reducible rfl)) ?_
    exact AWP.ret ⟨.inr rfl, [], [0, 1, 2, 3], (show okIds 4 [0, 1, 2, 3] by decide), rfl, rfl⟩

end Go.Fw

end

section
/- Chapter 27: a full sector. -/
namespace Go.Fw
open Go Go.Proofs
set_option linter.unusedVariables false
set_option linter.unusedSimpArgs false

/-- Bytes as a sector. -/
def fullB (b : List UInt8) : List UInt8 := (b ++ List.replicate 128 (UInt8.ofNat (IntKind.u8.wrap (b.length : Int)).toNat)).take 128

theorem fullB_len (b : List UInt8) : (fullB b).length = 128 := by simp [fullB]

theorem take_snoc {α : Type} {l : List α} {k : Nat} {x : α} (h : l[k]? = some x) : l.take (k + 1) = l.take k ++ [x] := by
  rw [List.take_add_one, h]; rfl

theorem fullB_take (b : List UInt8) (k : Nat) (hk : k < 128) : (fullB b).take (k + 1) = (fullB b).take k ++ [if k < b.length then b.getD k 0 else UInt8.ofNat (IntKind.u8.wrap (b.length : Int)).toNat] := by
  apply take_snoc
  unfold fullB
  rw [List.getElem?_take, if_pos hk]
  split
  · rename_i h
    rw [List.getElem?_append_left h]; simp [h]
  · rw [List.getElem?_append_right (by omega), List.getElem?_replicate, if_pos (by omega)]

def F10 : Fun
  | [.by b] => if b.length ≤ 1000000000 then some ([.by (fullB b)], .own 0) else none
  | _ => none

theorem cl10 : GClOk Try.prog [] := GClOk.nil _

theorem c10 : ACon Try.prog 10 F10 := by
  refine acon (E := E) (rs := [(2, 22)]) Try.func10 rfl Try.ntmps10 (by kernel_rfl) rfl (by decide) F10 (np := 1) ?_ ?_
  · intro ts h; unfold F10; split <;> first | rfl | (simp at h; done)
  intro ts H r hF hwf
  unfold F10 at hF
  split at hF <;> try (cases hF; done)
  rename_i b
  split at hF <;> try (cases hF; done)
  rename_i hlen
  cases hF
  refine AWP.gseq X_ok cl10 [0, 2, 3, 4, 5, 8, 17] (by ((repeat (first | simp only [W, eqq, ↓reduceIte, Nat.reduceEqDiff, Nat.reduceLT, Nat.reduceLeDiff, Nat.reduceAdd, Nat.reduceMul, Nat.reduceSub, Nat.reduceBEq, Int.reduceLE, Int.reduceLT, Int.reduceNeg, Int.reduceToNat, Int.reduceEq, Int.reduceBEq, Int.reduceBNe, Nat.reduceBNe, bne_self_eq_false, reduceCtorEq] | (rewrite [if_pos]; rotate_left; focus (first | omega | (simp only [LN]; omega) | (refine ⟨?_, ?_⟩ <;> (simp only [LN] <;> omega)))) | (rewrite [if_neg]; rotate_left; focus (first | omega | (simp only [LN]; omega) | (refine ⟨?_, ?_⟩ <;> (simp only [LN] <;> omega)))))); with_reducible rfl)) ?_
  refine AWP.gseq X_ok cl10 [0, 2, 3, 4, 5, 8, 17] (by ((repeat (first | simp only [W, eqq, ↓reduceIte, Nat.reduceEqDiff, Nat.reduceLT, Nat.reduceLeDiff, Nat.reduceAdd, Nat.reduceMul, Nat.reduceSub, Nat.reduceBEq, Int.reduceLE, Int.reduceLT, Int.reduceNeg, Int.reduceToNat, Int.reduceEq, Int.reduceBEq, Int.reduceBNe, Nat.reduceBNe, bne_self_eq_false, reduceCtorEq] | (rewrite [if_pos]; rotate_left; focus (first | omega | (simp only [LN]; omega) | (refine ⟨?_, ?_⟩ <;> (simp only [LN] <;> omega)))) | (rewrite [if_neg]; rotate_left; focus (first | omega | (simp only [LN]; omega) | (refine ⟨?_, ?_⟩ <;> (simp only [LN] <;> omega)))))); with_reducible rfl)) ?_
  refine AWP.seq ?_
  refine AWP.gseq X_ok cl10 [0, 2, 3, 4, 5, 8, 17] (by ((repeat (first | simp only [W, eqq, ↓reduceIte, Nat.reduceEqDiff, Nat.reduceLT, Nat.reduceLeDiff, Nat.reduceAdd, Nat.reduceMul, Nat.reduceSub, Nat.reduceBEq, Int.reduceLE, Int.reduceLT, Int.reduceNeg, Int.reduceToNat, Int.reduceEq, Int.reduceBEq, Int.reduceBNe, Nat.reduceBNe, bne_self_eq_false, reduceCtorEq] | (rewrite [if_pos]; rotate_left; focus (first | omega | (simp only [LN]; omega) | (refine ⟨?_, ?_⟩ <;> (simp only [LN] <;> omega)))) | (rewrite [if_neg]; rotate_left; focus (first | omega | (simp only [LN]; omega) | (refine ⟨?_, ?_⟩ <;> (simp only [LN] <;> omega)))))); with_reducible rfl)) ?_
  refine AWP.block ?_
  refine AWP.loop (G := { k : Nat // k ≤ 128 }) (fun k => ⟨[(0, .t (.by b)), (3, .own 0), (4, .t (.int .i64 (k.1 : Int)))], [.by ((fullB b).take k.1)]⟩) (fun k => 128 - k.1) ⟨0, by omega⟩ (Weak.to [0, 3, 4] [0] (by decide) (by simp only [W, eqq, ↓reduceIte, Nat.reduceEqDiff, Nat.reduceLT, Nat.reduceLeDiff, Nat.reduceAdd, Nat.reduceMul, Nat.reduceSub, Nat.reduceBEq, Int.reduceLE, Int.reduceLT, Int.reduceNeg, Int.reduceToNat, Int.reduceEq, Int.reduceBEq, Int.reduceBNe, Nat.reduceBNe, bne_self_eq_false, reduceCtorEq])) ?_
  intro ⟨k, hk⟩
  refine AWP.seq ?_
  refine AWP.gseq X_ok cl10 [0, 2, 3, 4, 5, 8, 17] (by ((repeat (first | simp only [W, eqq, ↓reduceIte, Nat.reduceEqDiff, Nat.reduceLT, Nat.reduceLeDiff, Nat.reduceAdd, Nat.reduceMul, Nat.reduceSub, Nat.reduceBEq, Int.reduceLE, Int.reduceLT, Int.reduceNeg, Int.reduceToNat, Int.reduceEq, Int.reduceBEq, Int.reduceBNe, Nat.reduceBNe, bne_self_eq_false, reduceCtorEq] | (rewrite [if_pos]; rotate_left; focus (first | omega | (simp only [LN]; omega) | (refine ⟨?_, ?_⟩ <;> (simp only [LN] <;> omega)))) | (rewrite [if_neg]; rotate_left; focus (first | omega | (simp only [LN]; omega) | (refine ⟨?_, ?_⟩ <;> (simp only [LN] <;> omega)))))); with_reducible rfl)) ?_
  by_cases hlt : (k : Int) < 128
  · refine AWP.condT (by simp only [W, eqq, ↓reduceIte, Nat.reduceEqDiff, Nat.reduceLT, Nat.reduceLeDiff, Nat.reduceAdd, Nat.reduceMul, Nat.reduceSub, Nat.reduceBEq, Int.reduceLE, Int.reduceLT, Int.reduceNeg, Int.reduceToNat, Int.reduceEq, Int.reduceBEq, Int.reduceBNe, Nat.reduceBNe, bne_self_eq_false, reduceCtorEq, hlt]) (AWP.skip ?_)
    refine AWP.seq (AWP.block ?_)
    refine AWP.gseq X_ok cl10 [0, 2, 3, 4, 5, 8, 17] (by ((repeat (first | simp only [W, eqq, ↓reduceIte, Nat.reduceEqDiff, Nat.reduceLT, Nat.reduceLeDiff, Nat.reduceAdd, Nat.reduceMul, Nat.reduceSub, Nat.reduceBEq, Int.reduceLE, Int.reduceLT, Int.reduceNeg, Int.reduceToNat, Int.reduceEq, Int.reduceBEq, Int.reduceBNe, Nat.reduceBNe, bne_self_eq_false, reduceCtorEq] | (rewrite [if_pos]; rotate_left; focus (first | omega | (simp only [LN]; omega) | (refine ⟨?_, ?_⟩ <;> (simp only [LN] <;> omega)))) | (rewrite [if_neg]; rotate_left; focus (first | omega | (simp only [LN]; omega) | (refine ⟨?_, ?_⟩ <;> (simp only [LN] <;> omega)))))); with_reducible rfl)) ?_
    refine AWP.seq ?_
    refine AWP.gseq X_ok cl10 [0, 2, 3, 4, 5, 8, 17] (by ((repeat (first | simp only [W, eqq, ↓reduceIte, Nat.reduceEqDiff, Nat.reduceLT, Nat.reduceLeDiff, Nat.reduceAdd, Nat.reduceMul, Nat.reduceSub, Nat.reduceBEq, Int.reduceLE, Int.reduceLT, Int.reduceNeg, Int.reduceToNat, Int.reduceEq, Int.reduceBEq, Int.reduceBNe, Nat.reduceBNe, bne_self_eq_false, reduceCtorEq] | (rewrite [if_pos]; rotate_left; focus (first | omega | (simp only [LN]; omega) | (refine ⟨?_, ?_⟩ <;> (simp only [LN] <;> omega)))) | (rewrite [if_neg]; rotate_left; focus (first | omega | (simp only [LN]; omega) | (refine ⟨?_, ?_⟩ <;> (simp only [LN] <;> omega)))))); with_reducible rfl)) ?_
    have hfl := fullB_take b k (by omega)
    have hk1 : IntKind.i64.wrap ((k : Int) + 1) = ((k + 1 : Nat) : Int) := by rw [wrap_i64 (by omega) (by omega)]; omega
    by_cases hb : (k : Int) < (b.length : Int)
    · refine AWP.condT (by simp only [W, eqq, ↓reduceIte, Nat.reduceEqDiff, Nat.reduceLT, Nat.reduceLeDiff, Nat.reduceAdd, Nat.reduceMul, Nat.reduceSub, Nat.reduceBEq, Int.reduceLE, Int.reduceLT, Int.reduceNeg, Int.reduceToNat, Int.reduceEq, Int.reduceBEq, Int.reduceBNe, Nat.reduceBNe, bne_self_eq_false, reduceCtorEq, hb]) ?_
      have hb' : k < b.length := by omega
      refine AWP.greg X_ok cl10 [0, 2, 3, 4, 5, 8, 17] (by ((repeat (first | simp only [W, eqq, ↓reduceIte, Nat.reduceEqDiff, Nat.reduceLT, Nat.reduceLeDiff, Nat.reduceAdd, Nat.reduceMul, Nat.reduceSub, Nat.reduceBEq, Int.reduceLE, Int.reduceLT, Int.reduceNeg, Int.reduceToNat, Int.reduceEq, Int.reduceBEq, Int.reduceBNe, Nat.reduceBNe, bne_self_eq_false, reduceCtorEq, hb'] | (rewrite [if_pos]; rotate_left; focus (first | omega | (simp only [LN, hb']; omega) | (refine ⟨?_, ?_⟩ <;> (simp only [LN, hb'] <;> omega)))) | (rewrite [if_neg]; rotate_left; focus (first | omega | (simp only [LN, hb']; omega) | (refine ⟨?_, ?_⟩ <;> (simp only [LN, hb'] <;> omega)))))); with_reducible rfl)) ?_
      show AWP _ _ _ _ _ _
      refine AWP.greg X_ok cl10 [0, 2, 3, 4, 5, 8, 17] (by ((repeat (first | simp only [W, eqq, ↓reduceIte, Nat.reduceEqDiff, Nat.reduceLT, Nat.reduceLeDiff, Nat.reduceAdd, Nat.reduceMul, Nat.reduceSub, Nat.reduceBEq, Int.reduceLE, Int.reduceLT, Int.reduceNeg, Int.reduceToNat, Int.reduceEq, Int.reduceBEq, Int.reduceBNe, Nat.reduceBNe, bne_self_eq_false, reduceCtorEq, fullB_len] | (rewrite [if_pos]; rotate_left; focus (first | omega | (simp only [LN, fullB_len]; omega) | (refine ⟨?_, ?_⟩ <;> (simp only [LN, fullB_len] <;> omega)))) | (rewrite [if_neg]; rotate_left; focus (first | omega | (simp only [LN, fullB_len]; omega) | (refine ⟨?_, ?_⟩ <;> (simp only [LN, fullB_len] <;> omega)))))); with_reducible rfl)) ?_
      show AWP _ _ _ _ _ _
      refine AWP.greg X_ok cl10 [0, 2, 3, 4, 5, 8, 17] (by ((repeat (first | simp only [W, eqq, ↓reduceIte, Nat.reduceEqDiff, Nat.reduceLT, Nat.reduceLeDiff, Nat.reduceAdd, Nat.reduceMul, Nat.reduceSub, Nat.reduceBEq, Int.reduceLE, Int.reduceLT, Int.reduceNeg, Int.reduceToNat, Int.reduceEq, Int.reduceBEq, Int.reduceBNe, Nat.reduceBNe, bne_self_eq_false, reduceCtorEq, hk1] | (rewrite [if_pos]; rotate_left; focus (first | omega | (simp only [LN, hk1]; omega) | (refine ⟨?_, ?_⟩ <;> (simp only [LN, hk1] <;> omega)))) | (rewrite [if_neg]; rotate_left; focus (first | omega | (simp only [LN, hk1]; omega) | (refine ⟨?_, ?_⟩ <;> (simp only [LN, hk1] <;> omega)))))); with_reducible rfl)) ?_
      rw [if_pos hb'] at hfl
      exact ⟨⟨k + 1, by omega⟩, Weak.to [0, 3, 4] [2] (by decide) (by simp only [W, eqq, ↓reduceIte, Nat.reduceEqDiff, Nat.reduceLT, Nat.reduceLeDiff, Nat.reduceAdd, Nat.reduceMul, Nat.reduceSub, Nat.reduceBEq, Int.reduceLE, Int.reduceLT, Int.reduceNeg, Int.reduceToNat, Int.reduceEq, Int.reduceBEq, Int.reduceBNe, Nat.reduceBNe, bne_self_eq_false, reduceCtorEq, hfl, UInt8.ofNat_toNat]), by simp only; omega⟩
    · refine AWP.condF (by simp only [W, eqq, ↓reduceIte, Nat.reduceEqDiff, Nat.reduceLT, Nat.reduceLeDiff, Nat.reduceAdd, Nat.reduceMul, Nat.reduceSub, Nat.reduceBEq, Int.reduceLE, Int.reduceLT, Int.reduceNeg, Int.reduceToNat, Int.reduceEq, Int.reduceBEq, Int.reduceBNe, Nat.reduceBNe, bne_self_eq_false, reduceCtorEq, hb]) (AWP.skip ?_)
      show AWP _ _ _ _ _ _
      refine AWP.greg X_ok cl10 [0, 2, 3, 4, 5, 8, 17] (by ((repeat (first | simp only [W, eqq, ↓reduceIte, Nat.reduceEqDiff, Nat.reduceLT, Nat.reduceLeDiff, Nat.reduceAdd, Nat.reduceMul, Nat.reduceSub, Nat.reduceBEq, Int.reduceLE, Int.reduceLT, Int.reduceNeg, Int.reduceToNat, Int.reduceEq, Int.reduceBEq, Int.reduceBNe, Nat.reduceBNe, bne_self_eq_false, reduceCtorEq, fullB_len] | (rewrite [if_pos]; rotate_left; focus (first | omega | (simp only [LN, fullB_len]; omega) | (refine ⟨?_, ?_⟩ <;> (simp only [LN, fullB_len] <;> omega)))) | (rewrite [if_neg]; rotate_left; focus (first | omega | (simp only [LN, fullB_len]; omega) | (refine ⟨?_, ?_⟩ <;> (simp only [LN, fullB_len] <;> omega)))))); with_reducible rfl)) ?_
      show AWP _ _ _ _ _ _
      refine AWP.greg X_ok cl10 [0, 2, 3, 4, 5, 8, 17] (by ((repeat (first | simp only [W, eqq, ↓reduceIte, Nat.reduceEqDiff, Nat.reduceLT, Nat.reduceLeDiff, Nat.reduceAdd, Nat.reduceMul, Nat.reduceSub, Nat.reduceBEq, Int.reduceLE, Int.reduceLT, Int.reduceNeg, Int.reduceToNat, Int.reduceEq, Int.reduceBEq, Int.reduceBNe, Nat.reduceBNe, bne_self_eq_false, reduceCtorEq, hk1] | (rewrite [if_pos]; rotate_left; focus (first | omega | (simp only [LN, hk1]; omega) | (refine ⟨?_, ?_⟩ <;> (simp only [LN, hk1] <;> omega)))) | (rewrite [if_neg]; rotate_left; focus (first | omega | (simp only [LN, hk1]; omega) | (refine ⟨?_, ?_⟩ <;> (simp only [LN, hk1] <;> omega)))))); with_reducible rfl)) ?_
      rw [if_neg (by omega)] at hfl
      exact ⟨⟨k + 1, by omega⟩, Weak.to [0, 3, 4] [2] (by decide) (by simp only [W, eqq, ↓reduceIte, Nat.reduceEqDiff, Nat.reduceLT, Nat.reduceLeDiff, Nat.reduceAdd, Nat.reduceMul, Nat.reduceSub, Nat.reduceBEq, Int.reduceLE, Int.reduceLT, Int.reduceNeg, Int.reduceToNat, Int.reduceEq, Int.reduceBEq, Int.reduceBNe, Nat.reduceBNe, bne_self_eq_false, reduceCtorEq, hfl]), by simp only; omega⟩
  · refine AWP.condF (by simp only [W, eqq, ↓reduceIte, Nat.reduceEqDiff, Nat.reduceLT, Nat.reduceLeDiff, Nat.reduceAdd, Nat.reduceMul, Nat.reduceSub, Nat.reduceBEq, Int.reduceLE, Int.reduceLT, Int.reduceNeg, Int.reduceToNat, Int.reduceEq, Int.reduceBEq, Int.reduceBNe, Nat.reduceBNe, bne_self_eq_false, reduceCtorEq, hlt]) (AWP.exit ?_)
    obtain rfl : k = 128 := by omega
    show AWP _ _ _ _ _ _
    have e : (fullB b).take 128 = fullB b := List.take_of_length_le (by rw [fullB_len]; omega)
    refine AWP.gseq X_ok cl10 [0, 2, 3, 4, 5, 8, 17] (by ((repeat (first | simp only [W, eqq, ↓reduceIte, Nat.reduceEqDiff, Nat.reduceLT, Nat.reduceLeDiff, Nat.reduceAdd, Nat.reduceMul, Nat.reduceSub, Nat.reduceBEq, Int.reduceLE, Int.reduceLT, Int.reduceNeg, Int.reduceToNat, Int.reduceEq, Int.reduceBEq, Int.reduceBNe, Nat.reduceBNe, bne_self_eq_false, reduceCtorEq] | (rewrite [if_pos]; rotate_left; focus (first | omega | (simp only [LN]; omega) | (refine ⟨?_, ?_⟩ <;> (simp only [LN] <;> omega)))) | (rewrite [if_neg]; rotate_left; focus (first | omega | (simp only [LN]; omega) | (refine ⟨?_, ?_⟩ <;> (simp only [LN] <;> omega)))))); with_reducible rfl)) ?_
    exact AWP.ret ⟨.inr rfl, [], [0], by decide, by rw [e]; rfl, rfl⟩

end Go.Fw

end

section
/- Chapter 27: writing and reading a sector. -/
namespace Go.Fw
open Go Go.Proofs
set_option linter.unusedVariables false
set_option linter.unusedSimpArgs false

/-- Sectors, and writes that are pending, as trees. -/
abbrev sect (l : List (List UInt8)) : List T := l.map (T.ba 128)
def pnd1 (p : Int × List UInt8) : T := .st [.int .i64 p.1, .ba 128 p.2]
abbrev pnd (l : List (Int × List UInt8)) : List T := l.map pnd1

def G11 : GFun
  | [], [.t .nilp, .t (.int .i64 i), .t (.by b)] => some ([], .t (.int .i64 1))
  | [.bx (.st [.own 1, .own 2, .own 3, .t (.int .i64 l), .t (.bool off)]), .sq 128 s, .sq 128 n, .sq 129 p], [.ptr 0 0 [], .t (.int .i64 i), .t (.by b)] =>
    if (decide (0 ≤ i) && decide (i < s.length)) = false ∨ b.length ≠ 128 then some ([dk 1 2 3 l off, .sq 128 s, .sq 128 n, .sq 129 p], .t (.int .i64 1))
    else if (spL l off).2.2 = false then some ([dk 1 2 3 (spL l off).1 (spL l off).2.1, .sq 128 s, .sq 128 n, .sq 129 p], .t (.int .i64 7))
    else if n.length = s.length ∧ p.length ≤ 1000000 ∧ (n.getD i.toNat default).size = 128 then some ([dk 1 2 4 (spL l off).1 (spL l off).2.1, .sq 128 s, .sq 128 (n.set i.toNat (.ba 128 b)), .no, .sq 129 (p ++ [pnd1 (i, b)])], .t (.int .i64 0))
    else none
  | _, _ => none

theorem cl11 : GClOk Try.prog [(25, ⟨[true, false], G25⟩), (26, ⟨[true], G26⟩)] := .cons g25 (.cons g26 (.nil _))

theorem g11 : GCon Try.prog 11 G11 := by
  refine gcon (E := E) (rs := [(6, 25)]) Try.func11 rfl Try.ntmps11 (by kernel_rfl) rfl (by decide) G11 (np := 3) ?_ ?_
  · intro HB xs h; unfold G11; split <;> first | rfl | (simp at h; done)
  intro HB xs H r hG hwf hex
  unfold G11 at hG
  split at hG <;> try (cases hG; done)
  · rename_i i b
    cases hG
    refine AWP.gseq X_ok cl11 [0, 1, 2, 6, 7, 16, 19] (by ((repeat (first | simp only [W, eqq, ↓reduceIte, Nat.reduceEqDiff, Nat.reduceLT, Nat.reduceLeDiff, Nat.reduceAdd, Nat.reduceMul, Nat.reduceSub, Nat.reduceBEq, Int.reduceLE, Int.reduceLT, Int.reduceNeg, Int.reduceToNat, Int.reduceEq, Int.reduceBEq, Int.reduceBNe, Nat.reduceBNe, bne_self_eq_false, reduceCtorEq, gentry] | (rewrite [if_pos]; rotate_left; focus (first | omega | (simp only [LN, gentry]; omega) | (refine ⟨?_, ?_⟩ <;> (simp only [LN, gentry] <;> omega)))) | (rewrite [if_neg]; rotate_left; focus (first | omega | (simp only [LN, gentry]; omega) | (refine ⟨?_, ?_⟩ <;> (simp only [LN, gentry] <;> omega)))))); with_reducible rfl)) ?_
    refine AWP.seq ?_
    refine AWP.gseq X_ok cl11 [0, 1, 2, 6, 7, 16, 19] (by ((repeat (first | simp only [W, eqq, ↓reduceIte, Nat.reduceEqDiff, Nat.reduceLT, Nat.reduceLeDiff, Nat.reduceAdd, Nat.reduceMul, Nat.reduceSub, Nat.reduceBEq, Int.reduceLE, Int.reduceLT, Int.reduceNeg, Int.reduceToNat, Int.reduceEq, Int.reduceBEq, Int.reduceBNe, Nat.reduceBNe, bne_self_eq_false, reduceCtorEq, G25] | (rewrite [if_pos]; rotate_left; focus (first | omega | (simp only [LN, G25]; omega) | (refine ⟨?_, ?_⟩ <;> (simp only [LN, G25] <;> omega)))) | (rewrite [if_neg]; rotate_left; focus (first | omega | (simp only [LN, G25]; omega) | (refine ⟨?_, ?_⟩ <;> (simp only [LN, G25] <;> omega)))))); with_reducible rfl)) ?_
    refine AWP.condT (by simp only [W, eqq, ↓reduceIte, Nat.reduceEqDiff, Nat.reduceLT, Nat.reduceLeDiff, Nat.reduceAdd, Nat.reduceMul, Nat.reduceSub, Nat.reduceBEq, Int.reduceLE, Int.reduceLT, Int.reduceNeg, Int.reduceToNat, Int.reduceEq, Int.reduceBEq, Int.reduceBNe, Nat.reduceBNe, bne_self_eq_false, reduceCtorEq]) ?_
    refine AWP.gseq X_ok cl11 [0, 1, 2, 6, 7, 16, 19] (by ((repeat (first | simp only [W, eqq, ↓reduceIte, Nat.reduceEqDiff, Nat.reduceLT, Nat.reduceLeDiff, Nat.reduceAdd, Nat.reduceMul, Nat.reduceSub, Nat.reduceBEq, Int.reduceLE, Int.reduceLT, Int.reduceNeg, Int.reduceToNat, Int.reduceEq, Int.reduceBEq, Int.reduceBNe, Nat.reduceBNe, bne_self_eq_false, reduceCtorEq] | (rewrite [if_pos]; rotate_left; focus (first | omega | (simp only [LN]; omega) | (refine ⟨?_, ?_⟩ <;> (simp only [LN] <;> omega)))) | (rewrite [if_neg]; rotate_left; focus (first | omega | (simp only [LN]; omega) | (refine ⟨?_, ?_⟩ <;> (simp only [LN] <;> omega)))))); with_reducible rfl)) ?_
    exact AWP.ret ⟨.inr rfl, [], [], (show okIds 0 [] by decide), rfl, rfl⟩
  · rename_i l off s n p i b
    refine AWP.gseq X_ok cl11 [0, 1, 2, 6, 7, 16, 19] (by ((repeat (first | simp only [W, eqq, ↓reduceIte, Nat.reduceEqDiff, Nat.reduceLT, Nat.reduceLeDiff, Nat.reduceAdd, Nat.reduceMul, Nat.reduceSub, Nat.reduceBEq, Int.reduceLE, Int.reduceLT, Int.reduceNeg, Int.reduceToNat, Int.reduceEq, Int.reduceBEq, Int.reduceBNe, Nat.reduceBNe, bne_self_eq_false, reduceCtorEq, gentry] | (rewrite [if_pos]; rotate_left; focus (first | omega | (simp only [LN, gentry]; omega) | (refine ⟨?_, ?_⟩ <;> (simp only [LN, gentry] <;> omega)))) | (rewrite [if_neg]; rotate_left; focus (first | omega | (simp only [LN, gentry]; omega) | (refine ⟨?_, ?_⟩ <;> (simp only [LN, gentry] <;> omega)))))); with_reducible rfl)) ?_
    refine AWP.seq ?_
    cases h1 : (decide (0 ≤ i) && decide (i < (s.length : Int)))
    case false =>
      rw [if_pos (Or.inl h1)] at hG
      cases hG
      refine AWP.gseq X_ok cl11 [0, 1, 2, 6, 7, 16, 19] (by ((repeat (first | simp only [W, eqq, ↓reduceIte, Nat.reduceEqDiff, Nat.reduceLT, Nat.reduceLeDiff, Nat.reduceAdd, Nat.reduceMul, Nat.reduceSub, Nat.reduceBEq, Int.reduceLE, Int.reduceLT, Int.reduceNeg, Int.reduceToNat, Int.reduceEq, Int.reduceBEq, Int.reduceBNe, Nat.reduceBNe, bne_self_eq_false, reduceCtorEq, G25, h1] | (rewrite [if_pos]; rotate_left; focus (first | omega | (simp only [LN, G25, h1]; omega) | (refine ⟨?_, ?_⟩ <;> (simp only [LN, G25, h1] <;> omega)))) | (rewrite [if_neg]; rotate_left; focus (first | omega | (simp only [LN, G25, h1]; omega) | (refine ⟨?_, ?_⟩ <;> (simp only [LN, G25, h1] <;> omega)))))); with_reducible rfl)) ?_
      refine AWP.condT (by simp only [W, eqq, ↓reduceIte, Nat.reduceEqDiff, Nat.reduceLT, Nat.reduceLeDiff, Nat.reduceAdd, Nat.reduceMul, Nat.reduceSub, Nat.reduceBEq, Int.reduceLE, Int.reduceLT, Int.reduceNeg, Int.reduceToNat, Int.reduceEq, Int.reduceBEq, Int.reduceBNe, Nat.reduceBNe, bne_self_eq_false, reduceCtorEq]) ?_
      refine AWP.gseq X_ok cl11 [0, 1, 2, 6, 7, 16, 19] (by ((repeat (first | simp only [W, eqq, ↓reduceIte, Nat.reduceEqDiff, Nat.reduceLT, Nat.reduceLeDiff, Nat.reduceAdd, Nat.reduceMul, Nat.reduceSub, Nat.reduceBEq, Int.reduceLE, Int.reduceLT, Int.reduceNeg, Int.reduceToNat, Int.reduceEq, Int.reduceBEq, Int.reduceBNe, Nat.reduceBNe, bne_self_eq_false, reduceCtorEq] | (rewrite [if_pos]; rotate_left; focus (first | omega | (simp only [LN]; omega) | (refine ⟨?_, ?_⟩ <;> (simp only [LN] <;> omega)))) | (rewrite [if_neg]; rotate_left; focus (first | omega | (simp only [LN]; omega) | (refine ⟨?_, ?_⟩ <;> (simp only [LN] <;> omega)))))); with_reducible rfl)) ?_
      exact AWP.ret ⟨.inr rfl, [], [0, 1, 2, 3], (show okIds 4 [0, 1, 2, 3] by decide), rfl, rfl⟩
    case true =>
      cases h2 : ((b.length : Int) != 128)
      case true =>
        have h2' : b.length ≠ 128 := by simp at h2; omega
        rw [if_pos (Or.inr h2')] at hG
        cases hG
        refine AWP.gseq X_ok cl11 [0, 1, 2, 6, 7, 16, 19] (by ((repeat (first | simp only [W, eqq, ↓reduceIte, Nat.reduceEqDiff, Nat.reduceLT, Nat.reduceLeDiff, Nat.reduceAdd, Nat.reduceMul, Nat.reduceSub, Nat.reduceBEq, Int.reduceLE, Int.reduceLT, Int.reduceNeg, Int.reduceToNat, Int.reduceEq, Int.reduceBEq, Int.reduceBNe, Nat.reduceBNe, bne_self_eq_false, reduceCtorEq, G25, h1, h2] | (rewrite [if_pos]; rotate_left; focus (first | omega | (simp only [LN, G25, h1, h2]; omega) | (refine ⟨?_, ?_⟩ <;> (simp only [LN, G25, h1, h2] <;> omega)))) | (rewrite [if_neg]; rotate_left; focus (first | omega | (simp only [LN, G25, h1, h2]; omega) | (refine ⟨?_, ?_⟩ <;> (simp only [LN, G25, h1, h2] <;> omega)))))); with_reducible rfl)) ?_
        refine AWP.condT (by simp only [W, eqq, ↓reduceIte, Nat.reduceEqDiff, Nat.reduceLT, Nat.reduceLeDiff, Nat.reduceAdd, Nat.reduceMul, Nat.reduceSub, Nat.reduceBEq, Int.reduceLE, Int.reduceLT, Int.reduceNeg, Int.reduceToNat, Int.reduceEq, Int.reduceBEq, Int.reduceBNe, Nat.reduceBNe, bne_self_eq_false, reduceCtorEq]) ?_
        refine AWP.gseq X_ok cl11 [0, 1, 2, 6, 7, 16, 19] (by ((repeat (first | simp only [W, eqq, ↓reduceIte, Nat.reduceEqDiff, Nat.reduceLT, Nat.reduceLeDiff, Nat.reduceAdd, Nat.reduceMul, Nat.reduceSub, Nat.reduceBEq, Int.reduceLE, Int.reduceLT, Int.reduceNeg, Int.reduceToNat, Int.reduceEq, Int.reduceBEq, Int.reduceBNe, Nat.reduceBNe, bne_self_eq_false, reduceCtorEq] | (rewrite [if_pos]; rotate_left; focus (first | omega | (simp only [LN]; omega) | (refine ⟨?_, ?_⟩ <;> (simp only [LN] <;> omega)))) | (rewrite [if_neg]; rotate_left; focus (first | omega | (simp only [LN]; omega) | (refine ⟨?_, ?_⟩ <;> (simp only [LN] <;> omega)))))); with_reducible rfl)) ?_
        exact AWP.ret ⟨.inr rfl, [], [0, 1, 2, 3], (show okIds 4 [0, 1, 2, 3] by decide), rfl, rfl⟩
      case false =>
        have h2' : b.length = 128 := by simp at h2; omega
        rw [if_neg (by simp [h1, h2'])] at hG
        have hi : 0 ≤ i ∧ i < (s.length : Int) := by simpa using h1
        refine AWP.gseq X_ok cl11 [0, 1, 2, 6, 7, 16, 19] (by ((repeat (first | simp only [W, eqq, ↓reduceIte, Nat.reduceEqDiff, Nat.reduceLT, Nat.reduceLeDiff, Nat.reduceAdd, Nat.reduceMul, Nat.reduceSub, Nat.reduceBEq, Int.reduceLE, Int.reduceLT, Int.reduceNeg, Int.reduceToNat, Int.reduceEq, Int.reduceBEq, Int.reduceBNe, Nat.reduceBNe, bne_self_eq_false, reduceCtorEq, G25, h1, h2] | (rewrite [if_pos]; rotate_left; focus (first | omega | (simp only [LN, G25, h1, h2]; omega) | (refine ⟨?_, ?_⟩ <;> (simp only [LN, G25, h1, h2] <;> omega)))) | (rewrite [if_neg]; rotate_left; focus (first | omega | (simp only [LN, G25, h1, h2]; omega) | (refine ⟨?_, ?_⟩ <;> (simp only [LN, G25, h1, h2] <;> omega)))))); with_reducible rfl)) ?_
        refine AWP.condF (by simp only [W, eqq, ↓reduceIte, Nat.reduceEqDiff, Nat.reduceLT, Nat.reduceLeDiff, Nat.reduceAdd, Nat.reduceMul, Nat.reduceSub, Nat.reduceBEq, Int.reduceLE, Int.reduceLT, Int.reduceNeg, Int.reduceToNat, Int.reduceEq, Int.reduceBEq, Int.reduceBNe, Nat.reduceBNe, bne_self_eq_false, reduceCtorEq]) (AWP.skip ?_)
        show AWP _ _ _ _ _ _
        refine AWP.seq ?_
        generalize hsp : spL l off = sp at hG
        obtain ⟨l', off', ok⟩ := sp
        cases ok
        case false =>
          simp only [if_true] at hG
          cases hG
          refine AWP.gseq X_ok cl11 [0, 1, 2, 6, 7, 16, 19] (by ((repeat (first | simp only [W, eqq, ↓reduceIte, Nat.reduceEqDiff, Nat.reduceLT, Nat.reduceLeDiff, Nat.reduceAdd, Nat.reduceMul, Nat.reduceSub, Nat.reduceBEq, Int.reduceLE, Int.reduceLT, Int.reduceNeg, Int.reduceToNat, Int.reduceEq, Int.reduceBEq, Int.reduceBNe, Nat.reduceBNe, bne_self_eq_false, reduceCtorEq, G26, hsp] | (rewrite [if_pos]; rotate_left; focus (first | omega | (simp only [LN, G26, hsp]; omega) | (refine ⟨?_, ?_⟩ <;> (simp only [LN, G26, hsp] <;> omega)))) | (rewrite [if_neg]; rotate_left; focus (first | omega | (simp only [LN, G26, hsp]; omega) | (refine ⟨?_, ?_⟩ <;> (simp only [LN, G26, hsp] <;> omega)))))); with_reducible rfl)) ?_
          refine AWP.condT (by simp only [W, eqq, ↓reduceIte, Nat.reduceEqDiff, Nat.reduceLT, Nat.reduceLeDiff, Nat.reduceAdd, Nat.reduceMul, Nat.reduceSub, Nat.reduceBEq, Int.reduceLE, Int.reduceLT, Int.reduceNeg, Int.reduceToNat, Int.reduceEq, Int.reduceBEq, Int.reduceBNe, Nat.reduceBNe, bne_self_eq_false, reduceCtorEq]) ?_
          refine AWP.gseq X_ok cl11 [0, 1, 2, 6, 7, 16, 19] (by ((repeat (first | simp only [W, eqq, ↓reduceIte, Nat.reduceEqDiff, Nat.reduceLT, Nat.reduceLeDiff, Nat.reduceAdd, Nat.reduceMul, Nat.reduceSub, Nat.reduceBEq, Int.reduceLE, Int.reduceLT, Int.reduceNeg, Int.reduceToNat, Int.reduceEq, Int.reduceBEq, Int.reduceBNe, Nat.reduceBNe, bne_self_eq_false, reduceCtorEq] | (rewrite [if_pos]; rotate_left; focus (first | omega | (simp only [LN]; omega) | (refine ⟨?_, ?_⟩ <;> (simp only [LN] <;> omega)))) | (rewrite [if_neg]; rotate_left; focus (first | omega | (simp only [LN]; omega) | (refine ⟨?_, ?_⟩ <;> (simp only [LN] <;> omega)))))); with_reducible rfl)) ?_
          exact AWP.ret ⟨.inr rfl, [], [0, 1, 2, 3], (show okIds 4 [0, 1, 2, 3] by decide), rfl, rfl⟩
        case true =>
          simp only [Bool.true_eq_false, if_false] at hG
          split at hG
          case isFalse => cases hG
          rename_i hc
          obtain ⟨hc1, hc2, hc3⟩ := hc
          cases hG
          refine AWP.gseq X_ok cl11 [0, 1, 2, 6, 7, 16, 19] (by ((repeat (first | simp only [W, eqq, ↓reduceIte, Nat.reduceEqDiff, Nat.reduceLT, Nat.reduceLeDiff, Nat.reduceAdd, Nat.reduceMul, Nat.reduceSub, Nat.reduceBEq, Int.reduceLE, Int.reduceLT, Int.reduceNeg, Int.reduceToNat, Int.reduceEq, Int.reduceBEq, Int.reduceBNe, Nat.reduceBNe, bne_self_eq_false, reduceCtorEq, G26, hsp] | (rewrite [if_pos]; rotate_left; focus (first | omega | (simp only [LN, G26, hsp]; omega) | (refine ⟨?_, ?_⟩ <;> (simp only [LN, G26, hsp] <;> omega)))) | (rewrite [if_neg]; rotate_left; focus (first | omega | (simp only [LN, G26, hsp]; omega) | (refine ⟨?_, ?_⟩ <;> (simp only [LN, G26, hsp] <;> omega)))))); with_reducible rfl)) ?_
          refine AWP.condF (by simp only [W, eqq, ↓reduceIte, Nat.reduceEqDiff, Nat.reduceLT, Nat.reduceLeDiff, Nat.reduceAdd, Nat.reduceMul, Nat.reduceSub, Nat.reduceBEq, Int.reduceLE, Int.reduceLT, Int.reduceNeg, Int.reduceToNat, Int.reduceEq, Int.reduceBEq, Int.reduceBNe, Nat.reduceBNe, bne_self_eq_false, reduceCtorEq]) (AWP.skip ?_)
          show AWP _ _ _ _ _ _
          have hb : b.take 128 = b := List.take_of_length_le (by omega)
          have hn : i.toNat < n.length := by omega
          refine AWP.gseq X_ok cl11 [0, 1, 2, 6, 7, 16, 19] (by ((repeat (first | simp only [W, eqq, ↓reduceIte, Nat.reduceEqDiff, Nat.reduceLT, Nat.reduceLeDiff, Nat.reduceAdd, Nat.reduceMul, Nat.reduceSub, Nat.reduceBEq, Int.reduceLE, Int.reduceLT, Int.reduceNeg, Int.reduceToNat, Int.reduceEq, Int.reduceBEq, Int.reduceBNe, Nat.reduceBNe, bne_self_eq_false, reduceCtorEq, hb] | (rewrite [if_pos]; rotate_left; focus (first | omega | (simp only [LN, hb]; omega) | (refine ⟨?_, ?_⟩ <;> (simp only [LN, hb] <;> omega)))) | (rewrite [if_neg]; rotate_left; focus (first | omega | (simp only [LN, hb]; omega) | (refine ⟨?_, ?_⟩ <;> (simp only [LN, hb] <;> omega)))))); with_reducible rfl)) ?_
          refine AWP.gseqD X_ok cl11 [0, 1, 2, 6, 7, 16, 19] mix [⟨0, [0], []⟩, ⟨0, [25], []⟩, ⟨0, [26], []⟩, ⟨1, [27], []⟩, ⟨0, [1], []⟩, ⟨0, [7], []⟩, ⟨1, [30], []⟩, ⟨1, [28, 29], [3, 6]⟩, ⟨2, [31, 32], [3, 6, 7]⟩] (by kernel_rfl) (by ((repeat (first | simp only [W, eqq, ↓reduceIte, Nat.reduceEqDiff, Nat.reduceLT, Nat.reduceLeDiff, Nat.reduceAdd, Nat.reduceMul, Nat.reduceSub, Nat.reduceBEq, Int.reduceLE, Int.reduceLT, Int.reduceNeg, Int.reduceToNat, Int.reduceEq, Int.reduceBEq, Int.reduceBNe, Nat.reduceBNe, bne_self_eq_false, reduceCtorEq, hc3, hn] | (rewrite [if_pos]; rotate_left; focus (first | omega | (simp only [LN, hc3, hn]; omega) | (refine ⟨?_, ?_⟩ <;> (simp only [LN, hc3, hn] <;> omega)))) | (rewrite [if_neg]; rotate_left; focus (first | omega | (simp only [LN, hc3, hn]; omega) | (refine ⟨?_, ?_⟩ <;> (simp only [LN, hc3, hn] <;> omega)))))); with_reducible rfl)) ?_
          refine AWP.gseqD X_ok cl11 [0, 1, 2, 6, 7, 16, 19] mix [⟨0, [0], []⟩, ⟨0, [0], []⟩, ⟨0, [34], []⟩, ⟨0, [35], []⟩, ⟨1, [36], []⟩, ⟨1, [7], []⟩, ⟨1, [38], [5]⟩, ⟨2, [37, 39], [4, 5, 6]⟩, ⟨0, [33], [4, 5, 6, 7]⟩, ⟨0, [41], [4, 5, 6, 7]⟩, ⟨2, [40, 42], [4, 5, 6, 7]⟩] (by kernel_rfl) (by ((repeat (first | simp only [W, eqq, ↓reduceIte, Nat.reduceEqDiff, Nat.reduceLT, Nat.reduceLeDiff, Nat.reduceAdd, Nat.reduceMul, Nat.reduceSub, Nat.reduceBEq, Int.reduceLE, Int.reduceLT, Int.reduceNeg, Int.reduceToNat, Int.reduceEq, Int.reduceBEq, Int.reduceBNe, Nat.reduceBNe, bne_self_eq_false, reduceCtorEq, pnd1] | (rewrite [if_pos]; rotate_left; focus (first | omega | (simp only [LN, pnd1]; omega) | (refine ⟨?_, ?_⟩ <;> (simp only [LN, pnd1] <;> omega)))) | (rewrite [if_neg]; rotate_left; focus (first | omega | (simp only [LN, pnd1]; omega) | (refine ⟨?_, ?_⟩ <;> (simp only [LN, pnd1] <;> omega)))))); with_reducible rfl)) ?_
          refine AWP.gseq X_ok cl11 [0, 1, 2, 6, 7, 16, 19] (by ((repeat (first | simp only [W, eqq, ↓reduceIte, Nat.reduceEqDiff, Nat.reduceLT, Nat.reduceLeDiff, Nat.reduceAdd, Nat.reduceMul, Nat.reduceSub, Nat.reduceBEq, Int.reduceLE, Int.reduceLT, Int.reduceNeg, Int.reduceToNat, Int.reduceEq, Int.reduceBEq, Int.reduceBNe, Nat.reduceBNe, bne_self_eq_false, reduceCtorEq] | (rewrite [if_pos]; rotate_left; focus (first | omega | (simp only [LN]; omega) | (refine ⟨?_, ?_⟩ <;> (simp only [LN] <;> omega)))) | (rewrite [if_neg]; rotate_left; focus (first | omega | (simp only [LN]; omega) | (refine ⟨?_, ?_⟩ <;> (simp only [LN] <;> omega)))))); with_reducible rfl)) ?_
          exact AWP.ret ⟨.inr rfl, [], [0, 1, 2, 3, 6], (show okIds 4 [0, 1, 2, 3, 6] by decide), rfl, rfl⟩

end Go.Fw

end

section
/- Chapter 27: a sector read, all that is pending made safe. -/
namespace Go.Fw
open Go Go.Proofs
set_option linter.unusedVariables false
set_option linter.unusedSimpArgs false

/-- Rows seen as sectors, as pending writes. -/
def asSect : List T → Option (List (List UInt8))
  | [] => some []
  | .ba 128 l :: r => match asSect r with
    | some ls => some (l :: ls)
    | none => none
  | _ => none
def asPnd : List T → Option (List (Int × List UInt8))
  | [] => some []
  | .st [.int .i64 i, .ba 128 l] :: r => match asPnd r with
    | some ls => some ((i, l) :: ls)
    | none => none
  | _ => none

theorem asSect_map (l : List (List UInt8)) : asSect (sect l) = some l := by
  induction l with
  | nil => rfl
  | cons x l ih => simp only [sect, List.map_cons] at ih ⊢; simp only [asSect, ih]
theorem asPnd_map (l : List (Int × List UInt8)) : asPnd (pnd l) = some l := by
  induction l with
  | nil => rfl
  | cons x l ih => simp only [pnd, List.map_cons] at ih ⊢; simp only [asPnd, pnd1, ih]
theorem asSect_inv : ∀ {xs : List T} {l : List (List UInt8)}, asSect xs = some l → xs = sect l
  | [], l, h => by cases h; rfl
  | x :: r, l, h => by
    unfold asSect at h
    split at h
    · rename_i he; cases he
    · rename_i he
      cases he
      split at h
      · rename_i ls hls
        cases h
        rw [asSect_inv hls]; rfl
      · cases h
    · cases h
theorem asPnd_inv : ∀ {xs : List T} {l : List (Int × List UInt8)}, asPnd xs = some l → xs = pnd l
  | [], l, h => by cases h; rfl
  | x :: r, l, h => by
    unfold asPnd at h
    split at h
    · rename_i he; cases he
    · rename_i he
      cases he
      split at h
      · rename_i ls hls
        cases h
        rw [asPnd_inv hls]; rfl
      · cases h
    · cases h

def G14 : GFun
  | [], [.t .nilp, .t (.int .i64 i)] => some ([], .tup [.t (.by []), .t (.int .i64 1)])
  | [.bx (.st [.own 1, .own 2, .own 3, .t (.int .i64 l), .t (.bool off)]), .sq 128 s, .sq 128 n, .sq 129 p], [.ptr 0 0 [], .t (.int .i64 i)] =>
    if (decide (0 ≤ i) && decide (i < s.length)) = false then some ([dk 1 2 3 l off, .sq 128 s, .sq 128 n, .sq 129 p], .tup [.t (.by []), .t (.int .i64 1)])
    else if off = true then some ([dk 1 2 3 l off, .sq 128 s, .sq 128 n, .sq 129 p], .tup [.t (.by []), .t (.int .i64 7)])
    else match n.getD i.toNat default with
      | .ba 128 x => if n.length = s.length ∧ x.length = 128 then some ([dk 1 2 3 l off, .sq 128 s, .sq 128 n, .sq 129 p], .tup [.t (.by x), .t (.int .i64 0)]) else none
      | _ => none
  | _, _ => none

theorem cl14 : GClOk Try.prog [(25, ⟨[true, false], G25⟩)] := .cons g25 (.nil _)

theorem g14 : GCon Try.prog 14 G14 := by
  refine gcon (E := E) (rs := [(4, 22), (5, 25)]) Try.func14 rfl Try.ntmps14 (by kernel_rfl) rfl (by decide) G14 (np := 2) ?_ ?_
  · intro HB xs h; unfold G14; split <;> first | rfl | (simp at h; done)
  intro HB xs H r hG hwf hex
  unfold G14 at hG
  split at hG <;> try (cases hG; done)
  · cases hG
    refine AWP.gseq X_ok cl14 [0, 1, 4, 5, 6, 7, 12] (by ((repeat (first | simp only [W, eqq, ↓reduceIte, Nat.reduceEqDiff, Nat.reduceLT, Nat.reduceLeDiff, Nat.reduceAdd, Nat.reduceMul, Nat.reduceSub, Nat.reduceBEq, Int.reduceLE, Int.reduceLT, Int.reduceNeg, Int.reduceToNat, Int.reduceEq, Int.reduceBEq, Int.reduceBNe, Nat.reduceBNe, bne_self_eq_false, reduceCtorEq, gentry] | (rewrite [if_pos]; rotate_left; focus (first | omega | (simp only [LN, gentry]; omega) | (refine ⟨?_, ?_⟩ <;> (simp only [LN, gentry] <;> omega)))) | (rewrite [if_neg]; rotate_left; focus (first | omega | (simp only [LN, gentry]; omega) | (refine ⟨?_, ?_⟩ <;> (simp only [LN, gentry] <;> omega)))))); with_reducible rfl)) ?_
    refine AWP.seq (AWP.block ?_)
    refine AWP.gseq X_ok cl14 [0, 1, 4, 5, 6, 7, 12] (by ((repeat (first | simp only [W, eqq, ↓reduceIte, Nat.reduceEqDiff, Nat.reduceLT, Nat.reduceLeDiff, Nat.reduceAdd, Nat.reduceMul, Nat.reduceSub, Nat.reduceBEq, Int.reduceLE, Int.reduceLT, Int.reduceNeg, Int.reduceToNat, Int.reduceEq, Int.reduceBEq, Int.reduceBNe, Nat.reduceBNe, bne_self_eq_false, reduceCtorEq, G25] | (rewrite [if_pos]; rotate_left; focus (first | omega | (simp only [LN, G25]; omega) | (refine ⟨?_, ?_⟩ <;> (simp only [LN, G25] <;> omega)))) | (rewrite [if_neg]; rotate_left; focus (first | omega | (simp only [LN, G25]; omega) | (refine ⟨?_, ?_⟩ <;> (simp only [LN, G25] <;> omega)))))); with_reducible rfl)) ?_
    refine AWP.condT (by simp only [W, eqq, ↓reduceIte, Nat.reduceEqDiff, Nat.reduceLT, Nat.reduceLeDiff, Nat.reduceAdd, Nat.reduceMul, Nat.reduceSub, Nat.reduceBEq, Int.reduceLE, Int.reduceLT, Int.reduceNeg, Int.reduceToNat, Int.reduceEq, Int.reduceBEq, Int.reduceBNe, Nat.reduceBNe, bne_self_eq_false, reduceCtorEq]) ?_
    refine AWP.gseq X_ok cl14 [0, 1, 4, 5, 6, 7, 12] (by ((repeat (first | simp only [W, eqq, ↓reduceIte, Nat.reduceEqDiff, Nat.reduceLT, Nat.reduceLeDiff, Nat.reduceAdd, Nat.reduceMul, Nat.reduceSub, Nat.reduceBEq, Int.reduceLE, Int.reduceLT, Int.reduceNeg, Int.reduceToNat, Int.reduceEq, Int.reduceBEq, Int.reduceBNe, Nat.reduceBNe, bne_self_eq_false, reduceCtorEq] | (rewrite [if_pos]; rotate_left; focus (first | omega | (simp only [LN]; omega) | (refine ⟨?_, ?_⟩ <;> (simp only [LN] <;> omega)))) | (rewrite [if_neg]; rotate_left; focus (first | omega | (simp only [LN]; omega) | (refine ⟨?_, ?_⟩ <;> (simp only [LN] <;> omega)))))); with_reducible rfl)) ?_
    exact AWP.ret ⟨.inr rfl, [], [], (show okIds 0 [] by decide), rfl, rfl⟩
  · rename_i l off s n p i
    refine AWP.gseq X_ok cl14 [0, 1, 4, 5, 6, 7, 12] (by ((repeat (first | simp only [W, eqq, ↓reduceIte, Nat.reduceEqDiff, Nat.reduceLT, Nat.reduceLeDiff, Nat.reduceAdd, Nat.reduceMul, Nat.reduceSub, Nat.reduceBEq, Int.reduceLE, Int.reduceLT, Int.reduceNeg, Int.reduceToNat, Int.reduceEq, Int.reduceBEq, Int.reduceBNe, Nat.reduceBNe, bne_self_eq_false, reduceCtorEq, gentry] | (rewrite [if_pos]; rotate_left; focus (first | omega | (simp only [LN, gentry]; omega) | (refine ⟨?_, ?_⟩ <;> (simp only [LN, gentry] <;> omega)))) | (rewrite [if_neg]; rotate_left; focus (first | omega | (simp only [LN, gentry]; omega) | (refine ⟨?_, ?_⟩ <;> (simp only [LN, gentry] <;> omega)))))); with_reducible rfl)) ?_
    refine AWP.seq (AWP.block ?_)
    cases h1 : (decide (0 ≤ i) && decide (i < (s.length : Int)))
    case false =>
      rw [if_pos h1] at hG
      cases hG
      refine AWP.gseq X_ok cl14 [0, 1, 4, 5, 6, 7, 12] (by ((repeat (first | simp only [W, eqq, ↓reduceIte, Nat.reduceEqDiff, Nat.reduceLT, Nat.reduceLeDiff, Nat.reduceAdd, Nat.reduceMul, Nat.reduceSub, Nat.reduceBEq, Int.reduceLE, Int.reduceLT, Int.reduceNeg, Int.reduceToNat, Int.reduceEq, Int.reduceBEq, Int.reduceBNe, Nat.reduceBNe, bne_self_eq_false, reduceCtorEq, G25, h1] | (rewrite [if_pos]; rotate_left; focus (first | omega | (simp only [LN, G25, h1]; omega) | (refine ⟨?_, ?_⟩ <;> (simp only [LN, G25, h1] <;> omega)))) | (rewrite [if_neg]; rotate_left; focus (first | omega | (simp only [LN, G25, h1]; omega) | (refine ⟨?_, ?_⟩ <;> (simp only [LN, G25, h1] <;> omega)))))); with_reducible rfl)) ?_
      refine AWP.condT (by simp only [W, eqq, ↓reduceIte, Nat.reduceEqDiff, Nat.reduceLT, Nat.reduceLeDiff, Nat.reduceAdd, Nat.reduceMul, Nat.reduceSub, Nat.reduceBEq, Int.reduceLE, Int.reduceLT, Int.reduceNeg, Int.reduceToNat, Int.reduceEq, Int.reduceBEq, Int.reduceBNe, Nat.reduceBNe, bne_self_eq_false, reduceCtorEq]) ?_
      refine AWP.gseq X_ok cl14 [0, 1, 4, 5, 6, 7, 12] (by ((repeat (first | simp only [W, eqq, ↓reduceIte, Nat.reduceEqDiff, Nat.reduceLT, Nat.reduceLeDiff, Nat.reduceAdd, Nat.reduceMul, Nat.reduceSub, Nat.reduceBEq, Int.reduceLE, Int.reduceLT, Int.reduceNeg, Int.reduceToNat, Int.reduceEq, Int.reduceBEq, Int.reduceBNe, Nat.reduceBNe, bne_self_eq_false, reduceCtorEq] | (rewrite [if_pos]; rotate_left; focus (first | omega | (simp only [LN]; omega) | (refine ⟨?_, ?_⟩ <;> (simp only [LN] <;> omega)))) | (rewrite [if_neg]; rotate_left; focus (first | omega | (simp only [LN]; omega) | (refine ⟨?_, ?_⟩ <;> (simp only [LN] <;> omega)))))); with_reducible rfl)) ?_
      exact AWP.ret ⟨.inr rfl, [], [0, 1, 2, 3], (show okIds 4 [0, 1, 2, 3] by decide), rfl, rfl⟩
    case true =>
      rw [if_neg (by rw [h1]; simp)] at hG
      have hi : 0 ≤ i ∧ i < (s.length : Int) := by simpa using h1
      refine AWP.gseq X_ok cl14 [0, 1, 4, 5, 6, 7, 12] (by ((repeat (first | simp only [W, eqq, ↓reduceIte, Nat.reduceEqDiff, Nat.reduceLT, Nat.reduceLeDiff, Nat.reduceAdd, Nat.reduceMul, Nat.reduceSub, Nat.reduceBEq, Int.reduceLE, Int.reduceLT, Int.reduceNeg, Int.reduceToNat, Int.reduceEq, Int.reduceBEq, Int.reduceBNe, Nat.reduceBNe, bne_self_eq_false, reduceCtorEq, G25, h1] | (rewrite [if_pos]; rotate_left; focus (first | omega | (simp only [LN, G25, h1]; omega) | (refine ⟨?_, ?_⟩ <;> (simp only [LN, G25, h1] <;> omega)))) | (rewrite [if_neg]; rotate_left; focus (first | omega | (simp only [LN, G25, h1]; omega) | (refine ⟨?_, ?_⟩ <;> (simp only [LN, G25, h1] <;> omega)))))); with_reducible rfl)) ?_
      refine AWP.condF (by simp only [W, eqq, ↓reduceIte, Nat.reduceEqDiff, Nat.reduceLT, Nat.reduceLeDiff, Nat.reduceAdd, Nat.reduceMul, Nat.reduceSub, Nat.reduceBEq, Int.reduceLE, Int.reduceLT, Int.reduceNeg, Int.reduceToNat, Int.reduceEq, Int.reduceBEq, Int.reduceBNe, Nat.reduceBNe, bne_self_eq_false, reduceCtorEq]) ?_
      refine AWP.gseq X_ok cl14 [0, 1, 4, 5, 6, 7, 12] (by ((repeat (first | simp only [W, eqq, ↓reduceIte, Nat.reduceEqDiff, Nat.reduceLT, Nat.reduceLeDiff, Nat.reduceAdd, Nat.reduceMul, Nat.reduceSub, Nat.reduceBEq, Int.reduceLE, Int.reduceLT, Int.reduceNeg, Int.reduceToNat, Int.reduceEq, Int.reduceBEq, Int.reduceBNe, Nat.reduceBNe, bne_self_eq_false, reduceCtorEq] | (rewrite [if_pos]; rotate_left; focus (first | omega | (simp only [LN]; omega) | (refine ⟨?_, ?_⟩ <;> (simp only [LN] <;> omega)))) | (rewrite [if_neg]; rotate_left; focus (first | omega | (simp only [LN]; omega) | (refine ⟨?_, ?_⟩ <;> (simp only [LN] <;> omega)))))); with_reducible rfl)) ?_
      cases off
      case true =>
        simp only [if_true] at hG
        cases hG
        refine AWP.condT (by simp only [W, eqq, ↓reduceIte, Nat.reduceEqDiff, Nat.reduceLT, Nat.reduceLeDiff, Nat.reduceAdd, Nat.reduceMul, Nat.reduceSub, Nat.reduceBEq, Int.reduceLE, Int.reduceLT, Int.reduceNeg, Int.reduceToNat, Int.reduceEq, Int.reduceBEq, Int.reduceBNe, Nat.reduceBNe, bne_self_eq_false, reduceCtorEq]) ?_
        refine AWP.gseq X_ok cl14 [0, 1, 4, 5, 6, 7, 12] (by ((repeat (first | simp only [W, eqq, ↓reduceIte, Nat.reduceEqDiff, Nat.reduceLT, Nat.reduceLeDiff, Nat.reduceAdd, Nat.reduceMul, Nat.reduceSub, Nat.reduceBEq, Int.reduceLE, Int.reduceLT, Int.reduceNeg, Int.reduceToNat, Int.reduceEq, Int.reduceBEq, Int.reduceBNe, Nat.reduceBNe, bne_self_eq_false, reduceCtorEq] | (rewrite [if_pos]; rotate_left; focus (first | omega | (simp only [LN]; omega) | (refine ⟨?_, ?_⟩ <;> (simp only [LN] <;> omega)))) | (rewrite [if_neg]; rotate_left; focus (first | omega | (simp only [LN]; omega) | (refine ⟨?_, ?_⟩ <;> (simp only [LN] <;> omega)))))); with_reducible rfl)) ?_
        exact AWP.ret ⟨.inr rfl, [], [0, 1, 2, 3], (show okIds 4 [0, 1, 2, 3] by decide), rfl, rfl⟩
      case false =>
        simp only [Bool.false_eq_true, if_false] at hG
        split at hG
        case h_2 => cases hG
        rename_i x hx
        split at hG
        case isFalse => cases hG
        rename_i hc
        obtain ⟨hc1, hc2⟩ := hc
        cases hG
        refine AWP.condF (by simp only [W, eqq, ↓reduceIte, Nat.reduceEqDiff, Nat.reduceLT, Nat.reduceLeDiff, Nat.reduceAdd, Nat.reduceMul, Nat.reduceSub, Nat.reduceBEq, Int.reduceLE, Int.reduceLT, Int.reduceNeg, Int.reduceToNat, Int.reduceEq, Int.reduceBEq, Int.reduceBNe, Nat.reduceBNe, bne_self_eq_false, reduceCtorEq]) (AWP.skip ?_)
        show AWP _ _ _ _ _ _
        have hn : i.toNat < n.length := by omega
        refine AWP.gseq X_ok cl14 [0, 1, 4, 5, 6, 7, 12] (by ((repeat (first | simp only [W, eqq, ↓reduceIte, Nat.reduceEqDiff, Nat.reduceLT, Nat.reduceLeDiff, Nat.reduceAdd, Nat.reduceMul, Nat.reduceSub, Nat.reduceBEq, Int.reduceLE, Int.reduceLT, Int.reduceNeg, Int.reduceToNat, Int.reduceEq, Int.reduceBEq, Int.reduceBNe, Nat.reduceBNe, bne_self_eq_false, reduceCtorEq, hx, hn] | (rewrite [if_pos]; rotate_left; focus (first | omega | (simp only [LN, hx, hn]; omega) | (refine ⟨?_, ?_⟩ <;> (simp only [LN, hx, hn] <;> omega)))) | (rewrite [if_neg]; rotate_left; focus (first | omega | (simp only [LN, hx, hn]; omega) | (refine ⟨?_, ?_⟩ <;> (simp only [LN, hx, hn] <;> omega)))))); with_reducible rfl)) ?_
        refine AWP.gseq X_ok cl14 [0, 1, 4, 5, 6, 7, 12] (by ((repeat (first | simp only [W, eqq, ↓reduceIte, Nat.reduceEqDiff, Nat.reduceLT, Nat.reduceLeDiff, Nat.reduceAdd, Nat.reduceMul, Nat.reduceSub, Nat.reduceBEq, Int.reduceLE, Int.reduceLT, Int.reduceNeg, Int.reduceToNat, Int.reduceEq, Int.reduceBEq, Int.reduceBNe, Nat.reduceBNe, bne_self_eq_false, reduceCtorEq] | (rewrite [if_pos]; rotate_left; focus (first | omega | (simp only [LN]; omega) | (refine ⟨?_, ?_⟩ <;> (simp only [LN] <;> omega)))) | (rewrite [if_neg]; rotate_left; focus (first | omega | (simp only [LN]; omega) | (refine ⟨?_, ?_⟩ <;> (simp only [LN] <;> omega)))))); with_reducible rfl)) ?_
        have e1 : 0 + 128 ≤ x.length := by omega
        have e2 : x.take 128 = x := List.take_of_length_le (by omega)
        exact AWP.ret ⟨.inr rfl, [4], [0, 1, 2, 3], (show okIds 4 [0, 1, 2, 3] by decide), rfl, by simp only [W, eqq, ↓reduceIte, Nat.reduceEqDiff, Nat.reduceLT, Nat.reduceLeDiff, Nat.reduceAdd, Nat.reduceMul, Nat.reduceSub, Nat.reduceBEq, Int.reduceLE, Int.reduceLT, Int.reduceNeg, Int.reduceToNat, Int.reduceEq, Int.reduceBEq, Int.reduceBNe, Nat.reduceBNe, bne_self_eq_false, reduceCtorEq, e1, e2, hc2]⟩

/-- Writes laid over sectors. -/
def layP (s : List (List UInt8)) (p : List (Int × List UInt8)) : List (List UInt8) := p.foldl (fun s w => s.set w.1.toNat w.2) s

theorem layP_len (p : List (Int × List UInt8)) : ∀ s : List (List UInt8), (layP s p).length = s.length := by
  induction p with
  | nil => intro s; rfl
  | cons w p ih => intro s; simp only [layP, List.foldl_cons] at ih ⊢; rw [ih]; simp

theorem layP_snoc (s : List (List UInt8)) (p : List (Int × List UInt8)) (w : Int × List UInt8) : layP s (p ++ [w]) = (layP s p).set w.1.toNat w.2 := by simp [layP, List.foldl_append]

def fitP (n : Nat) (p : List (Int × List UInt8)) : Bool := p.all fun w => decide (0 ≤ w.1) && decide (w.1 < n)

theorem fitP_get {n : Nat} {p : List (Int × List UInt8)} (h : fitP n p = true) {k : Nat} {w : Int × List UInt8} (hk : p[k]? = some w) : 0 ≤ w.1 ∧ w.1 < n := by
  have := List.all_eq_true.1 h w (List.mem_of_getElem? hk)
  simpa using this

def G12 : GFun
  | [], [.t .nilp] => some ([], .t (.int .i64 1))
  | [.bx (.st [.own 1, .own 2, .own 3, .t (.int .i64 l), .t (.bool off)]), .sq 128 s, .sq 128 n, .sq 129 p], [.ptr 0 0 []] =>
    if (spL l off).2.2 = false then some ([dk 1 2 3 (spL l off).1 (spL l off).2.1, .sq 128 s, .sq 128 n, .sq 129 p], .t (.int .i64 7))
    else match asSect s with
      | some s => match asPnd p with
        | some p => if fitP s.length p = true ∧ p.length ≤ 1000000 then some ([dk 1 2 4 (spL l off).1 (spL l off).2.1, .sq 128 (sect (layP s p)), .sq 128 n, .sq 129 (pnd p), .sq 129 []], .t (.int .i64 0)) else none
        | none => none
      | none => none
  | _, _ => none

theorem cl12 : GClOk Try.prog [(26, ⟨[true], G26⟩)] := .cons g26 (.nil _)

theorem sect_get (s : List (List UInt8)) (i : Nat) (h : i < s.length) : (List.map (T.ba 128) s).getD i default = .ba 128 (s.getD i []) := by simp [h]
theorem pnd_get (p : List (Int × List UInt8)) (i : Nat) (w : Int × List UInt8) (h : p[i]? = some w) : (List.map pnd1 p).getD i default = .st [.int .i64 w.1, .ba 128 w.2] := by simp [h, pnd1]

theorem g12 : GCon Try.prog 12 G12 := by
  refine gcon (E := E) (rs := [(2, 25)]) Try.func12 rfl Try.ntmps12 (by kernel_rfl) rfl (by decide) G12 (np := 1) ?_ ?_
  · intro HB xs h; unfold G12; split <;> first | rfl | (simp at h; done)
  intro HB xs H r hG hwf hex
  unfold G12 at hG
  split at hG <;> try (cases hG; done)
  · cases hG
    refine AWP.gseq X_ok cl12 [0, 2, 4, 6, 9, 13, 14, 15, 16] (by ((repeat (first | simp only [W, eqq, ↓reduceIte, Nat.reduceEqDiff, Nat.reduceLT, Nat.reduceLeDiff, Nat.reduceAdd, Nat.reduceMul, Nat.reduceSub, Nat.reduceBEq, Int.reduceLE, Int.reduceLT, Int.reduceNeg, Int.reduceToNat, Int.reduceEq, Int.reduceBEq, Int.reduceBNe, Nat.reduceBNe, bne_self_eq_false, reduceCtorEq, gentry] | (rewrite [if_pos]; rotate_left; focus (first | omega | (simp only [LN, gentry]; omega) | (refine ⟨?_, ?_⟩ <;> (simp only [LN, gentry] <;> omega)))) | (rewrite [if_neg]; rotate_left; focus (first | omega | (simp only [LN, gentry]; omega) | (refine ⟨?_, ?_⟩ <;> (simp only [LN, gentry] <;> omega)))))); with_reducible rfl)) ?_
    refine AWP.seq ?_
    refine AWP.gseq X_ok cl12 [0, 2, 4, 6, 9, 13, 14, 15, 16] (by ((repeat (first | simp only [W, eqq, ↓reduceIte, Nat.reduceEqDiff, Nat.reduceLT, Nat.reduceLeDiff, Nat.reduceAdd, Nat.reduceMul, Nat.reduceSub, Nat.reduceBEq, Int.reduceLE, Int.reduceLT, Int.reduceNeg, Int.reduceToNat, Int.reduceEq, Int.reduceBEq, Int.reduceBNe, Nat.reduceBNe, bne_self_eq_false, reduceCtorEq] | (rewrite [if_pos]; rotate_left; focus (first | omega | (simp only [LN]; omega) | (refine ⟨?_, ?_⟩ <;> (simp only [LN] <;> omega)))) | (rewrite [if_neg]; rotate_left; focus (first | omega | (simp only [LN]; omega) | (refine ⟨?_, ?_⟩ <;> (simp only [LN] <;> omega)))))); with_reducible rfl)) ?_
    refine AWP.condT (by simp only [W, eqq, ↓reduceIte, Nat.reduceEqDiff, Nat.reduceLT, Nat.reduceLeDiff, Nat.reduceAdd, Nat.reduceMul, Nat.reduceSub, Nat.reduceBEq, Int.reduceLE, Int.reduceLT, Int.reduceNeg, Int.reduceToNat, Int.reduceEq, Int.reduceBEq, Int.reduceBNe, Nat.reduceBNe, bne_self_eq_false, reduceCtorEq]) ?_
    refine AWP.gseq X_ok cl12 [0, 2, 4, 6, 9, 13, 14, 15, 16] (by ((repeat (first | simp only [W, eqq, ↓reduceIte, Nat.reduceEqDiff, Nat.reduceLT, Nat.reduceLeDiff, Nat.reduceAdd, Nat.reduceMul, Nat.reduceSub, Nat.reduceBEq, Int.reduceLE, Int.reduceLT, Int.reduceNeg, Int.reduceToNat, Int.reduceEq, Int.reduceBEq, Int.reduceBNe, Nat.reduceBNe, bne_self_eq_false, reduceCtorEq] | (rewrite [if_pos]; rotate_left; focus (first | omega | (simp only [LN]; omega) | (refine ⟨?_, ?_⟩ <;> (simp only [LN] <;> omega)))) | (rewrite [if_neg]; rotate_left; focus (first | omega | (simp only [LN]; omega) | (refine ⟨?_, ?_⟩ <;> (simp only [LN] <;> omega)))))); with_reducible rfl)) ?_
    exact AWP.ret ⟨.inr rfl, [], [], (show okIds 0 [] by decide), rfl, rfl⟩
  · rename_i l off s n p
    refine AWP.gseq X_ok cl12 [0, 2, 4, 6, 9, 13, 14, 15, 16] (by ((repeat (first | simp only [W, eqq, ↓reduceIte, Nat.reduceEqDiff, Nat.reduceLT, Nat.reduceLeDiff, Nat.reduceAdd, Nat.reduceMul, Nat.reduceSub, Nat.reduceBEq, Int.reduceLE, Int.reduceLT, Int.reduceNeg, Int.reduceToNat, Int.reduceEq, Int.reduceBEq, Int.reduceBNe, Nat.reduceBNe, bne_self_eq_false, reduceCtorEq, gentry] | (rewrite [if_pos]; rotate_left; focus (first | omega | (simp only [LN, gentry]; omega) | (refine ⟨?_, ?_⟩ <;> (simp only [LN, gentry] <;> omega)))) | (rewrite [if_neg]; rotate_left; focus (first | omega | (simp only [LN, gentry]; omega) | (refine ⟨?_, ?_⟩ <;> (simp only [LN, gentry] <;> omega)))))); with_reducible rfl)) ?_
    refine AWP.seq ?_
    refine AWP.gseq X_ok cl12 [0, 2, 4, 6, 9, 13, 14, 15, 16] (by ((repeat (first | simp only [W, eqq, ↓reduceIte, Nat.reduceEqDiff, Nat.reduceLT, Nat.reduceLeDiff, Nat.reduceAdd, Nat.reduceMul, Nat.reduceSub, Nat.reduceBEq, Int.reduceLE, Int.reduceLT, Int.reduceNeg, Int.reduceToNat, Int.reduceEq, Int.reduceBEq, Int.reduceBNe, Nat.reduceBNe, bne_self_eq_false, reduceCtorEq] | (rewrite [if_pos]; rotate_left; focus (first | omega | (simp only [LN]; omega) | (refine ⟨?_, ?_⟩ <;> (simp only [LN] <;> omega)))) | (rewrite [if_neg]; rotate_left; focus (first | omega | (simp only [LN]; omega) | (refine ⟨?_, ?_⟩ <;> (simp only [LN] <;> omega)))))); with_reducible rfl)) ?_
    refine AWP.condF (by simp only [W, eqq, ↓reduceIte, Nat.reduceEqDiff, Nat.reduceLT, Nat.reduceLeDiff, Nat.reduceAdd, Nat.reduceMul, Nat.reduceSub, Nat.reduceBEq, Int.reduceLE, Int.reduceLT, Int.reduceNeg, Int.reduceToNat, Int.reduceEq, Int.reduceBEq, Int.reduceBNe, Nat.reduceBNe, bne_self_eq_false, reduceCtorEq]) (AWP.skip ?_)
    show AWP _ _ _ _ _ _
    refine AWP.seq ?_
    generalize hsp : spL l off = sp at hG
    obtain ⟨l', off', ok⟩ := sp
    cases ok
    case false =>
      simp only [if_true] at hG
      cases hG
      refine AWP.gseq X_ok cl12 [0, 2, 4, 6, 9, 13, 14, 15, 16] (by ((repeat (first | simp only [W, eqq, ↓reduceIte, Nat.reduceEqDiff, Nat.reduceLT, Nat.reduceLeDiff, Nat.reduceAdd, Nat.reduceMul, Nat.reduceSub, Nat.reduceBEq, Int.reduceLE, Int.reduceLT, Int.reduceNeg, Int.reduceToNat, Int.reduceEq, Int.reduceBEq, Int.reduceBNe, Nat.reduceBNe, bne_self_eq_false, reduceCtorEq, G26, hsp] | (rewrite [if_pos]; rotate_left; focus (first | omega | (simp only [LN, G26, hsp]; omega) | (refine ⟨?_, ?_⟩ <;> (simp only [LN, G26, hsp] <;> omega)))) | (rewrite [if_neg]; rotate_left; focus (first | omega | (simp only [LN, G26, hsp]; omega) | (refine ⟨?_, ?_⟩ <;> (simp only [LN, G26, hsp] <;> omega)))))); with_reducible rfl)) ?_
      refine AWP.condT (by simp only [W, eqq, ↓reduceIte, Nat.reduceEqDiff, Nat.reduceLT, Nat.reduceLeDiff, Nat.reduceAdd, Nat.reduceMul, Nat.reduceSub, Nat.reduceBEq, Int.reduceLE, Int.reduceLT, Int.reduceNeg, Int.reduceToNat, Int.reduceEq, Int.reduceBEq, Int.reduceBNe, Nat.reduceBNe, bne_self_eq_false, reduceCtorEq]) ?_
      refine AWP.gseq X_ok cl12 [0, 2, 4, 6, 9, 13, 14, 15, 16] (by ((repeat (first | simp only [W, eqq, ↓reduceIte, Nat.reduceEqDiff, Nat.reduceLT, Nat.reduceLeDiff, Nat.reduceAdd, Nat.reduceMul, Nat.reduceSub, Nat.reduceBEq, Int.reduceLE, Int.reduceLT, Int.reduceNeg, Int.reduceToNat, Int.reduceEq, Int.reduceBEq, Int.reduceBNe, Nat.reduceBNe, bne_self_eq_false, reduceCtorEq] | (rewrite [if_pos]; rotate_left; focus (first | omega | (simp only [LN]; omega) | (refine ⟨?_, ?_⟩ <;> (simp only [LN] <;> omega)))) | (rewrite [if_neg]; rotate_left; focus (first | omega | (simp only [LN]; omega) | (refine ⟨?_, ?_⟩ <;> (simp only [LN] <;> omega)))))); with_reducible rfl)) ?_
      exact AWP.ret ⟨.inr rfl, [], [0, 1, 2, 3], (show okIds 4 [0, 1, 2, 3] by decide), rfl, rfl⟩
    case true =>
      simp only [Bool.true_eq_false, if_false] at hG
      split at hG
      case h_2 => cases hG
      rename_i s' hs'
      split at hG
      case h_2 => cases hG
      rename_i p' hp'
      split at hG
      case isFalse => cases hG
      rename_i hc
      obtain ⟨hc1, hc2⟩ := hc
      cases hG
      obtain rfl := asSect_inv hs'
      obtain rfl := asPnd_inv hp'
      refine AWP.gseq X_ok cl12 [0, 2, 4, 6, 9, 13, 14, 15, 16] (by ((repeat (first | simp only [W, eqq, ↓reduceIte, Nat.reduceEqDiff, Nat.reduceLT, Nat.reduceLeDiff, Nat.reduceAdd, Nat.reduceMul, Nat.reduceSub, Nat.reduceBEq, Int.reduceLE, Int.reduceLT, Int.reduceNeg, Int.reduceToNat, Int.reduceEq, Int.reduceBEq, Int.reduceBNe, Nat.reduceBNe, bne_self_eq_false, reduceCtorEq, G26, hsp] | (rewrite [if_pos]; rotate_left; focus (first | omega | (simp only [LN, G26, hsp]; omega) | (refine ⟨?_, ?_⟩ <;> (simp only [LN, G26, hsp] <;> omega)))) | (rewrite [if_neg]; rotate_left; focus (first | omega | (simp only [LN, G26, hsp]; omega) | (refine ⟨?_, ?_⟩ <;> (simp only [LN, G26, hsp] <;> omega)))))); with_reducible rfl)) ?_
      refine AWP.condF (by simp only [W, eqq, ↓reduceIte, Nat.reduceEqDiff, Nat.reduceLT, Nat.reduceLeDiff, Nat.reduceAdd, Nat.reduceMul, Nat.reduceSub, Nat.reduceBEq, Int.reduceLE, Int.reduceLT, Int.reduceNeg, Int.reduceToNat, Int.reduceEq, Int.reduceBEq, Int.reduceBNe, Nat.reduceBNe, bne_self_eq_false, reduceCtorEq]) (AWP.skip ?_)
      show AWP _ _ _ _ _ _
      refine AWP.seq ?_
      refine AWP.gseq X_ok cl12 [0, 2, 4, 6, 9, 13, 14, 15, 16] (by ((repeat (first | simp only [W, eqq, ↓reduceIte, Nat.reduceEqDiff, Nat.reduceLT, Nat.reduceLeDiff, Nat.reduceAdd, Nat.reduceMul, Nat.reduceSub, Nat.reduceBEq, Int.reduceLE, Int.reduceLT, Int.reduceNeg, Int.reduceToNat, Int.reduceEq, Int.reduceBEq, Int.reduceBNe, Nat.reduceBNe, bne_self_eq_false, reduceCtorEq] | (rewrite [if_pos]; rotate_left; focus (first | omega | (simp only [LN]; omega) | (refine ⟨?_, ?_⟩ <;> (simp only [LN] <;> omega)))) | (rewrite [if_neg]; rotate_left; focus (first | omega | (simp only [LN]; omega) | (refine ⟨?_, ?_⟩ <;> (simp only [LN] <;> omega)))))); with_reducible rfl)) ?_
      refine AWP.block ?_
      refine AWP.loop (G := { k : Nat // k ≤ p'.length }) (fun k => ⟨[(0, .ptr 0 0 []), (13, .own 3), (14, .t (.int .i64 (p'.length : Int))), (15, .t (.int .i64 (k.1 : Int)))], [dk 1 2 3 l' off', .sq 128 (sect (layP s' (p'.take k.1))), .sq 128 n, .sq 129 (pnd p')]⟩) (fun k => p'.length - k.1) ⟨0, by omega⟩ (Weak.to [0, 13, 14, 15] [0, 1, 2, 3] (show okIds 4 [0, 1, 2, 3] by decide) (by simp only [W, eqq, ↓reduceIte, Nat.reduceEqDiff, Nat.reduceLT, Nat.reduceLeDiff, Nat.reduceAdd, Nat.reduceMul, Nat.reduceSub, Nat.reduceBEq, Int.reduceLE, Int.reduceLT, Int.reduceNeg, Int.reduceToNat, Int.reduceEq, Int.reduceBEq, Int.reduceBNe, Nat.reduceBNe, bne_self_eq_false, reduceCtorEq, layP, List.foldl_nil])) ?_
      intro ⟨k, hk⟩
      refine AWP.gseq X_ok cl12 [0, 2, 4, 6, 9, 13, 14, 15, 16] (by ((repeat (first | simp only [W, eqq, ↓reduceIte, Nat.reduceEqDiff, Nat.reduceLT, Nat.reduceLeDiff, Nat.reduceAdd, Nat.reduceMul, Nat.reduceSub, Nat.reduceBEq, Int.reduceLE, Int.reduceLT, Int.reduceNeg, Int.reduceToNat, Int.reduceEq, Int.reduceBEq, Int.reduceBNe, Nat.reduceBNe, bne_self_eq_false, reduceCtorEq] | (rewrite [if_pos]; rotate_left; focus (first | omega | (simp only [LN]; omega) | (refine ⟨?_, ?_⟩ <;> (simp only [LN] <;> omega)))) | (rewrite [if_neg]; rotate_left; focus (first | omega | (simp only [LN]; omega) | (refine ⟨?_, ?_⟩ <;> (simp only [LN] <;> omega)))))); with_reducible rfl)) ?_
      by_cases hlt : (k : Int) < (p'.length : Int)
      · refine AWP.seq (AWP.condT (by simp only [W, eqq, ↓reduceIte, Nat.reduceEqDiff, Nat.reduceLT, Nat.reduceLeDiff, Nat.reduceAdd, Nat.reduceMul, Nat.reduceSub, Nat.reduceBEq, Int.reduceLE, Int.reduceLT, Int.reduceNeg, Int.reduceToNat, Int.reduceEq, Int.reduceBEq, Int.reduceBNe, Nat.reduceBNe, bne_self_eq_false, reduceCtorEq, hlt]) (AWP.skip ?_))
        show AWP _ _ _ _ _ _
        refine AWP.seq (AWP.block ?_)
        have hkl : k < p'.length := by omega
        obtain ⟨w, hw⟩ : ∃ w, p'[k]? = some w := ⟨p'[k], List.getElem?_eq_getElem hkl⟩
        obtain ⟨w1, w2⟩ := w
        have hget := pnd_get p' k _ hw
        obtain ⟨f1, f2⟩ := fitP_get hc1 hw
        simp only at f1 f2 hget
        have hlen : (layP s' (p'.take k)).length = s'.length := layP_len _ _
        have hk' : k < (List.map pnd1 p').length := by simpa using hkl
        refine AWP.gseq X_ok cl12 [0, 2, 4, 6, 9, 13, 14, 15, 16] (by ((repeat (first | simp only [W, eqq, ↓reduceIte, Nat.reduceEqDiff, Nat.reduceLT, Nat.reduceLeDiff, Nat.reduceAdd, Nat.reduceMul, Nat.reduceSub, Nat.reduceBEq, Int.reduceLE, Int.reduceLT, Int.reduceNeg, Int.reduceToNat, Int.reduceEq, Int.reduceBEq, Int.reduceBNe, Nat.reduceBNe, bne_self_eq_false, reduceCtorEq, hget, hkl] | (rewrite [if_pos]; rotate_left; focus (first | omega | (simp only [LN, hget, hkl]; omega) | (refine ⟨?_, ?_⟩ <;> (simp only [LN, hget, hkl] <;> omega)))) | (rewrite [if_neg]; rotate_left; focus (first | omega | (simp only [LN, hget, hkl]; omega) | (refine ⟨?_, ?_⟩ <;> (simp only [LN, hget, hkl] <;> omega)))))); with_reducible rfl)) ?_
        have hn : w1.toNat < s'.length := by omega
        have hsg := sect_get (layP s' (p'.take k)) w1.toNat (by rw [hlen]; omega)
        refine AWP.gdraw X_ok cl12 [0, 2, 4, 6, 9, 13, 14, 15, 16] mix [⟨0, [0], []⟩, ⟨0, [19], []⟩, ⟨0, [20], []⟩, ⟨1, [21], []⟩, ⟨0, [4], []⟩, ⟨1, [23], []⟩, ⟨0, [4], []⟩, ⟨1, [25], []⟩, ⟨1, [22, 24], [3, 5, 7]⟩, ⟨2, [26, 27], [3, 5, 7, 8]⟩] (by kernel_rfl) (by ((repeat (first | simp only [W, eqq, ↓reduceIte, Nat.reduceEqDiff, Nat.reduceLT, Nat.reduceLeDiff, Nat.reduceAdd, Nat.reduceMul, Nat.reduceSub, Nat.reduceBEq, Int.reduceLE, Int.reduceLT, Int.reduceNeg, Int.reduceToNat, Int.reduceEq, Int.reduceBEq, Int.reduceBNe, Nat.reduceBNe, bne_self_eq_false, reduceCtorEq, hsg, hn, hlen] | (rewrite [if_pos]; rotate_left; focus (first | omega | (simp only [LN, hsg, hn, hlen]; omega) | (refine ⟨?_, ?_⟩ <;> (simp only [LN, hsg, hn, hlen] <;> omega)))) | (rewrite [if_neg]; rotate_left; focus (first | omega | (simp only [LN, hsg, hn, hlen]; omega) | (refine ⟨?_, ?_⟩ <;> (simp only [LN, hsg, hn, hlen] <;> omega)))))); with_reducible rfl)) ?_
        show AWP _ _ _ _ _ _
        have hk1 : IntKind.i64.wrap ((k : Int) + 1) = ((k + 1 : Nat) : Int) := by rw [wrap_i64 (by omega) (by omega)]; omega
        refine AWP.greg X_ok cl12 [0, 2, 4, 6, 9, 13, 14, 15, 16] (by ((repeat (first | simp only [W, eqq, ↓reduceIte, Nat.reduceEqDiff, Nat.reduceLT, Nat.reduceLeDiff, Nat.reduceAdd, Nat.reduceMul, Nat.reduceSub, Nat.reduceBEq, Int.reduceLE, Int.reduceLT, Int.reduceNeg, Int.reduceToNat, Int.reduceEq, Int.reduceBEq, Int.reduceBNe, Nat.reduceBNe, bne_self_eq_false, reduceCtorEq, hk1] | (rewrite [if_pos]; rotate_left; focus (first | omega | (simp only [LN, hk1]; omega) | (refine ⟨?_, ?_⟩ <;> (simp only [LN, hk1] <;> omega)))) | (rewrite [if_neg]; rotate_left; focus (first | omega | (simp only [LN, hk1]; omega) | (refine ⟨?_, ?_⟩ <;> (simp only [LN, hk1] <;> omega)))))); with_reducible rfl)) ?_
        have hstep : List.map (T.ba 128) (layP s' (p'.take (k + 1))) = (List.map (T.ba 128) (layP s' (p'.take k))).set w1.toNat (.ba 128 w2) := by
          rw [List.take_add_one, hw]
          simp only [Option.toList, layP_snoc, List.map_set]
        exact ⟨⟨k + 1, by omega⟩, Weak.to [0, 13, 14, 15] [0, 1, 2, 3] (show okIds 4 [0, 1, 2, 3] by decide) (by simp only [W, eqq, ↓reduceIte, Nat.reduceEqDiff, Nat.reduceLT, Nat.reduceLeDiff, Nat.reduceAdd, Nat.reduceMul, Nat.reduceSub, Nat.reduceBEq, Int.reduceLE, Int.reduceLT, Int.reduceNeg, Int.reduceToNat, Int.reduceEq, Int.reduceBEq, Int.reduceBNe, Nat.reduceBNe, bne_self_eq_false, reduceCtorEq, hstep]), by simp only; omega⟩
      · refine AWP.seq (AWP.condF (by simp only [W, eqq, ↓reduceIte, Nat.reduceEqDiff, Nat.reduceLT, Nat.reduceLeDiff, Nat.reduceAdd, Nat.reduceMul, Nat.reduceSub, Nat.reduceBEq, Int.reduceLE, Int.reduceLT, Int.reduceNeg, Int.reduceToNat, Int.reduceEq, Int.reduceBEq, Int.reduceBNe, Nat.reduceBNe, bne_self_eq_false, reduceCtorEq, hlt]) (AWP.exit ?_))
        obtain rfl : k = p'.length := by omega
        show AWP _ _ _ _ _ _
        have e : p'.take p'.length = p' := List.take_length
        refine AWP.gseq X_ok cl12 [0, 2, 4, 6, 9, 13, 14, 15, 16] (by ((repeat (first | simp only [W, eqq, ↓reduceIte, Nat.reduceEqDiff, Nat.reduceLT, Nat.reduceLeDiff, Nat.reduceAdd, Nat.reduceMul, Nat.reduceSub, Nat.reduceBEq, Int.reduceLE, Int.reduceLT, Int.reduceNeg, Int.reduceToNat, Int.reduceEq, Int.reduceBEq, Int.reduceBNe, Nat.reduceBNe, bne_self_eq_false, reduceCtorEq, e] | (rewrite [if_pos]; rotate_left; focus (first | omega | (simp only [LN, e]; omega) | (refine ⟨?_, ?_⟩ <;> (simp only [LN, e] <;> omega)))) | (rewrite [if_neg]; rotate_left; focus (first | omega | (simp only [LN, e]; omega) | (refine ⟨?_, ?_⟩ <;> (simp only [LN, e] <;> omega)))))); with_reducible rfl)) ?_
        refine AWP.weak (Weak.ownBx (v' := _) 0 [2] 2 (.sq 129 []) rfl (by simp only [W, eqq, ↓reduceIte, Nat.reduceEqDiff, Nat.reduceLT, Nat.reduceLeDiff, Nat.reduceAdd, Nat.reduceMul, Nat.reduceSub, Nat.reduceBEq, Int.reduceLE, Int.reduceLT, Int.reduceNeg, Int.reduceToNat, Int.reduceEq, Int.reduceBEq, Int.reduceBNe, Nat.reduceBNe, bne_self_eq_false, reduceCtorEq]) (by simp only [W, eqq, ↓reduceIte, Nat.reduceEqDiff, Nat.reduceLT, Nat.reduceLeDiff, Nat.reduceAdd, Nat.reduceMul, Nat.reduceSub, Nat.reduceBEq, Int.reduceLE, Int.reduceLT, Int.reduceNeg, Int.reduceToNat, Int.reduceEq, Int.reduceBEq, Int.reduceBNe, Nat.reduceBNe, bne_self_eq_false, reduceCtorEq]) (by simp only [W, eqq, ↓reduceIte, Nat.reduceEqDiff, Nat.reduceLT, Nat.reduceLeDiff, Nat.reduceAdd, Nat.reduceMul, Nat.reduceSub, Nat.reduceBEq, Int.reduceLE, Int.reduceLT, Int.reduceNeg, Int.reduceToNat, Int.reduceEq, Int.reduceBEq, Int.reduceBNe, Nat.reduceBNe, bne_self_eq_false, reduceCtorEq]; rfl) (.inr ⟨_, by decide, rfl⟩)) ?_
        refine AWP.gseq X_ok cl12 [0, 2, 4, 6, 9, 13, 14, 15, 16] (by ((repeat (first | simp only [W, eqq, ↓reduceIte, Nat.reduceEqDiff, Nat.reduceLT, Nat.reduceLeDiff, Nat.reduceAdd, Nat.reduceMul, Nat.reduceSub, Nat.reduceBEq, Int.reduceLE, Int.reduceLT, Int.reduceNeg, Int.reduceToNat, Int.reduceEq, Int.reduceBEq, Int.reduceBNe, Nat.reduceBNe, bne_self_eq_false, reduceCtorEq] | (rewrite [if_pos]; rotate_left; focus (first | omega | (simp only [LN]; omega) | (refine ⟨?_, ?_⟩ <;> (simp only [LN] <;> omega)))) | (rewrite [if_neg]; rotate_left; focus (first | omega | (simp only [LN]; omega) | (refine ⟨?_, ?_⟩ <;> (simp only [LN] <;> omega)))))); with_reducible rfl)) ?_
        exact AWP.ret ⟨.inr rfl, [], [0, 1, 2, 3, 4], (show okIds 4 [0, 1, 2, 3, 4] by decide), rfl, rfl⟩

end Go.Fw

end

section
/- Chapter 27: a crash. -/
namespace Go.Fw
open Go Go.Proofs
set_option linter.unusedVariables false
set_option linter.unusedSimpArgs false

def asInts : List T → Option (List Int)
  | [] => some []
  | .int .i64 k :: r => match asInts r with
    | some ks => some (k :: ks)
    | none => none
  | _ => none

theorem asInts_map (l : List Int) : asInts (l.map (T.int .i64)) = some l := by
  induction l with
  | nil => rfl
  | cons x l ih => simp only [List.map_cons, asInts, ih]
theorem asInts_inv : ∀ {xs : List T} {l : List Int}, asInts xs = some l → xs = l.map (T.int .i64)
  | [], l, h => by cases h; rfl
  | x :: r, l, h => by
    unfold asInts at h
    split at h
    · rename_i he; cases he
    · rename_i he
      cases he
      split at h
      · rename_i ls hls
        cases h
        rw [asInts_inv hls]; rfl
      · cases h
    · cases h

/-- How many bytes a crash keeps. -/
def keepN (k : Int) : Nat := (if 128 < (if 0 > k then 0 else k) then 128 else (if 0 > k then 0 else k)).toNat

theorem keepN_le (k : Int) : keepN k ≤ 128 := by unfold keepN; split <;> split at * <;> omega
theorem keepN_eq (k : Int) : (if 128 < (if 0 > k then 0 else k) then 128 else (if 0 > k then 0 else k)) = ((keepN k : Nat) : Int) := by unfold keepN; split <;> split at * <;> omega

def keep1 (s : List (List UInt8)) (x : (Int × List UInt8) × Int) : List (List UInt8) := s.set x.1.1.toNat (x.1.2.take (keepN x.2) ++ (s.getD x.1.1.toNat []).drop (keepN x.2))
/-- Beginnings of writes laid over sectors. -/
def layK (s : List (List UInt8)) (p : List ((Int × List UInt8) × Int)) : List (List UInt8) := p.foldl keep1 s
/-- Sectors taken over where there was a write. -/
def over1 (t : List (List UInt8)) (n : List (List UInt8)) (w : Int × List UInt8) : List (List UInt8) := n.set w.1.toNat (t.getD w.1.toNat [])
def layO (t n : List (List UInt8)) (p : List (Int × List UInt8)) : List (List UInt8) := p.foldl (over1 t) n

theorem layK_len (p : List ((Int × List UInt8) × Int)) : ∀ s : List (List UInt8), (layK s p).length = s.length := by
  induction p with
  | nil => intro s; rfl
  | cons w p ih => intro s; simp only [layK, List.foldl_cons] at ih ⊢; rw [ih]; simp [keep1]
theorem layO_len (t : List (List UInt8)) (p : List (Int × List UInt8)) : ∀ s : List (List UInt8), (layO t s p).length = s.length := by
  induction p with
  | nil => intro s; rfl
  | cons w p ih => intro s; simp only [layO, List.foldl_cons] at ih ⊢; rw [ih]; simp [over1]
theorem layK_snoc (s : List (List UInt8)) (p : List ((Int × List UInt8) × Int)) (w : (Int × List UInt8) × Int) : layK s (p ++ [w]) = keep1 (layK s p) w := by simp [layK, List.foldl_append]
theorem layO_snoc (t s : List (List UInt8)) (p : List (Int × List UInt8)) (w : Int × List UInt8) : layO t s (p ++ [w]) = over1 t (layO t s p) w := by simp [layO, List.foldl_append]

/-- All of a sector's length. -/
def full128 (s : List (List UInt8)) : Bool := s.all fun x => x.length == 128
theorem full128_get {s : List (List UInt8)} (h : full128 s = true) {i : Nat} (hi : i < s.length) : (s.getD i []).length = 128 := by
  have := List.all_eq_true.1 h s[i] (List.getElem_mem hi)
  simp [hi]; simpa using this
theorem full128_set {s : List (List UInt8)} (h : full128 s = true) (i : Nat) {x : List UInt8} (hx : x.length = 128) : full128 (s.set i x) = true := by
  refine List.all_eq_true.2 fun y hy => ?_
  rcases List.mem_or_eq_of_mem_set hy with h1 | h1
  · exact List.all_eq_true.1 h y h1
  · rw [h1]; simpa using hx

theorem layK_full (p : List ((Int × List UInt8) × Int)) : ∀ s : List (List UInt8), full128 s = true → (∀ x ∈ p, x.1.2.length = 128 ∧ x.1.1.toNat < s.length) → full128 (layK s p) = true := by
  induction p with
  | nil => intro s h _; exact h
  | cons w p ih =>
    intro s h hp
    simp only [layK, List.foldl_cons] at ih ⊢
    obtain ⟨h1, h2⟩ := hp w (by simp)
    refine ih _ (full128_set h _ ?_) (fun x hx => ?_)
    · have := full128_get h h2
      have := keepN_le w.2
      simp only [List.length_append, List.length_take, List.length_drop]; omega
    · have := hp x (by simp [hx])
      simpa [keep1] using this

def full128P (p : List (Int × List UInt8)) : Bool := p.all fun x => x.2.length == 128
theorem full128P_get {p : List (Int × List UInt8)} (h : full128P p = true) {k : Nat} {w : Int × List UInt8} (hk : p[k]? = some w) : w.2.length = 128 := by
  have := List.all_eq_true.1 h w (List.mem_of_getElem? hk)
  simpa using this

def G13 : GFun
  | [], [.t .nilp, .t (.sq 1 ks)] => some ([], .tup [])
  | [.bx (.st [.own 1, .own 2, .own 3, .t (.int .i64 l), .t (.bool off)]), .sq 128 s, .sq 128 n, .sq 129 p], [.ptr 0 0 [], .t (.sq 1 ks)] =>
    match asSect s with
    | some s => match asSect n with
      | some n => match asPnd p with
        | some p => match asInts ks with
          | some ks => if (fitP s.length p && full128 s && full128P p) = true ∧ n.length = s.length ∧ p.length ≤ 1000000 then
              some ([dk 1 2 4 (-1) false, .sq 128 (sect (layK s (p.zip ks))), .sq 128 (sect (layO (layK s (p.zip ks)) n p)), .sq 129 (pnd p), .sq 129 []], .tup []) else none
          | none => none
        | none => none
      | none => none
    | none => none
  | _, _ => none

theorem cl13 : GClOk Try.prog [] := GClOk.nil _

theorem g13 : GCon Try.prog 13 G13 := by
  refine gcon (E := E) (rs := []) Try.func13 rfl Try.ntmps13 (by kernel_rfl) rfl (by decide) G13 (np := 2) ?_ ?_
  · intro HB xs h; unfold G13; split <;> first | rfl | (simp at h; done)
  intro HB xs H r hG hwf hex
  unfold G13 at hG
  split at hG <;> try (cases hG; done)
  · cases hG
    refine AWP.seq ?_
    refine AWP.gseq X_ok cl13 [0, 1, 4, 5, 6, 8, 10, 18, 19, 20, 52, 53, 54, 55] (by ((repeat (first | simp only [W, eqq, ↓reduceIte, Nat.reduceEqDiff, Nat.reduceLT, Nat.reduceLeDiff, Nat.reduceAdd, Nat.reduceMul, Nat.reduceSub, Nat.reduceBEq, Int.reduceLE, Int.reduceLT, Int.reduceNeg, Int.reduceToNat, Int.reduceEq, Int.reduceBEq, Int.reduceBNe, Nat.reduceBNe, bne_self_eq_false, reduceCtorEq, gentry] | (rewrite [if_pos]; rotate_left; focus (first | omega | (simp only [LN, gentry]; omega) | (refine ⟨?_, ?_⟩ <;> (simp only [LN, gentry] <;> omega)))) | (rewrite [if_neg]; rotate_left; focus (first | omega | (simp only [LN, gentry]; omega) | (refine ⟨?_, ?_⟩ <;> (simp only [LN, gentry] <;> omega)))))); with_reducible rfl)) ?_
    refine AWP.condT (by simp only [W, eqq, ↓reduceIte, Nat.reduceEqDiff, Nat.reduceLT, Nat.reduceLeDiff, Nat.reduceAdd, Nat.reduceMul, Nat.reduceSub, Nat.reduceBEq, Int.reduceLE, Int.reduceLT, Int.reduceNeg, Int.reduceToNat, Int.reduceEq, Int.reduceBEq, Int.reduceBNe, Nat.reduceBNe, bne_self_eq_false, reduceCtorEq]) ?_
    exact AWP.ret ⟨.inr rfl, [], [], (show okIds 0 [] by decide), rfl, rfl⟩
  · rename_i l off s n p ks
    split at hG
    case h_2 => cases hG
    rename_i s' hs'
    split at hG
    case h_2 => cases hG
    rename_i n' hn'
    split at hG
    case h_2 => cases hG
    rename_i p' hp'
    split at hG
    case h_2 => cases hG
    rename_i ks' hks'
    split at hG
    case isFalse => cases hG
    rename_i hc
    obtain ⟨hc0, hc1, hc2⟩ := hc
    simp only [Bool.and_eq_true] at hc0
    obtain ⟨⟨hc3, hc4⟩, hc5⟩ := hc0
    cases hG
    obtain rfl := asSect_inv hs'
    obtain rfl := asSect_inv hn'
    obtain rfl := asPnd_inv hp'
    obtain rfl := asInts_inv hks'
    have hkw := hwf _ (List.mem_cons_of_mem _ (List.mem_cons_self))
    simp only [AV.wf, T.wf, List.length_map, maxLen] at hkw
    refine AWP.seq ?_
    refine AWP.gseq X_ok cl13 [0, 1, 4, 5, 6, 8, 10, 18, 19, 20, 52, 53, 54, 55] (by ((repeat (first | simp only [W, eqq, ↓reduceIte, Nat.reduceEqDiff, Nat.reduceLT, Nat.reduceLeDiff, Nat.reduceAdd, Nat.reduceMul, Nat.reduceSub, Nat.reduceBEq, Int.reduceLE, Int.reduceLT, Int.reduceNeg, Int.reduceToNat, Int.reduceEq, Int.reduceBEq, Int.reduceBNe, Nat.reduceBNe, bne_self_eq_false, reduceCtorEq, gentry] | (rewrite [if_pos]; rotate_left; focus (first | omega | (simp only [LN, gentry]; omega) | (refine ⟨?_, ?_⟩ <;> (simp only [LN, gentry] <;> omega)))) | (rewrite [if_neg]; rotate_left; focus (first | omega | (simp only [LN, gentry]; omega) | (refine ⟨?_, ?_⟩ <;> (simp only [LN, gentry] <;> omega)))))); with_reducible rfl)) ?_
    refine AWP.condF (by simp only [W, eqq, ↓reduceIte, Nat.reduceEqDiff, Nat.reduceLT, Nat.reduceLeDiff, Nat.reduceAdd, Nat.reduceMul, Nat.reduceSub, Nat.reduceBEq, Int.reduceLE, Int.reduceLT, Int.reduceNeg, Int.reduceToNat, Int.reduceEq, Int.reduceBEq, Int.reduceBNe, Nat.reduceBNe, bne_self_eq_false, reduceCtorEq]) (AWP.skip ?_)
    show AWP _ _ _ _ _ _
    refine AWP.seq ?_
    have hM : (if (p'.length : Int) < (ks'.length : Int) then (p'.length : Int) else (ks'.length : Int)) = ((min ks'.length p'.length : Nat) : Int) := by split <;> omega
    have hzl : (p'.zip ks').length = min ks'.length p'.length := by rw [List.length_zip]; omega
    refine AWP.gseq X_ok cl13 [0, 1, 4, 5, 6, 8, 10, 18, 19, 20, 52, 53, 54, 55] (by ((repeat (first | simp only [W, eqq, ↓reduceIte, Nat.reduceEqDiff, Nat.reduceLT, Nat.reduceLeDiff, Nat.reduceAdd, Nat.reduceMul, Nat.reduceSub, Nat.reduceBEq, Int.reduceLE, Int.reduceLT, Int.reduceNeg, Int.reduceToNat, Int.reduceEq, Int.reduceBEq, Int.reduceBNe, Nat.reduceBNe, bne_self_eq_false, reduceCtorEq, hM] | (rewrite [if_pos]; rotate_left; focus (first | omega | (simp only [LN, hM]; omega) | (refine ⟨?_, ?_⟩ <;> (simp only [LN, hM] <;> omega)))) | (rewrite [if_neg]; rotate_left; focus (first | omega | (simp only [LN, hM]; omega) | (refine ⟨?_, ?_⟩ <;> (simp only [LN, hM] <;> omega)))))); with_reducible rfl)) ?_
    refine AWP.block ?_
    refine AWP.loop (G := { k : Nat // k ≤ min ks'.length p'.length }) (fun k => ⟨[(0, .ptr 0 0 []), (1, .t (.sq 1 (ks'.map (T.int .i64)))), (18, .t (.int .i64 ((min ks'.length p'.length : Nat) : Int))), (19, .t (.int .i64 (k.1 : Int)))], [dk 1 2 3 l off, .sq 128 (sect (layK s' ((p'.zip ks').take k.1))), .sq 128 (sect n'), .sq 129 (pnd p')]⟩) (fun k => min ks'.length p'.length - k.1) ⟨0, by omega⟩ (Weak.to [0, 1, 18, 19] [0, 1, 2, 3] (show okIds 4 [0, 1, 2, 3] by decide) (by simp only [W, eqq, ↓reduceIte, Nat.reduceEqDiff, Nat.reduceLT, Nat.reduceLeDiff, Nat.reduceAdd, Nat.reduceMul, Nat.reduceSub, Nat.reduceBEq, Int.reduceLE, Int.reduceLT, Int.reduceNeg, Int.reduceToNat, Int.reduceEq, Int.reduceBEq, Int.reduceBNe, Nat.reduceBNe, bne_self_eq_false, reduceCtorEq, layK, List.foldl_nil])) ?_
    intro ⟨k, hk⟩
    refine AWP.gseq X_ok cl13 [0, 1, 4, 5, 6, 8, 10, 18, 19, 20, 52, 53, 54, 55] (by ((repeat (first | simp only [W, eqq, ↓reduceIte, Nat.reduceEqDiff, Nat.reduceLT, Nat.reduceLeDiff, Nat.reduceAdd, Nat.reduceMul, Nat.reduceSub, Nat.reduceBEq, Int.reduceLE, Int.reduceLT, Int.reduceNeg, Int.reduceToNat, Int.reduceEq, Int.reduceBEq, Int.reduceBNe, Nat.reduceBNe, bne_self_eq_false, reduceCtorEq] | (rewrite [if_pos]; rotate_left; focus (first | omega | (simp only [LN]; omega) | (refine ⟨?_, ?_⟩ <;> (simp only [LN] <;> omega)))) | (rewrite [if_neg]; rotate_left; focus (first | omega | (simp only [LN]; omega) | (refine ⟨?_, ?_⟩ <;> (simp only [LN] <;> omega)))))); with_reducible rfl)) ?_
    by_cases hlt : (k : Int) < ((min ks'.length p'.length : Nat) : Int)
    · refine AWP.seq (AWP.condT (by simp only [W, eqq, ↓reduceIte, Nat.reduceEqDiff, Nat.reduceLT, Nat.reduceLeDiff, Nat.reduceAdd, Nat.reduceMul, Nat.reduceSub, Nat.reduceBEq, Int.reduceLE, Int.reduceLT, Int.reduceNeg, Int.reduceToNat, Int.reduceEq, Int.reduceBEq, Int.reduceBNe, Nat.reduceBNe, bne_self_eq_false, reduceCtorEq, hlt]) (AWP.skip ?_))
      show AWP _ _ _ _ _ _
      refine AWP.seq (AWP.block ?_)
      have hkl : k < p'.length := by omega
      have hkl2 : k < ks'.length := by omega
      obtain ⟨w, hw⟩ : ∃ w, p'[k]? = some w := ⟨p'[k], List.getElem?_eq_getElem hkl⟩
      obtain ⟨w1, w2⟩ := w
      have hget := pnd_get p' k _ hw
      obtain ⟨f1, f2⟩ := fitP_get hc3 hw
      have hw2 := full128P_get hc5 hw
      simp only at f1 f2 hget hw2
      have hlen : (layK s' ((p'.zip ks').take k)).length = s'.length := layK_len _ _
      refine AWP.gseq X_ok cl13 [0, 1, 4, 5, 6, 8, 10, 18, 19, 20, 52, 53, 54, 55] (by ((repeat (first | simp only [W, eqq, ↓reduceIte, Nat.reduceEqDiff, Nat.reduceLT, Nat.reduceLeDiff, Nat.reduceAdd, Nat.reduceMul, Nat.reduceSub, Nat.reduceBEq, Int.reduceLE, Int.reduceLT, Int.reduceNeg, Int.reduceToNat, Int.reduceEq, Int.reduceBEq, Int.reduceBNe, Nat.reduceBNe, bne_self_eq_false, reduceCtorEq] | (rewrite [if_pos]; rotate_left; focus (first | omega | (simp only [LN]; omega) | (refine ⟨?_, ?_⟩ <;> (simp only [LN] <;> omega)))) | (rewrite [if_neg]; rotate_left; focus (first | omega | (simp only [LN]; omega) | (refine ⟨?_, ?_⟩ <;> (simp only [LN] <;> omega)))))); with_reducible rfl)) ?_
      refine AWP.gseq X_ok cl13 [0, 1, 4, 5, 6, 8, 10, 18, 19, 20, 52, 53, 54, 55] (by ((repeat (first | simp only [W, eqq, ↓reduceIte, Nat.reduceEqDiff, Nat.reduceLT, Nat.reduceLeDiff, Nat.reduceAdd, Nat.reduceMul, Nat.reduceSub, Nat.reduceBEq, Int.reduceLE, Int.reduceLT, Int.reduceNeg, Int.reduceToNat, Int.reduceEq, Int.reduceBEq, Int.reduceBNe, Nat.reduceBNe, bne_self_eq_false, reduceCtorEq, hget, hkl] | (rewrite [if_pos]; rotate_left; focus (first | omega | (simp only [LN, hget, hkl]; omega) | (refine ⟨?_, ?_⟩ <;> (simp only [LN, hget, hkl] <;> omega)))) | (rewrite [if_neg]; rotate_left; focus (first | omega | (simp only [LN, hget, hkl]; omega) | (refine ⟨?_, ?_⟩ <;> (simp only [LN, hget, hkl] <;> omega)))))); with_reducible rfl)) ?_
      have hgk : (ks'.map (T.int .i64)).getD k default = .int .i64 (ks'.getD k 0) := by simp [hkl2]
      have hke := keepN_eq (ks'.getD k 0)
      have hkle := keepN_le (ks'.getD k 0)
      refine AWP.gseq X_ok cl13 [0, 1, 4, 5, 6, 8, 10, 18, 19, 20, 52, 53, 54, 55] (by ((repeat (first | simp only [W, eqq, ↓reduceIte, Nat.reduceEqDiff, Nat.reduceLT, Nat.reduceLeDiff, Nat.reduceAdd, Nat.reduceMul, Nat.reduceSub, Nat.reduceBEq, Int.reduceLE, Int.reduceLT, Int.reduceNeg, Int.reduceToNat, Int.reduceEq, Int.reduceBEq, Int.reduceBNe, Nat.reduceBNe, bne_self_eq_false, reduceCtorEq, hgk, hke] | (rewrite [if_pos]; rotate_left; focus (first | omega | (simp only [LN, hgk, hke]; omega) | (refine ⟨?_, ?_⟩ <;> (simp only [LN, hgk, hke] <;> omega)))) | (rewrite [if_neg]; rotate_left; focus (first | omega | (simp only [LN, hgk, hke]; omega) | (refine ⟨?_, ?_⟩ <;> (simp only [LN, hgk, hke] <;> omega)))))); with_reducible rfl)) ?_
      generalize hkd : keepN (ks'.getD k 0) = kk at hkle
      have hn : w1.toNat < s'.length := by omega
      have hsg := sect_get (layK s' ((p'.zip ks').take k)) w1.toNat (by rw [hlen]; omega)
      have hold : ((layK s' ((p'.zip ks').take k)).getD w1.toNat []).length = 128 := by
        refine full128_get (layK_full _ _ hc4 fun x hx => ?_) (by rw [hlen]; omega)
        have hx' := List.mem_of_mem_take hx
        obtain ⟨j, hj⟩ := List.getElem?_of_mem hx'
        rw [List.getElem?_zip_eq_some] at hj
        have a1 := full128P_get hc5 hj.1
        have a2 := fitP_get hc3 hj.1
        exact ⟨a1, by omega⟩
      generalize hol : (layK s' ((p'.zip ks').take k)).getD w1.toNat [] = old at hsg hold
      have hlaid : laid old (List.take kk w2) 0 (Nat.min (List.take kk w2).length kk) = w2.take kk ++ old.drop kk := by
        have e : Nat.min (List.take kk w2).length kk = kk := by rw [List.length_take]; show min _ _ = kk; omega
        rw [e]
        simp only [laid, List.take_zero, List.nil_append, Nat.zero_add]
        rw [List.take_of_length_le (l := List.take kk w2) (by rw [List.length_take]; omega)]
      refine AWP.gdraw X_ok cl13 [0, 1, 4, 5, 6, 8, 10, 18, 19, 20, 52, 53, 54, 55] mix [⟨0, [0], []⟩, ⟨0, [35], []⟩, ⟨0, [36], []⟩, ⟨1, [37], []⟩, ⟨0, [5], []⟩, ⟨1, [39], []⟩, ⟨1, [38, 40], [3, 5]⟩, ⟨0, [6], []⟩, ⟨1, [41, 42], [3, 5, 6]⟩, ⟨0, [5], []⟩, ⟨0, [6], []⟩, ⟨1, [44, 45], []⟩, ⟨2, [43, 46], [3, 5, 6, 8, 11]⟩] (by kernel_rfl) (by ((repeat (first | simp only [W, eqq, ↓reduceIte, Nat.reduceEqDiff, Nat.reduceLT, Nat.reduceLeDiff, Nat.reduceAdd, Nat.reduceMul, Nat.reduceSub, Nat.reduceBEq, Int.reduceLE, Int.reduceLT, Int.reduceNeg, Int.reduceToNat, Int.reduceEq, Int.reduceBEq, Int.reduceBNe, Nat.reduceBNe, bne_self_eq_false, reduceCtorEq, hsg, hn, hlen, hlaid, hw2, hold] | (rewrite [if_pos]; rotate_left; focus (first | omega | (simp only [LN, hsg, hn, hlen, hlaid, hw2, hold]; omega) | (refine ⟨?_, ?_⟩ <;> (simp only [LN, hsg, hn, hlen, hlaid, hw2, hold] <;> omega)))) | (rewrite [if_neg]; rotate_left; focus (first | omega | (simp only [LN, hsg, hn, hlen, hlaid, hw2, hold]; omega) | (refine ⟨?_, ?_⟩ <;> (simp only [LN, hsg, hn, hlen, hlaid, hw2, hold] <;> omega)))))); with_reducible rfl)) ?_
      show AWP _ _ _ _ _ _
      have hk1 : IntKind.i64.wrap ((k : Int) + 1) = ((k + 1 : Nat) : Int) := by rw [wrap_i64 (by omega) (by omega)]; omega
      refine AWP.greg X_ok cl13 [0, 1, 4, 5, 6, 8, 10, 18, 19, 20, 52, 53, 54, 55] (by ((repeat (first | simp only [W, eqq, ↓reduceIte, Nat.reduceEqDiff, Nat.reduceLT, Nat.reduceLeDiff, Nat.reduceAdd, Nat.reduceMul, Nat.reduceSub, Nat.reduceBEq, Int.reduceLE, Int.reduceLT, Int.reduceNeg, Int.reduceToNat, Int.reduceEq, Int.reduceBEq, Int.reduceBNe, Nat.reduceBNe, bne_self_eq_false, reduceCtorEq, hk1] | (rewrite [if_pos]; rotate_left; focus (first | omega | (simp only [LN, hk1]; omega) | (refine ⟨?_, ?_⟩ <;> (simp only [LN, hk1] <;> omega)))) | (rewrite [if_neg]; rotate_left; focus (first | omega | (simp only [LN, hk1]; omega) | (refine ⟨?_, ?_⟩ <;> (simp only [LN, hk1] <;> omega)))))); with_reducible rfl)) ?_
      have hstep : List.map (T.ba 128) (layK s' ((p'.zip ks').take (k + 1))) = (List.map (T.ba 128) (layK s' ((p'.zip ks').take k))).set w1.toNat (.ba 128 (w2.take kk ++ old.drop kk)) := by
        have hz : (p'.zip ks')[k]? = some ((w1, w2), ks'.getD k 0) := by
          rw [List.getElem?_zip_eq_some]; exact ⟨hw, by simp [hkl2]⟩
        rw [List.take_add_one, hz]
        simp only [Option.toList, layK_snoc, keep1, List.map_set, hkd, hol]
      exact ⟨⟨k + 1, by omega⟩, Weak.to [0, 1, 18, 19] [0, 1, 2, 3] (show okIds 4 [0, 1, 2, 3] by decide) (by simp only [W, eqq, ↓reduceIte, Nat.reduceEqDiff, Nat.reduceLT, Nat.reduceLeDiff, Nat.reduceAdd, Nat.reduceMul, Nat.reduceSub, Nat.reduceBEq, Int.reduceLE, Int.reduceLT, Int.reduceNeg, Int.reduceToNat, Int.reduceEq, Int.reduceBEq, Int.reduceBNe, Nat.reduceBNe, bne_self_eq_false, reduceCtorEq, hstep]), by simp only; omega⟩
    · refine AWP.seq (AWP.condF (by simp only [W, eqq, ↓reduceIte, Nat.reduceEqDiff, Nat.reduceLT, Nat.reduceLeDiff, Nat.reduceAdd, Nat.reduceMul, Nat.reduceSub, Nat.reduceBEq, Int.reduceLE, Int.reduceLT, Int.reduceNeg, Int.reduceToNat, Int.reduceEq, Int.reduceBEq, Int.reduceBNe, Nat.reduceBNe, bne_self_eq_false, reduceCtorEq, hlt]) (AWP.exit ?_))
      obtain rfl : k = min ks'.length p'.length := by omega
      show AWP _ _ _ _ _ _
      have e : (p'.zip ks').take (min ks'.length p'.length) = p'.zip ks' := List.take_of_length_le (by omega)
      refine AWP.seq ?_
      refine AWP.gseq X_ok cl13 [0, 1, 4, 5, 6, 8, 10, 18, 19, 20, 52, 53, 54, 55] (by ((repeat (first | simp only [W, eqq, ↓reduceIte, Nat.reduceEqDiff, Nat.reduceLT, Nat.reduceLeDiff, Nat.reduceAdd, Nat.reduceMul, Nat.reduceSub, Nat.reduceBEq, Int.reduceLE, Int.reduceLT, Int.reduceNeg, Int.reduceToNat, Int.reduceEq, Int.reduceBEq, Int.reduceBNe, Nat.reduceBNe, bne_self_eq_false, reduceCtorEq, e] | (rewrite [if_pos]; rotate_left; focus (first | omega | (simp only [LN, e]; omega) | (refine ⟨?_, ?_⟩ <;> (simp only [LN, e] <;> omega)))) | (rewrite [if_neg]; rotate_left; focus (first | omega | (simp only [LN, e]; omega) | (refine ⟨?_, ?_⟩ <;> (simp only [LN, e] <;> omega)))))); with_reducible rfl)) ?_
      refine AWP.block ?_
      generalize hS : layK s' (p'.zip ks') = S
      have hSl : S.length = s'.length := by rw [← hS]; exact layK_len _ _
      refine AWP.loop (G := { k : Nat // k ≤ p'.length }) (fun k => ⟨[(0, .ptr 0 0 []), (52, .own 3), (53, .t (.int .i64 (p'.length : Int))), (54, .t (.int .i64 (k.1 : Int)))], [dk 1 2 3 l off, .sq 128 (sect S), .sq 128 (sect (layO S n' (p'.take k.1))), .sq 129 (pnd p')]⟩) (fun k => p'.length - k.1) ⟨0, by omega⟩ (Weak.to [0, 52, 53, 54] [0, 1, 2, 3] (show okIds 4 [0, 1, 2, 3] by decide) (by simp only [W, eqq, ↓reduceIte, Nat.reduceEqDiff, Nat.reduceLT, Nat.reduceLeDiff, Nat.reduceAdd, Nat.reduceMul, Nat.reduceSub, Nat.reduceBEq, Int.reduceLE, Int.reduceLT, Int.reduceNeg, Int.reduceToNat, Int.reduceEq, Int.reduceBEq, Int.reduceBNe, Nat.reduceBNe, bne_self_eq_false, reduceCtorEq, layO, List.foldl_nil])) ?_
      intro ⟨k, hk⟩
      refine AWP.gseq X_ok cl13 [0, 1, 4, 5, 6, 8, 10, 18, 19, 20, 52, 53, 54, 55] (by ((repeat (first | simp only [W, eqq, ↓reduceIte, Nat.reduceEqDiff, Nat.reduceLT, Nat.reduceLeDiff, Nat.reduceAdd, Nat.reduceMul, Nat.reduceSub, Nat.reduceBEq, Int.reduceLE, Int.reduceLT, Int.reduceNeg, Int.reduceToNat, Int.reduceEq, Int.reduceBEq, Int.reduceBNe, Nat.reduceBNe, bne_self_eq_false, reduceCtorEq] | (rewrite [if_pos]; rotate_left; focus (first | omega | (simp only [LN]; omega) | (refine ⟨?_, ?_⟩ <;> (simp only [LN] <;> omega)))) | (rewrite [if_neg]; rotate_left; focus (first | omega | (simp only [LN]; omega) | (refine ⟨?_, ?_⟩ <;> (simp only [LN] <;> omega)))))); with_reducible rfl)) ?_
      by_cases hlt : (k : Int) < (p'.length : Int)
      · refine AWP.seq (AWP.condT (by simp only [W, eqq, ↓reduceIte, Nat.reduceEqDiff, Nat.reduceLT, Nat.reduceLeDiff, Nat.reduceAdd, Nat.reduceMul, Nat.reduceSub, Nat.reduceBEq, Int.reduceLE, Int.reduceLT, Int.reduceNeg, Int.reduceToNat, Int.reduceEq, Int.reduceBEq, Int.reduceBNe, Nat.reduceBNe, bne_self_eq_false, reduceCtorEq, hlt]) (AWP.skip ?_))
        show AWP _ _ _ _ _ _
        refine AWP.seq (AWP.block ?_)
        have hkl : k < p'.length := by omega
        obtain ⟨w, hw⟩ : ∃ w, p'[k]? = some w := ⟨p'[k], List.getElem?_eq_getElem hkl⟩
        obtain ⟨w1, w2⟩ := w
        have hget := pnd_get p' k _ hw
        obtain ⟨f1, f2⟩ := fitP_get hc3 hw
        simp only at f1 f2 hget
        have hlen : (layO S n' (p'.take k)).length = s'.length := by rw [layO_len]; exact hc1
        refine AWP.gseq X_ok cl13 [0, 1, 4, 5, 6, 8, 10, 18, 19, 20, 52, 53, 54, 55] (by ((repeat (first | simp only [W, eqq, ↓reduceIte, Nat.reduceEqDiff, Nat.reduceLT, Nat.reduceLeDiff, Nat.reduceAdd, Nat.reduceMul, Nat.reduceSub, Nat.reduceBEq, Int.reduceLE, Int.reduceLT, Int.reduceNeg, Int.reduceToNat, Int.reduceEq, Int.reduceBEq, Int.reduceBNe, Nat.reduceBNe, bne_self_eq_false, reduceCtorEq, hget, hkl] | (rewrite [if_pos]; rotate_left; focus (first | omega | (simp only [LN, hget, hkl]; omega) | (refine ⟨?_, ?_⟩ <;> (simp only [LN, hget, hkl] <;> omega)))) | (rewrite [if_neg]; rotate_left; focus (first | omega | (simp only [LN, hget, hkl]; omega) | (refine ⟨?_, ?_⟩ <;> (simp only [LN, hget, hkl] <;> omega)))))); with_reducible rfl)) ?_
        have hn : w1.toNat < s'.length := by omega
        have hsg := sect_get S w1.toNat (by omega)
        have hsg2 := sect_get (layO S n' (p'.take k)) w1.toNat (by omega)
        refine AWP.gdraw X_ok cl13 [0, 1, 4, 5, 6, 8, 10, 18, 19, 20, 52, 53, 54, 55] mix [⟨0, [0], []⟩, ⟨0, [58], []⟩, ⟨0, [59], []⟩, ⟨1, [60], []⟩, ⟨0, [8], []⟩, ⟨1, [62], []⟩, ⟨0, [0], []⟩, ⟨0, [64], []⟩, ⟨0, [65], []⟩, ⟨1, [66], []⟩, ⟨0, [8], []⟩, ⟨1, [68], []⟩, ⟨1, [67, 69], [9, 11]⟩, ⟨1, [70], [9, 11, 12]⟩, ⟨1, [61, 63], [3, 5, 9, 11, 12, 13]⟩, ⟨2, [71, 72], [3, 5, 9, 11, 12, 13, 14]⟩] (by kernel_rfl) (by ((repeat (first | simp only [W, eqq, ↓reduceIte, Nat.reduceEqDiff, Nat.reduceLT, Nat.reduceLeDiff, Nat.reduceAdd, Nat.reduceMul, Nat.reduceSub, Nat.reduceBEq, Int.reduceLE, Int.reduceLT, Int.reduceNeg, Int.reduceToNat, Int.reduceEq, Int.reduceBEq, Int.reduceBNe, Nat.reduceBNe, bne_self_eq_false, reduceCtorEq, hsg, hsg2, hn, hlen, hSl] | (rewrite [if_pos]; rotate_left; focus (first | omega | (simp only [LN, hsg, hsg2, hn, hlen, hSl]; omega) | (refine ⟨?_, ?_⟩ <;> (simp only [LN, hsg, hsg2, hn, hlen, hSl] <;> omega)))) | (rewrite [if_neg]; rotate_left; focus (first | omega | (simp only [LN, hsg, hsg2, hn, hlen, hSl]; omega) | (refine ⟨?_, ?_⟩ <;> (simp only [LN, hsg, hsg2, hn, hlen, hSl] <;> omega)))))); with_reducible rfl)) ?_
        show AWP _ _ _ _ _ _
        have hk1 : IntKind.i64.wrap ((k : Int) + 1) = ((k + 1 : Nat) : Int) := by rw [wrap_i64 (by omega) (by omega)]; omega
        refine AWP.greg X_ok cl13 [0, 1, 4, 5, 6, 8, 10, 18, 19, 20, 52, 53, 54, 55] (by ((repeat (first | simp only [W, eqq, ↓reduceIte, Nat.reduceEqDiff, Nat.reduceLT, Nat.reduceLeDiff, Nat.reduceAdd, Nat.reduceMul, Nat.reduceSub, Nat.reduceBEq, Int.reduceLE, Int.reduceLT, Int.reduceNeg, Int.reduceToNat, Int.reduceEq, Int.reduceBEq, Int.reduceBNe, Nat.reduceBNe, bne_self_eq_false, reduceCtorEq, hk1] | (rewrite [if_pos]; rotate_left; focus (first | omega | (simp only [LN, hk1]; omega) | (refine ⟨?_, ?_⟩ <;> (simp only [LN, hk1] <;> omega)))) | (rewrite [if_neg]; rotate_left; focus (first | omega | (simp only [LN, hk1]; omega) | (refine ⟨?_, ?_⟩ <;> (simp only [LN, hk1] <;> omega)))))); with_reducible rfl)) ?_
        have hstep : List.map (T.ba 128) (layO S n' (p'.take (k + 1))) = (List.map (T.ba 128) (layO S n' (p'.take k))).set w1.toNat (.ba 128 (S.getD w1.toNat [])) := by
          rw [List.take_add_one, hw]
          simp only [Option.toList, layO_snoc, over1, List.map_set]
        exact ⟨⟨k + 1, by omega⟩, Weak.to [0, 52, 53, 54] [0, 1, 2, 3] (show okIds 4 [0, 1, 2, 3] by decide) (by simp only [W, eqq, ↓reduceIte, Nat.reduceEqDiff, Nat.reduceLT, Nat.reduceLeDiff, Nat.reduceAdd, Nat.reduceMul, Nat.reduceSub, Nat.reduceBEq, Int.reduceLE, Int.reduceLT, Int.reduceNeg, Int.reduceToNat, Int.reduceEq, Int.reduceBEq, Int.reduceBNe, Nat.reduceBNe, bne_self_eq_false, reduceCtorEq, hstep]), by simp only; omega⟩
      · refine AWP.seq (AWP.condF (by simp only [W, eqq, ↓reduceIte, Nat.reduceEqDiff, Nat.reduceLT, Nat.reduceLeDiff, Nat.reduceAdd, Nat.reduceMul, Nat.reduceSub, Nat.reduceBEq, Int.reduceLE, Int.reduceLT, Int.reduceNeg, Int.reduceToNat, Int.reduceEq, Int.reduceBEq, Int.reduceBNe, Nat.reduceBNe, bne_self_eq_false, reduceCtorEq, hlt]) (AWP.exit ?_))
        obtain rfl : k = p'.length := by omega
        show AWP _ _ _ _ _ _
        have e : p'.take p'.length = p' := List.take_length
        refine AWP.gregW X_ok cl13 [0, 1, 4, 5, 6, 8, 10, 18, 19, 20, 52, 53, 54, 55] (by ((repeat (first | simp only [W, eqq, ↓reduceIte, Nat.reduceEqDiff, Nat.reduceLT, Nat.reduceLeDiff, Nat.reduceAdd, Nat.reduceMul, Nat.reduceSub, Nat.reduceBEq, Int.reduceLE, Int.reduceLT, Int.reduceNeg, Int.reduceToNat, Int.reduceEq, Int.reduceBEq, Int.reduceBNe, Nat.reduceBNe, bne_self_eq_false, reduceCtorEq, e] | (rewrite [if_pos]; rotate_left; focus (first | omega | (simp only [LN, e]; omega) | (refine ⟨?_, ?_⟩ <;> (simp only [LN, e] <;> omega)))) | (rewrite [if_neg]; rotate_left; focus (first | omega | (simp only [LN, e]; omega) | (refine ⟨?_, ?_⟩ <;> (simp only [LN, e] <;> omega)))))); with_reducible rfl)) (Weak.ownBx (v' := _) 0 [2] 2 (.sq 129 []) rfl (by simp only [W, eqq, ↓reduceIte, Nat.reduceEqDiff, Nat.reduceLT, Nat.reduceLeDiff, Nat.reduceAdd, Nat.reduceMul, Nat.reduceSub, Nat.reduceBEq, Int.reduceLE, Int.reduceLT, Int.reduceNeg, Int.reduceToNat, Int.reduceEq, Int.reduceBEq, Int.reduceBNe, Nat.reduceBNe, bne_self_eq_false, reduceCtorEq]) (by simp only [W, eqq, ↓reduceIte, Nat.reduceEqDiff, Nat.reduceLT, Nat.reduceLeDiff, Nat.reduceAdd, Nat.reduceMul, Nat.reduceSub, Nat.reduceBEq, Int.reduceLE, Int.reduceLT, Int.reduceNeg, Int.reduceToNat, Int.reduceEq, Int.reduceBEq, Int.reduceBNe, Nat.reduceBNe, bne_self_eq_false, reduceCtorEq]) (by simp only [W, eqq, ↓reduceIte, Nat.reduceEqDiff, Nat.reduceLT, Nat.reduceLeDiff, Nat.reduceAdd, Nat.reduceMul, Nat.reduceSub, Nat.reduceBEq, Int.reduceLE, Int.reduceLT, Int.reduceNeg, Int.reduceToNat, Int.reduceEq, Int.reduceBEq, Int.reduceBNe, Nat.reduceBNe, bne_self_eq_false, reduceCtorEq]; rfl) (.inr ⟨_, by decide, rfl⟩)) ?_
        exact ⟨.inl rfl, [], [0, 1, 2, 3, 4], (show okIds 4 [0, 1, 2, 3, 4] by decide), rfl, rfl⟩

end Go.Fw

end

section
/- Chapter 27: the live question. -/
namespace Go.Fw
open Go Go.Proofs
set_option linter.unusedVariables false
set_option linter.unusedSimpArgs false

def F8 : Fun
  | [] => some ([], .t (.bool true))
  | _ => none

theorem cl8 : GClOk Try.prog [(9, ⟨[false], treeG F9⟩), (10, ⟨[false], treeG F10⟩), (11, ⟨[true, false, false], G11⟩), (12, ⟨[true], G12⟩), (13, ⟨[true, false], G13⟩), (14, ⟨[true, false], G14⟩), (18, ⟨[true], G18⟩)] := .cons c9.g (.cons c10.g (.cons g11 (.cons g12 (.cons g13 (.cons g14 (.cons g18 (.nil _)))))))

theorem asSect_cons (l : List UInt8) (r : List T) : asSect (.ba 128 l :: r) = match asSect r with | some ls => some (l :: ls) | none => none := rfl
theorem asSect_nil : asSect [] = some [] := rfl
theorem asPnd_cons (w : Int × List UInt8) (r : List T) : asPnd (pnd1 w :: r) = match asPnd r with | some ls => some (w :: ls) | none => none := rfl
theorem asPnd_nil : asPnd [] = some [] := rfl
theorem asInts_cons (k : Int) (r : List T) : asInts (.int .i64 k :: r) = match asInts r with | some ks => some (k :: ks) | none => none := rfl
theorem asInts_nil : asInts [] = some [] := rfl
theorem zby128 : (zby 128).length = 128 := zby_len 128

theorem pnd1_clean (w : Int × List UInt8) : (pnd1 w).clean = true := rfl
theorem cleanL_sect (l : List (List UInt8)) : T.cleanL (List.map (T.ba 128) l) = true := by
  induction l with
  | nil => rfl
  | cons x l ih => simp only [List.map_cons, T.cleanL, T.clean, ih, Bool.and_self]
theorem cleanL_pnd (l : List (Int × List UInt8)) : T.cleanL (List.map pnd1 l) = true := by
  induction l with
  | nil => rfl
  | cons x l ih => simp only [List.map_cons, T.cleanL, pnd1_clean, ih, Bool.and_self]

theorem spL0 : spL (-1) false = (-1, false, true) := by decide

theorem c8 : ACon Try.prog 8 F8 := by
  refine acon (E := E) (rs := [(0, 4)]) Try.func8 rfl Try.ntmps8 (by kernel_rfl) rfl (by decide) F8 (np := 0) ?_ ?_
  · intro ts h; unfold F8; split <;> first | rfl | (simp at h; done)
  intro ts H r hF hwf
  unfold F8 at hF
  split at hF <;> try (cases hF; done)
  cases hF
  refine AWP.gseq X_ok cl8 [0, 1, 2, 3, 4, 5, 6, 16] (by ((repeat (first | simp only [W, eqq, ↓reduceIte, Nat.reduceEqDiff, Nat.reduceLT, Nat.reduceLeDiff, Nat.reduceAdd, Nat.reduceMul, Nat.reduceSub, Nat.reduceBEq, Int.reduceLE, Int.reduceLT, Int.reduceNeg, Int.reduceToNat, Int.reduceEq, Int.reduceBEq, Int.reduceBNe, Nat.reduceBNe, bne_self_eq_false, reduceCtorEq] | (rewrite [if_pos]; rotate_left; focus (first | omega | (simp only [LN]; omega) | (refine ⟨?_, ?_⟩ <;> (simp only [LN] <;> omega)))) | (rewrite [if_neg]; rotate_left; focus (first | omega | (simp only [LN]; omega) | (refine ⟨?_, ?_⟩ <;> (simp only [LN] <;> omega)))))); with_reducible rfl)) ?_
  refine AWP.gseq X_ok cl8 [0, 1, 2, 3, 4, 5, 6, 16] (by ((repeat (first | simp only [W, eqq, ↓reduceIte, Nat.reduceEqDiff, Nat.reduceLT, Nat.reduceLeDiff, Nat.reduceAdd, Nat.reduceMul, Nat.reduceSub, Nat.reduceBEq, Int.reduceLE, Int.reduceLT, Int.reduceNeg, Int.reduceToNat, Int.reduceEq, Int.reduceBEq, Int.reduceBNe, Nat.reduceBNe, bne_self_eq_false, reduceCtorEq, F9] | (rewrite [if_pos]; rotate_left; focus (first | omega | (simp only [LN, F9]; omega) | (refine ⟨?_, ?_⟩ <;> (simp only [LN, F9] <;> omega)))) | (rewrite [if_neg]; rotate_left; focus (first | omega | (simp only [LN, F9]; omega) | (refine ⟨?_, ?_⟩ <;> (simp only [LN, F9] <;> omega)))))); with_reducible rfl)) ?_
  refine AWP.seq ?_
  refine AWP.gseq X_ok cl8 [0, 1, 2, 3, 4, 5, 6, 16] (by ((repeat (first | simp only [W, eqq, ↓reduceIte, Nat.reduceEqDiff, Nat.reduceLT, Nat.reduceLeDiff, Nat.reduceAdd, Nat.reduceMul, Nat.reduceSub, Nat.reduceBEq, Int.reduceLE, Int.reduceLT, Int.reduceNeg, Int.reduceToNat, Int.reduceEq, Int.reduceBEq, Int.reduceBNe, Nat.reduceBNe, bne_self_eq_false, reduceCtorEq] | (rewrite [if_pos]; rotate_left; focus (first | omega | (simp only [LN]; omega) | (refine ⟨?_, ?_⟩ <;> (simp only [LN] <;> omega)))) | (rewrite [if_neg]; rotate_left; focus (first | omega | (simp only [LN]; omega) | (refine ⟨?_, ?_⟩ <;> (simp only [LN] <;> omega)))))); with_reducible rfl)) ?_
  refine AWP.condF (by simp only [W, eqq, ↓reduceIte, Nat.reduceEqDiff, Nat.reduceLT, Nat.reduceLeDiff, Nat.reduceAdd, Nat.reduceMul, Nat.reduceSub, Nat.reduceBEq, Int.reduceLE, Int.reduceLT, Int.reduceNeg, Int.reduceToNat, Int.reduceEq, Int.reduceBEq, Int.reduceBNe, Nat.reduceBNe, bne_self_eq_false, reduceCtorEq]) (AWP.skip ?_)
  show AWP _ _ _ _ _ _
  refine AWP.gseq X_ok cl8 [0, 1, 2, 3, 4, 5, 6, 16] (by ((repeat (first | simp only [W, eqq, ↓reduceIte, Nat.reduceEqDiff, Nat.reduceLT, Nat.reduceLeDiff, Nat.reduceAdd, Nat.reduceMul, Nat.reduceSub, Nat.reduceBEq, Int.reduceLE, Int.reduceLT, Int.reduceNeg, Int.reduceToNat, Int.reduceEq, Int.reduceBEq, Int.reduceBNe, Nat.reduceBNe, bne_self_eq_false, reduceCtorEq, F10, G11, fullB_len, spL0, T.size, pnd1_clean] | (rewrite [if_pos]; rotate_left; focus (first | omega | (simp only [LN, F10, G11, fullB_len, spL0, T.size, pnd1_clean]; omega) | (refine ⟨?_, ?_⟩ <;> (simp only [LN, F10, G11, fullB_len, spL0, T.size, pnd1_clean] <;> omega)))) | (rewrite [if_neg]; rotate_left; focus (first | omega | (simp only [LN, F10, G11, fullB_len, spL0, T.size, pnd1_clean]; omega) | (refine ⟨?_, ?_⟩ <;> (simp only [LN, F10, G11, fullB_len, spL0, T.size, pnd1_clean] <;> omega)))))); with_reducible rfl)) ?_
  refine AWP.gseq X_ok cl8 [0, 1, 2, 3, 4, 5, 6, 16] (by ((repeat (first | simp only [W, eqq, ↓reduceIte, Nat.reduceEqDiff, Nat.reduceLT, Nat.reduceLeDiff, Nat.reduceAdd, Nat.reduceMul, Nat.reduceSub, Nat.reduceBEq, Int.reduceLE, Int.reduceLT, Int.reduceNeg, Int.reduceToNat, Int.reduceEq, Int.reduceBEq, Int.reduceBNe, Nat.reduceBNe, bne_self_eq_false, reduceCtorEq, G12, spL0, asSect_cons, asSect_nil, asPnd_cons, asPnd_nil, fitP, layP, List.foldl_cons, List.foldl_nil, sect, pnd, pnd1_clean] | (rewrite [if_pos]; rotate_left; focus (first | omega | (simp only [LN, G12, spL0, asSect_cons, asSect_nil, asPnd_cons, asPnd_nil, fitP, layP, List.foldl_cons, List.foldl_nil, sect, pnd, pnd1_clean]; omega) | (refine ⟨?_, ?_⟩ <;> (simp only [LN, G12, spL0, asSect_cons, asSect_nil, asPnd_cons, asPnd_nil, fitP, layP, List.foldl_cons, List.foldl_nil, sect, pnd, pnd1_clean] <;> omega)))) | (rewrite [if_neg]; rotate_left; focus (first | omega | (simp only [LN, G12, spL0, asSect_cons, asSect_nil, asPnd_cons, asPnd_nil, fitP, layP, List.foldl_cons, List.foldl_nil, sect, pnd, pnd1_clean]; omega) | (refine ⟨?_, ?_⟩ <;> (simp only [LN, G12, spL0, asSect_cons, asSect_nil, asPnd_cons, asPnd_nil, fitP, layP, List.foldl_cons, List.foldl_nil, sect, pnd, pnd1_clean] <;> omega)))))); with_reducible rfl)) ?_
  refine AWP.gseq X_ok cl8 [0, 1, 2, 3, 4, 5, 6, 16] (by ((repeat (first | simp only [W, eqq, ↓reduceIte, Nat.reduceEqDiff, Nat.reduceLT, Nat.reduceLeDiff, Nat.reduceAdd, Nat.reduceMul, Nat.reduceSub, Nat.reduceBEq, Int.reduceLE, Int.reduceLT, Int.reduceNeg, Int.reduceToNat, Int.reduceEq, Int.reduceBEq, Int.reduceBNe, Nat.reduceBNe, bne_self_eq_false, reduceCtorEq, F10, G11, fullB_len, spL0, pnd1_clean] | (rewrite [if_pos]; rotate_left; focus (first | omega | (simp only [LN, F10, G11, fullB_len, spL0, pnd1_clean]; omega) | (refine ⟨?_, ?_⟩ <;> (simp only [LN, F10, G11, fullB_len, spL0, pnd1_clean] <;> omega)))) | (rewrite [if_neg]; rotate_left; focus (first | omega | (simp only [LN, F10, G11, fullB_len, spL0, pnd1_clean]; omega) | (refine ⟨?_, ?_⟩ <;> (simp only [LN, F10, G11, fullB_len, spL0, pnd1_clean] <;> omega)))))); with_reducible rfl)) ?_
  refine AWP.gseq X_ok cl8 [0, 1, 2, 3, 4, 5, 6, 16] (by ((repeat (first | simp only [W, eqq, ↓reduceIte, Nat.reduceEqDiff, Nat.reduceLT, Nat.reduceLeDiff, Nat.reduceAdd, Nat.reduceMul, Nat.reduceSub, Nat.reduceBEq, Int.reduceLE, Int.reduceLT, Int.reduceNeg, Int.reduceToNat, Int.reduceEq, Int.reduceBEq, Int.reduceBNe, Nat.reduceBNe, bne_self_eq_false, reduceCtorEq, G13, asSect_cons, asSect_nil, asPnd_cons, asPnd_nil, asInts_cons, asInts_nil, fitP, full128, full128P, fullB_len, layK, layO, keep1, over1, List.zip_cons_cons, List.zip_nil_left, List.foldl_cons, List.foldl_nil, sect, pnd, pnd1_clean] | (rewrite [if_pos]; rotate_left; focus (first | omega | (simp only [LN, G13, asSect_cons, asSect_nil, asPnd_cons, asPnd_nil, asInts_cons, asInts_nil, fitP, full128, full128P, fullB_len, layK, layO, keep1, over1, List.zip_cons_cons, List.zip_nil_left, List.foldl_cons, List.foldl_nil, sect, pnd, pnd1_clean]; omega) | (refine ⟨?_, ?_⟩ <;> (simp only [LN, G13, asSect_cons, asSect_nil, asPnd_cons, asPnd_nil, asInts_cons, asInts_nil, fitP, full128, full128P, fullB_len, layK, layO, keep1, over1, List.zip_cons_cons, List.zip_nil_left, List.foldl_cons, List.foldl_nil, sect, pnd, pnd1_clean] <;> omega)))) | (rewrite [if_neg]; rotate_left; focus (first | omega | (simp only [LN, G13, asSect_cons, asSect_nil, asPnd_cons, asPnd_nil, asInts_cons, asInts_nil, fitP, full128, full128P, fullB_len, layK, layO, keep1, over1, List.zip_cons_cons, List.zip_nil_left, List.foldl_cons, List.foldl_nil, sect, pnd, pnd1_clean]; omega) | (refine ⟨?_, ?_⟩ <;> (simp only [LN, G13, asSect_cons, asSect_nil, asPnd_cons, asPnd_nil, asInts_cons, asInts_nil, fitP, full128, full128P, fullB_len, layK, layO, keep1, over1, List.zip_cons_cons, List.zip_nil_left, List.foldl_cons, List.foldl_nil, sect, pnd, pnd1_clean] <;> omega)))))); with_reducible rfl)) ?_
  generalize hX : List.take (keepN 2) (fullB [UInt8.ofNat 2, UInt8.ofNat 2, UInt8.ofNat 2]) ++ List.drop (keepN 2) (fullB [UInt8.ofNat 1]) = X
  have x0 : X.length = 128 := by rw [← hX]; decide +kernel
  have x1 : ((X.getD 0 0).toNat : Int) = 2 := by rw [← hX]; decide +kernel
  have x2 : ((X.getD 1 0).toNat : Int) = 2 := by rw [← hX]; decide +kernel
  have x3 : ((X.getD 2 0).toNat : Int) = 1 := by rw [← hX]; decide +kernel
  refine AWP.gseq X_ok cl8 [0, 1, 2, 3, 4, 5, 6, 16] (by ((repeat (first | simp only [W, eqq, ↓reduceIte, Nat.reduceEqDiff, Nat.reduceLT, Nat.reduceLeDiff, Nat.reduceAdd, Nat.reduceMul, Nat.reduceSub, Nat.reduceBEq, Int.reduceLE, Int.reduceLT, Int.reduceNeg, Int.reduceToNat, Int.reduceEq, Int.reduceBEq, Int.reduceBNe, Nat.reduceBNe, bne_self_eq_false, reduceCtorEq, G14, x0, pnd1_clean] | (rewrite [if_pos]; rotate_left; focus (first | omega | (simp only [LN, G14, x0, pnd1_clean]; omega) | (refine ⟨?_, ?_⟩ <;> (simp only [LN, G14, x0, pnd1_clean] <;> omega)))) | (rewrite [if_neg]; rotate_left; focus (first | omega | (simp only [LN, G14, x0, pnd1_clean]; omega) | (refine ⟨?_, ?_⟩ <;> (simp only [LN, G14, x0, pnd1_clean] <;> omega)))))); with_reducible rfl)) ?_
  refine AWP.gseq X_ok cl8 [0, 1, 2, 3, 4, 5, 6, 16] (by ((repeat (first | simp only [W, eqq, ↓reduceIte, Nat.reduceEqDiff, Nat.reduceLT, Nat.reduceLeDiff, Nat.reduceAdd, Nat.reduceMul, Nat.reduceSub, Nat.reduceBEq, Int.reduceLE, Int.reduceLT, Int.reduceNeg, Int.reduceToNat, Int.reduceEq, Int.reduceBEq, Int.reduceBNe, Nat.reduceBNe, bne_self_eq_false, reduceCtorEq, G18, x0, x1, x2, x3, pnd1_clean] | (rewrite [if_pos]; rotate_left; focus (first | omega | (simp only [LN, G18, x0, x1, x2, x3, pnd1_clean]; omega) | (refine ⟨?_, ?_⟩ <;> (simp only [LN, G18, x0, x1, x2, x3, pnd1_clean] <;> omega)))) | (rewrite [if_neg]; rotate_left; focus (first | omega | (simp only [LN, G18, x0, x1, x2, x3, pnd1_clean]; omega) | (refine ⟨?_, ?_⟩ <;> (simp only [LN, G18, x0, x1, x2, x3, pnd1_clean] <;> omega)))))); with_reducible rfl)) ?_
  exact AWP.ret ⟨.inr rfl, [], [], by decide, rfl, rfl⟩

end Go.Fw

end

section
/- Chapter 27: what lies on the disk, and the law DiskNil. -/
namespace Go.Fw
open Go Go.Proofs
set_option linter.unusedVariables false
set_option linter.unusedSimpArgs false

def G22 : GFun
  | [], [.t .nilp] => some ([], .t (.by []))
  | [.bx (.st [.own 1, .own 2, .own 3, .t (.int .i64 l), .t (.bool off)]), .sq 128 s, .sq 128 n, .sq 129 p], [.ptr 0 0 []] =>
    match asSect n with
    | some n' => if full128 n' = true ∧ n'.length ≤ 8192 then
        some ([dk 1 2 3 l off, .sq 128 s, .sq 128 n, .sq 129 p, .by n'.flatten], .own 4) else none
    | none => none
  | _, _ => none

theorem cl22 : GClOk Try.prog [] := GClOk.nil _

theorem flatten_len : ∀ n : List (List UInt8), full128 n = true → n.flatten.length = 128 * n.length
  | [], _ => rfl
  | x :: n, h => by
    have h0 := full128_get (i := 0) h (by simp)
    have h1 : full128 n = true := by
      simp only [full128, List.all_cons, Bool.and_eq_true] at h ⊢
      exact h.2
    simp at h0
    rw [List.flatten_cons, List.length_append, flatten_len n h1, h0, List.length_cons]
    omega

theorem g22 : GCon Try.prog 22 G22 := by
  refine gcon (E := E) (rs := [(2, 22)]) Try.func22 rfl Try.ntmps22 (by kernel_rfl) rfl (by decide) G22 (np := 1) ?_ ?_
  · intro HB xs h; unfold G22; split <;> first | rfl | (simp at h; done)
  intro HB xs H r hG hwf hex
  unfold G22 at hG
  split at hG <;> try (cases hG; done)
  · cases hG
    refine AWP.gseq X_ok cl22 [0, 2, 3, 4, 6, 18, 19, 20] (by ((repeat (first | simp only [W, eqq, ↓reduceIte, Nat.reduceEqDiff, Nat.reduceLT, Nat.reduceLeDiff, Nat.reduceAdd, Nat.reduceMul, Nat.reduceSub, Nat.reduceBEq, Int.reduceLE, Int.reduceLT, Int.reduceNeg, Int.reduceToNat, Int.reduceEq, Int.reduceBEq, Int.reduceBNe, Nat.reduceBNe, bne_self_eq_false, reduceCtorEq, gentry] | (rewrite [if_pos]; rotate_left; focus (first | omega | (simp only [LN, gentry]; omega) | (refine ⟨?_, ?_⟩ <;> (simp only [LN, gentry] <;> omega)))) | (rewrite [if_neg]; rotate_left; focus (first | omega | (simp only [LN, gentry]; omega) | (refine ⟨?_, ?_⟩ <;> (simp only [LN, gentry] <;> omega)))))); with_reducible rfl)) ?_
    refine AWP.seq ?_
    refine AWP.gseq X_ok cl22 [0, 2, 3, 4, 6, 18, 19, 20] (by ((repeat (first | simp only [W, eqq, ↓reduceIte, Nat.reduceEqDiff, Nat.reduceLT, Nat.reduceLeDiff, Nat.reduceAdd, Nat.reduceMul, Nat.reduceSub, Nat.reduceBEq, Int.reduceLE, Int.reduceLT, Int.reduceNeg, Int.reduceToNat, Int.reduceEq, Int.reduceBEq, Int.reduceBNe, Nat.reduceBNe, bne_self_eq_false, reduceCtorEq] | (rewrite [if_pos]; rotate_left; focus (first | omega | (simp only [LN]; omega) | (refine ⟨?_, ?_⟩ <;> (simp only [LN] <;> omega)))) | (rewrite [if_neg]; rotate_left; focus (first | omega | (simp only [LN]; omega) | (refine ⟨?_, ?_⟩ <;> (simp only [LN] <;> omega)))))); with_reducible rfl)) ?_
    refine AWP.condT (by simp only [W, eqq, ↓reduceIte, Nat.reduceEqDiff, Nat.reduceLT, Nat.reduceLeDiff, Nat.reduceAdd, Nat.reduceMul, Nat.reduceSub, Nat.reduceBEq, Int.reduceLE, Int.reduceLT, Int.reduceNeg, Int.reduceToNat, Int.reduceEq, Int.reduceBEq, Int.reduceBNe, Nat.reduceBNe, bne_self_eq_false, reduceCtorEq]) ?_
    refine AWP.gseq X_ok cl22 [0, 2, 3, 4, 6, 18, 19, 20] (by ((repeat (first | simp only [W, eqq, ↓reduceIte, Nat.reduceEqDiff, Nat.reduceLT, Nat.reduceLeDiff, Nat.reduceAdd, Nat.reduceMul, Nat.reduceSub, Nat.reduceBEq, Int.reduceLE, Int.reduceLT, Int.reduceNeg, Int.reduceToNat, Int.reduceEq, Int.reduceBEq, Int.reduceBNe, Nat.reduceBNe, bne_self_eq_false, reduceCtorEq] | (rewrite [if_pos]; rotate_left; focus (first | omega | (simp only [LN]; omega) | (refine ⟨?_, ?_⟩ <;> (simp only [LN] <;> omega)))) | (rewrite [if_neg]; rotate_left; focus (first | omega | (simp only [LN]; omega) | (refine ⟨?_, ?_⟩ <;> (simp only [LN] <;> omega)))))); with_reducible rfl)) ?_
    exact AWP.ret ⟨.inr rfl, [], [], (show okIds 0 [] by decide), rfl, rfl⟩
  · rename_i l off s n p
    split at hG
    case h_2 => cases hG
    rename_i n' hn'
    split at hG
    case isFalse => cases hG
    rename_i hc
    obtain ⟨hc1, hc2⟩ := hc
    cases hG
    obtain rfl := asSect_inv hn'
    refine AWP.gseq X_ok cl22 [0, 2, 3, 4, 6, 18, 19, 20] (by ((repeat (first | simp only [W, eqq, ↓reduceIte, Nat.reduceEqDiff, Nat.reduceLT, Nat.reduceLeDiff, Nat.reduceAdd, Nat.reduceMul, Nat.reduceSub, Nat.reduceBEq, Int.reduceLE, Int.reduceLT, Int.reduceNeg, Int.reduceToNat, Int.reduceEq, Int.reduceBEq, Int.reduceBNe, Nat.reduceBNe, bne_self_eq_false, reduceCtorEq, gentry] | (rewrite [if_pos]; rotate_left; focus (first | omega | (simp only [LN, gentry]; omega) | (refine ⟨?_, ?_⟩ <;> (simp only [LN, gentry] <;> omega)))) | (rewrite [if_neg]; rotate_left; focus (first | omega | (simp only [LN, gentry]; omega) | (refine ⟨?_, ?_⟩ <;> (simp only [LN, gentry] <;> omega)))))); with_reducible rfl)) ?_
    refine AWP.seq ?_
    refine AWP.gseq X_ok cl22 [0, 2, 3, 4, 6, 18, 19, 20] (by ((repeat (first | simp only [W, eqq, ↓reduceIte, Nat.reduceEqDiff, Nat.reduceLT, Nat.reduceLeDiff, Nat.reduceAdd, Nat.reduceMul, Nat.reduceSub, Nat.reduceBEq, Int.reduceLE, Int.reduceLT, Int.reduceNeg, Int.reduceToNat, Int.reduceEq, Int.reduceBEq, Int.reduceBNe, Nat.reduceBNe, bne_self_eq_false, reduceCtorEq] | (rewrite [if_pos]; rotate_left; focus (first | omega | (simp only [LN]; omega) | (refine ⟨?_, ?_⟩ <;> (simp only [LN] <;> omega)))) | (rewrite [if_neg]; rotate_left; focus (first | omega | (simp only [LN]; omega) | (refine ⟨?_, ?_⟩ <;> (simp only [LN] <;> omega)))))); with_reducible rfl)) ?_
    refine AWP.condF (by simp only [W, eqq, ↓reduceIte, Nat.reduceEqDiff, Nat.reduceLT, Nat.reduceLeDiff, Nat.reduceAdd, Nat.reduceMul, Nat.reduceSub, Nat.reduceBEq, Int.reduceLE, Int.reduceLT, Int.reduceNeg, Int.reduceToNat, Int.reduceEq, Int.reduceBEq, Int.reduceBNe, Nat.reduceBNe, bne_self_eq_false, reduceCtorEq]) (AWP.skip ?_)
    show AWP _ _ _ _ _ _
    have hm : IntKind.i64.wrap ((n'.length : Int) * 128) = ((n'.length * 128 : Nat) : Int) := by rw [wrap_i64 (by omega) (by omega)]; omega
    refine AWP.gseq X_ok cl22 [0, 2, 3, 4, 6, 18, 19, 20] (by ((repeat (first | simp only [W, eqq, ↓reduceIte, Nat.reduceEqDiff, Nat.reduceLT, Nat.reduceLeDiff, Nat.reduceAdd, Nat.reduceMul, Nat.reduceSub, Nat.reduceBEq, Int.reduceLE, Int.reduceLT, Int.reduceNeg, Int.reduceToNat, Int.reduceEq, Int.reduceBEq, Int.reduceBNe, Nat.reduceBNe, bne_self_eq_false, reduceCtorEq, hm] | (rewrite [if_pos]; rotate_left; focus (first | omega | (simp only [LN, hm]; omega) | (refine ⟨?_, ?_⟩ <;> (simp only [LN, hm] <;> omega)))) | (rewrite [if_neg]; rotate_left; focus (first | omega | (simp only [LN, hm]; omega) | (refine ⟨?_, ?_⟩ <;> (simp only [LN, hm] <;> omega)))))); with_reducible rfl)) ?_
    refine AWP.seq ?_
    refine AWP.gseq X_ok cl22 [0, 2, 3, 4, 6, 18, 19, 20] (by ((repeat (first | simp only [W, eqq, ↓reduceIte, Nat.reduceEqDiff, Nat.reduceLT, Nat.reduceLeDiff, Nat.reduceAdd, Nat.reduceMul, Nat.reduceSub, Nat.reduceBEq, Int.reduceLE, Int.reduceLT, Int.reduceNeg, Int.reduceToNat, Int.reduceEq, Int.reduceBEq, Int.reduceBNe, Nat.reduceBNe, bne_self_eq_false, reduceCtorEq] | (rewrite [if_pos]; rotate_left; focus (first | omega | (simp only [LN]; omega) | (refine ⟨?_, ?_⟩ <;> (simp only [LN] <;> omega)))) | (rewrite [if_neg]; rotate_left; focus (first | omega | (simp only [LN]; omega) | (refine ⟨?_, ?_⟩ <;> (simp only [LN] <;> omega)))))); with_reducible rfl)) ?_
    refine AWP.block ?_
    refine AWP.loop (G := { k : Nat // k ≤ n'.length }) (fun k => ⟨[(0, .ptr 0 0 []), (3, .own 4), (18, .t (.int .i64 (n'.length : Int))), (19, .t (.int .i64 (k.1 : Int)))], [dk 1 2 3 l off, .sq 128 s, .sq 128 (sect n'), .sq 129 p, .by (n'.take k.1).flatten]⟩) (fun k => n'.length - k.1) ⟨0, by omega⟩ (Weak.to [0, 3, 18, 19] [0, 1, 2, 3, 4] (show okIds 4 [0, 1, 2, 3, 4] by decide) (by simp only [W, eqq, ↓reduceIte, Nat.reduceEqDiff, Nat.reduceLT, Nat.reduceLeDiff, Nat.reduceAdd, Nat.reduceMul, Nat.reduceSub, Nat.reduceBEq, Int.reduceLE, Int.reduceLT, Int.reduceNeg, Int.reduceToNat, Int.reduceEq, Int.reduceBEq, Int.reduceBNe, Nat.reduceBNe, bne_self_eq_false, reduceCtorEq, List.take_zero, List.flatten_nil])) ?_
    intro ⟨k, hk⟩
    refine AWP.gseq X_ok cl22 [0, 2, 3, 4, 6, 18, 19, 20] (by ((repeat (first | simp only [W, eqq, ↓reduceIte, Nat.reduceEqDiff, Nat.reduceLT, Nat.reduceLeDiff, Nat.reduceAdd, Nat.reduceMul, Nat.reduceSub, Nat.reduceBEq, Int.reduceLE, Int.reduceLT, Int.reduceNeg, Int.reduceToNat, Int.reduceEq, Int.reduceBEq, Int.reduceBNe, Nat.reduceBNe, bne_self_eq_false, reduceCtorEq] | (rewrite [if_pos]; rotate_left; focus (first | omega | (simp only [LN]; omega) | (refine ⟨?_, ?_⟩ <;> (simp only [LN] <;> omega)))) | (rewrite [if_neg]; rotate_left; focus (first | omega | (simp only [LN]; omega) | (refine ⟨?_, ?_⟩ <;> (simp only [LN] <;> omega)))))); with_reducible rfl)) ?_
    by_cases hlt : (k : Int) < (n'.length : Int)
    · refine AWP.seq (AWP.condT (by simp only [W, eqq, ↓reduceIte, Nat.reduceEqDiff, Nat.reduceLT, Nat.reduceLeDiff, Nat.reduceAdd, Nat.reduceMul, Nat.reduceSub, Nat.reduceBEq, Int.reduceLE, Int.reduceLT, Int.reduceNeg, Int.reduceToNat, Int.reduceEq, Int.reduceBEq, Int.reduceBNe, Nat.reduceBNe, bne_self_eq_false, reduceCtorEq, hlt]) (AWP.skip ?_))
      show AWP _ _ _ _ _ _
      refine AWP.seq (AWP.block ?_)
      have hkl : k < n'.length := by omega
      have hold : (n'.getD k []).length = 128 := full128_get hc1 hkl
      have hsg := sect_get n' k hkl
      have ht : (n'.getD k []).take 128 = n'.getD k [] := List.take_of_length_le (by omega)
      have hfl : ((n'.take k).flatten ++ n'.getD k []).length ≤ 549755813888 := by
        have h1 : full128 (n'.take k) = true := List.all_eq_true.2 fun x hx => List.all_eq_true.1 hc1 x (List.mem_of_mem_take hx)
        rw [List.length_append, flatten_len _ h1, hold, List.length_take]; omega
      refine AWP.gseq X_ok cl22 [0, 2, 3, 4, 6, 18, 19, 20] (by ((repeat (first | simp only [W, eqq, ↓reduceIte, Nat.reduceEqDiff, Nat.reduceLT, Nat.reduceLeDiff, Nat.reduceAdd, Nat.reduceMul, Nat.reduceSub, Nat.reduceBEq, Int.reduceLE, Int.reduceLT, Int.reduceNeg, Int.reduceToNat, Int.reduceEq, Int.reduceBEq, Int.reduceBNe, Nat.reduceBNe, bne_self_eq_false, reduceCtorEq] | (rewrite [if_pos]; rotate_left; focus (first | omega | (simp only [LN]; omega) | (refine ⟨?_, ?_⟩ <;> (simp only [LN] <;> omega)))) | (rewrite [if_neg]; rotate_left; focus (first | omega | (simp only [LN]; omega) | (refine ⟨?_, ?_⟩ <;> (simp only [LN] <;> omega)))))); with_reducible rfl)) ?_
      refine AWP.greg X_ok cl22 [0, 2, 3, 4, 6, 18, 19, 20] (by ((repeat (first | simp only [W, eqq, ↓reduceIte, Nat.reduceEqDiff, Nat.reduceLT, Nat.reduceLeDiff, Nat.reduceAdd, Nat.reduceMul, Nat.reduceSub, Nat.reduceBEq, Int.reduceLE, Int.reduceLT, Int.reduceNeg, Int.reduceToNat, Int.reduceEq, Int.reduceBEq, Int.reduceBNe, Nat.reduceBNe, bne_self_eq_false, reduceCtorEq, hsg, hkl, hold, ht, hfl] | (rewrite [if_pos]; rotate_left; focus (first | omega | (simp only [LN, hsg, hkl, hold, ht, hfl]; omega) | (refine ⟨?_, ?_⟩ <;> (simp only [LN, hsg, hkl, hold, ht, hfl] <;> omega)))) | (rewrite [if_neg]; rotate_left; focus (first | omega | (simp only [LN, hsg, hkl, hold, ht, hfl]; omega) | (refine ⟨?_, ?_⟩ <;> (simp only [LN, hsg, hkl, hold, ht, hfl] <;> omega)))))); with_reducible rfl)) ?_
      show AWP _ _ _ _ _ _
      have hk1 : IntKind.i64.wrap ((k : Int) + 1) = ((k + 1 : Nat) : Int) := by rw [wrap_i64 (by omega) (by omega)]; omega
      refine AWP.greg X_ok cl22 [0, 2, 3, 4, 6, 18, 19, 20] (by ((repeat (first | simp only [W, eqq, ↓reduceIte, Nat.reduceEqDiff, Nat.reduceLT, Nat.reduceLeDiff, Nat.reduceAdd, Nat.reduceMul, Nat.reduceSub, Nat.reduceBEq, Int.reduceLE, Int.reduceLT, Int.reduceNeg, Int.reduceToNat, Int.reduceEq, Int.reduceBEq, Int.reduceBNe, Nat.reduceBNe, bne_self_eq_false, reduceCtorEq, hk1] | (rewrite [if_pos]; rotate_left; focus (first | omega | (simp only [LN, hk1]; omega) | (refine ⟨?_, ?_⟩ <;> (simp only [LN, hk1] <;> omega)))) | (rewrite [if_neg]; rotate_left; focus (first | omega | (simp only [LN, hk1]; omega) | (refine ⟨?_, ?_⟩ <;> (simp only [LN, hk1] <;> omega)))))); with_reducible rfl)) ?_
      have hstep : (n'.take (k + 1)).flatten = (n'.take k).flatten ++ n'.getD k [] := by
        rw [List.take_add_one, List.flatten_append, List.getD_eq_getElem?_getD, List.getElem?_eq_getElem hkl]; simp only [Option.toList, List.flatten_cons, List.flatten_nil, List.append_nil, Option.getD_some]
      exact ⟨⟨k + 1, by omega⟩, Weak.to [0, 3, 18, 19] [0, 1, 2, 3, 5] (show okIds 4 [0, 1, 2, 3, 5] by decide) (by simp only [W, eqq, ↓reduceIte, Nat.reduceEqDiff, Nat.reduceLT, Nat.reduceLeDiff, Nat.reduceAdd, Nat.reduceMul, Nat.reduceSub, Nat.reduceBEq, Int.reduceLE, Int.reduceLT, Int.reduceNeg, Int.reduceToNat, Int.reduceEq, Int.reduceBEq, Int.reduceBNe, Nat.reduceBNe, bne_self_eq_false, reduceCtorEq, hstep]), by simp only; omega⟩
    · refine AWP.seq (AWP.condF (by simp only [W, eqq, ↓reduceIte, Nat.reduceEqDiff, Nat.reduceLT, Nat.reduceLeDiff, Nat.reduceAdd, Nat.reduceMul, Nat.reduceSub, Nat.reduceBEq, Int.reduceLE, Int.reduceLT, Int.reduceNeg, Int.reduceToNat, Int.reduceEq, Int.reduceBEq, Int.reduceBNe, Nat.reduceBNe, bne_self_eq_false, reduceCtorEq, hlt]) (AWP.exit ?_))
      obtain rfl : k = n'.length := by omega
      show AWP _ _ _ _ _ _
      have e : n'.take n'.length = n' := List.take_length
      refine AWP.gseq X_ok cl22 [0, 2, 3, 4, 6, 18, 19, 20] (by ((repeat (first | simp only [W, eqq, ↓reduceIte, Nat.reduceEqDiff, Nat.reduceLT, Nat.reduceLeDiff, Nat.reduceAdd, Nat.reduceMul, Nat.reduceSub, Nat.reduceBEq, Int.reduceLE, Int.reduceLT, Int.reduceNeg, Int.reduceToNat, Int.reduceEq, Int.reduceBEq, Int.reduceBNe, Nat.reduceBNe, bne_self_eq_false, reduceCtorEq, e] | (rewrite [if_pos]; rotate_left; focus (first | omega | (simp only [LN, e]; omega) | (refine ⟨?_, ?_⟩ <;> (simp only [LN, e] <;> omega)))) | (rewrite [if_neg]; rotate_left; focus (first | omega | (simp only [LN, e]; omega) | (refine ⟨?_, ?_⟩ <;> (simp only [LN, e] <;> omega)))))); with_reducible rfl)) ?_
      exact AWP.ret ⟨.inr rfl, [], [0, 1, 2, 3, 4], (show okIds 4 [0, 1, 2, 3, 4] by decide), rfl, rfl⟩

def F7 : Fun
  | [.int .i64 i, .by b] => some ([], .t (.bool true))
  | _ => none

theorem cl7 : GClOk Try.prog [(8, ⟨[], treeG F8⟩), (11, ⟨[true, false, false], G11⟩), (12, ⟨[true], G12⟩), (13, ⟨[true, false], G13⟩), (14, ⟨[true, false], G14⟩), (17, ⟨[true, false], G17⟩), (18, ⟨[true], G18⟩), (22, ⟨[true], G22⟩), (24, ⟨[true], G24⟩)] := .cons c8.g (.cons g11 (.cons g12 (.cons g13 (.cons g14 (.cons g17 (.cons g18 (.cons g22 (.cons g24 (.nil _)))))))))

theorem c7 : ACon Try.prog 7 F7 := by
  refine acon (E := E) (rs := [(4, 4)]) Try.func7 rfl Try.ntmps7 (by kernel_rfl) rfl (by decide) F7 (np := 2) ?_ ?_
  · intro ts h; unfold F7; split <;> first | rfl | (simp at h; done)
  intro ts H r hF hwf
  unfold F7 at hF
  split at hF <;> try (cases hF; done)
  rename_i i b
  cases hF
  refine AWP.gseq X_ok cl7 [0, 1, 4, 5, 6, 7] (by ((repeat (first | simp only [W, eqq, ↓reduceIte, Nat.reduceEqDiff, Nat.reduceLT, Nat.reduceLeDiff, Nat.reduceAdd, Nat.reduceMul, Nat.reduceSub, Nat.reduceBEq, Int.reduceLE, Int.reduceLT, Int.reduceNeg, Int.reduceToNat, Int.reduceEq, Int.reduceBEq, Int.reduceBNe, Nat.reduceBNe, bne_self_eq_false, reduceCtorEq] | (rewrite [if_pos]; rotate_left; focus (first | omega | (simp only [LN]; omega) | (refine ⟨?_, ?_⟩ <;> (simp only [LN] <;> omega)))) | (rewrite [if_neg]; rotate_left; focus (first | omega | (simp only [LN]; omega) | (refine ⟨?_, ?_⟩ <;> (simp only [LN] <;> omega)))))); with_reducible rfl)) ?_
  refine AWP.gseq X_ok cl7 [0, 1, 4, 5, 6, 7] (by ((repeat (first | simp only [W, eqq, ↓reduceIte, Nat.reduceEqDiff, Nat.reduceLT, Nat.reduceLeDiff, Nat.reduceAdd, Nat.reduceMul, Nat.reduceSub, Nat.reduceBEq, Int.reduceLE, Int.reduceLT, Int.reduceNeg, Int.reduceToNat, Int.reduceEq, Int.reduceBEq, Int.reduceBNe, Nat.reduceBNe, bne_self_eq_false, reduceCtorEq] | (rewrite [if_pos]; rotate_left; focus (first | omega | (simp only [LN]; omega) | (refine ⟨?_, ?_⟩ <;> (simp only [LN] <;> omega)))) | (rewrite [if_neg]; rotate_left; focus (first | omega | (simp only [LN]; omega) | (refine ⟨?_, ?_⟩ <;> (simp only [LN] <;> omega)))))); with_reducible rfl)) ?_
  refine AWP.gseq X_ok cl7 [0, 1, 4, 5, 6, 7] (by ((repeat (first | simp only [W, eqq, ↓reduceIte, Nat.reduceEqDiff, Nat.reduceLT, Nat.reduceLeDiff, Nat.reduceAdd, Nat.reduceMul, Nat.reduceSub, Nat.reduceBEq, Int.reduceLE, Int.reduceLT, Int.reduceNeg, Int.reduceToNat, Int.reduceEq, Int.reduceBEq, Int.reduceBNe, Nat.reduceBNe, bne_self_eq_false, reduceCtorEq, G14] | (rewrite [if_pos]; rotate_left; focus (first | omega | (simp only [LN, G14]; omega) | (refine ⟨?_, ?_⟩ <;> (simp only [LN, G14] <;> omega)))) | (rewrite [if_neg]; rotate_left; focus (first | omega | (simp only [LN, G14]; omega) | (refine ⟨?_, ?_⟩ <;> (simp only [LN, G14] <;> omega)))))); with_reducible rfl)) ?_
  refine AWP.gseq X_ok cl7 [0, 1, 4, 5, 6, 7] (by ((repeat (first | simp only [W, eqq, ↓reduceIte, Nat.reduceEqDiff, Nat.reduceLT, Nat.reduceLeDiff, Nat.reduceAdd, Nat.reduceMul, Nat.reduceSub, Nat.reduceBEq, Int.reduceLE, Int.reduceLT, Int.reduceNeg, Int.reduceToNat, Int.reduceEq, Int.reduceBEq, Int.reduceBNe, Nat.reduceBNe, bne_self_eq_false, reduceCtorEq, G13] | (rewrite [if_pos]; rotate_left; focus (first | omega | (simp only [LN, G13]; omega) | (refine ⟨?_, ?_⟩ <;> (simp only [LN, G13] <;> omega)))) | (rewrite [if_neg]; rotate_left; focus (first | omega | (simp only [LN, G13]; omega) | (refine ⟨?_, ?_⟩ <;> (simp only [LN, G13] <;> omega)))))); with_reducible rfl)) ?_
  refine AWP.gseq X_ok cl7 [0, 1, 4, 5, 6, 7] (by ((repeat (first | simp only [W, eqq, ↓reduceIte, Nat.reduceEqDiff, Nat.reduceLT, Nat.reduceLeDiff, Nat.reduceAdd, Nat.reduceMul, Nat.reduceSub, Nat.reduceBEq, Int.reduceLE, Int.reduceLT, Int.reduceNeg, Int.reduceToNat, Int.reduceEq, Int.reduceBEq, Int.reduceBNe, Nat.reduceBNe, bne_self_eq_false, reduceCtorEq, G17] | (rewrite [if_pos]; rotate_left; focus (first | omega | (simp only [LN, G17]; omega) | (refine ⟨?_, ?_⟩ <;> (simp only [LN, G17] <;> omega)))) | (rewrite [if_neg]; rotate_left; focus (first | omega | (simp only [LN, G17]; omega) | (refine ⟨?_, ?_⟩ <;> (simp only [LN, G17] <;> omega)))))); with_reducible rfl)) ?_
  refine AWP.gseq X_ok cl7 [0, 1, 4, 5, 6, 7] (by ((repeat (first | simp only [W, eqq, ↓reduceIte, Nat.reduceEqDiff, Nat.reduceLT, Nat.reduceLeDiff, Nat.reduceAdd, Nat.reduceMul, Nat.reduceSub, Nat.reduceBEq, Int.reduceLE, Int.reduceLT, Int.reduceNeg, Int.reduceToNat, Int.reduceEq, Int.reduceBEq, Int.reduceBNe, Nat.reduceBNe, bne_self_eq_false, reduceCtorEq, F8, G11, G12, G18, G24, G22] | (rewrite [if_pos]; rotate_left; focus (first | omega | (simp only [LN, F8, G11, G12, G18, G24, G22]; omega) | (refine ⟨?_, ?_⟩ <;> (simp only [LN, F8, G11, G12, G18, G24, G22] <;> omega)))) | (rewrite [if_neg]; rotate_left; focus (first | omega | (simp only [LN, F8, G11, G12, G18, G24, G22]; omega) | (refine ⟨?_, ?_⟩ <;> (simp only [LN, F8, G11, G12, G18, G24, G22] <;> omega)))))); with_reducible rfl)) ?_
  exact AWP.ret ⟨.inr rfl, [], [], by decide, rfl, rfl⟩

end Go.Fw

end

section
/- Chapter 27: the law DiskOff. -/
namespace Go.Fw
open Go Go.Proofs
set_option linter.unusedVariables false
set_option linter.unusedSimpArgs false

theorem abits_31 (n : Int) : ∃ w : Nat, abits .and .i64 n 31 = (w : Int) ∧ w ≤ 31 := by
  have hp : ∃ a : Nat, abits .and .i64 n 31 = IntKind.i64.wrap ((a &&& 31 : Nat) : Int) := ⟨_, rfl⟩
  obtain ⟨a, ha⟩ := hp
  have h31 : a &&& 31 ≤ 31 := Nat.and_le_right
  exact ⟨a &&& 31, by rw [ha, wrap_i64 (by omega) (by omega)], h31⟩

/-- The fuse and the switch after i writes. -/
def fuL (K i : Nat) : Int := if i < K then ((K - i : Nat) : Int) else 0
def fuO (K i : Nat) : Bool := decide (K < i)

theorem spL_lit {K i : Nat} (h : i < K) : spL (fuL K i) (fuO K i) = (fuL K (i + 1), fuO K (i + 1), true) := by
  have h1 : fuO K i = false := by simp [fuO]; omega
  have h2 : fuO K (i + 1) = false := by simp [fuO]; omega
  have h3 : fuL K i = ((K - i : Nat) : Int) := by simp [fuL, h]
  have h4 : fuL K (i + 1) = ((K - i : Nat) : Int) - 1 := by unfold fuL; split <;> omega
  rw [h1, h2, h3, h4]
  unfold spL
  rw [if_neg (by omega), if_neg (by simp), if_pos (by omega)]
theorem spL_out {K i : Nat} (h : ¬ i < K) : spL (fuL K i) (fuO K i) = (fuL K (i + 1), fuO K (i + 1), false) := by
  have h2 : fuO K (i + 1) = true := by simp [fuO]; omega
  have h3 : fuL K i = 0 := by simp [fuL, h]
  have h4 : fuL K (i + 1) = 0 := by unfold fuL; rw [if_neg (by omega)]
  rw [h2, h3, h4]
  unfold spL
  rw [if_pos rfl]

/-- A disk's writes so far. -/
structure OffSt (w : Nat) where
  i : Nat
  n : List (List UInt8)
  p : List (Int × List UInt8)
  hi : i ≤ w
  hn : n.length = 4
  hf : full128 n = true
  hp : p.length ≤ i
  hfit : fitP 4 p = true
  hfp : full128P p = true

def OffSt.start (w : Nat) : OffSt w := ⟨0, List.replicate 4 (zby 128), [], by omega, rfl, by decide +kernel, by simp, rfl, rfl⟩

theorem fuL0 (K : Nat) : fuL K 0 = (K : Int) := by unfold fuL; split <;> simp_all
theorem fuO0 (K : Nat) : fuO K 0 = false := by simp [fuO]
abbrev z4 : List T := [T.ba 128 (zby 128), T.ba 128 (zby 128), T.ba 128 (zby 128), T.ba 128 (zby 128)]

theorem layO_full (t : List (List UInt8)) (ht : full128 t = true) (p : List (Int × List UInt8)) : ∀ n : List (List UInt8), full128 n = true → fitP t.length p = true → full128 (layO t n p) = true := by
  induction p with
  | nil => intro n h _; exact h
  | cons w p ih =>
    intro n h hp
    simp only [layO, List.foldl_cons] at ih ⊢
    have h1 := fitP_get hp (k := 0) (w := w) rfl
    have h2 : fitP t.length p = true := by simp only [fitP, List.all_cons, Bool.and_eq_true] at hp ⊢; exact hp.2
    exact ih _ (full128_set h _ (full128_get ht (by omega))) h2

def zz4 : List (List UInt8) := [zby 128, zby 128, zby 128, zby 128]
theorem asz4 : asSect z4 = some zz4 := rfl
theorem zz4_full : full128 zz4 = true := by decide +kernel
theorem zz4_len : zz4.length = 4 := rfl

def F5 : Fun
  | [.int .i64 n, .int .i64 k] => some ([], .t (.bool true))
  | _ => none

theorem cl5 : GClOk Try.prog [(8, ⟨[], treeG F8⟩), (9, ⟨[false], treeG F9⟩), (10, ⟨[false], treeG F10⟩), (11, ⟨[true, false, false], G11⟩), (12, ⟨[true], G12⟩), (13, ⟨[true, false], G13⟩), (14, ⟨[true, false], G14⟩), (17, ⟨[true, false], G17⟩), (18, ⟨[true], G18⟩)] := .cons c8.g (.cons c9.g (.cons c10.g (.cons g11 (.cons g12 (.cons g13 (.cons g14 (.cons g17 (.cons g18 (.nil _)))))))))

theorem c5 : ACon Try.prog 5 F5 := by
  refine acon (E := E) (rs := [(4, 4)]) Try.func5 rfl Try.ntmps5 (by kernel_rfl) rfl (by decide) F5 (np := 2) ?_ ?_
  · intro ts h; unfold F5; split <;> first | rfl | (simp at h; done)
  intro ts H r hF hwf
  unfold F5 at hF
  split at hF <;> try (cases hF; done)
  rename_i n k
  cases hF
  obtain ⟨w, hw, hw31⟩ := abits_31 n
  clear hwf
  obtain ⟨K, hK⟩ : ∃ K : Nat, K = k.toNat := ⟨_, rfl⟩
  have hK1 : (if 0 > k then 0 else k) = (K : Int) := by split <;> omega
  have hK2 : (if k > 0 then k else 0) = (K : Int) := by split <;> omega
  refine AWP.gseq X_ok cl5 [0, 1, 4, 5, 6, 7, 8, 9, 10, 12, 14, 26, 32, 38, 61] (by ((repeat (first | simp only [W, eqq, ↓reduceIte, Nat.reduceEqDiff, Nat.reduceLT, Nat.reduceLeDiff, Nat.reduceAdd, Nat.reduceMul, Nat.reduceSub, Nat.reduceBEq, Int.reduceLE, Int.reduceLT, Int.reduceNeg, Int.reduceToNat, Int.reduceEq, Int.reduceBEq, Int.reduceBNe, Nat.reduceBNe, bne_self_eq_false, reduceCtorEq] | (rewrite [if_pos]; rotate_left; focus (first | omega | (simp only [LN]; omega) | (refine ⟨?_, ?_⟩ <;> (simp only [LN] <;> omega)))) | (rewrite [if_neg]; rotate_left; focus (first | omega | (simp only [LN]; omega) | (refine ⟨?_, ?_⟩ <;> (simp only [LN] <;> omega)))))); with_reducible rfl)) ?_
  refine AWP.gseq X_ok cl5 [0, 1, 4, 5, 6, 7, 8, 9, 10, 12, 14, 26, 32, 38, 61] (by ((repeat (first | simp only [W, eqq, ↓reduceIte, Nat.reduceEqDiff, Nat.reduceLT, Nat.reduceLeDiff, Nat.reduceAdd, Nat.reduceMul, Nat.reduceSub, Nat.reduceBEq, Int.reduceLE, Int.reduceLT, Int.reduceNeg, Int.reduceToNat, Int.reduceEq, Int.reduceBEq, Int.reduceBNe, Nat.reduceBNe, bne_self_eq_false, reduceCtorEq, hw] | (rewrite [if_pos]; rotate_left; focus (first | omega | (simp only [LN, hw]; omega) | (refine ⟨?_, ?_⟩ <;> (simp only [LN, hw] <;> omega)))) | (rewrite [if_neg]; rotate_left; focus (first | omega | (simp only [LN, hw]; omega) | (refine ⟨?_, ?_⟩ <;> (simp only [LN, hw] <;> omega)))))); with_reducible rfl)) ?_
  refine AWP.gseq X_ok cl5 [0, 1, 4, 5, 6, 7, 8, 9, 10, 12, 14, 26, 32, 38, 61] (by ((repeat (first | simp only [W, eqq, ↓reduceIte, Nat.reduceEqDiff, Nat.reduceLT, Nat.reduceLeDiff, Nat.reduceAdd, Nat.reduceMul, Nat.reduceSub, Nat.reduceBEq, Int.reduceLE, Int.reduceLT, Int.reduceNeg, Int.reduceToNat, Int.reduceEq, Int.reduceBEq, Int.reduceBNe, Nat.reduceBNe, bne_self_eq_false, reduceCtorEq, F9] | (rewrite [if_pos]; rotate_left; focus (first | omega | (simp only [LN, F9]; omega) | (refine ⟨?_, ?_⟩ <;> (simp only [LN, F9] <;> omega)))) | (rewrite [if_neg]; rotate_left; focus (first | omega | (simp only [LN, F9]; omega) | (refine ⟨?_, ?_⟩ <;> (simp only [LN, F9] <;> omega)))))); with_reducible rfl)) ?_
  refine AWP.seq ?_
  refine AWP.gseq X_ok cl5 [0, 1, 4, 5, 6, 7, 8, 9, 10, 12, 14, 26, 32, 38, 61] (by ((repeat (first | simp only [W, eqq, ↓reduceIte, Nat.reduceEqDiff, Nat.reduceLT, Nat.reduceLeDiff, Nat.reduceAdd, Nat.reduceMul, Nat.reduceSub, Nat.reduceBEq, Int.reduceLE, Int.reduceLT, Int.reduceNeg, Int.reduceToNat, Int.reduceEq, Int.reduceBEq, Int.reduceBNe, Nat.reduceBNe, bne_self_eq_false, reduceCtorEq] | (rewrite [if_pos]; rotate_left; focus (first | omega | (simp only [LN]; omega) | (refine ⟨?_, ?_⟩ <;> (simp only [LN] <;> omega)))) | (rewrite [if_neg]; rotate_left; focus (first | omega | (simp only [LN]; omega) | (refine ⟨?_, ?_⟩ <;> (simp only [LN] <;> omega)))))); with_reducible rfl)) ?_
  refine AWP.condF (by simp only [W, eqq, ↓reduceIte, Nat.reduceEqDiff, Nat.reduceLT, Nat.reduceLeDiff, Nat.reduceAdd, Nat.reduceMul, Nat.reduceSub, Nat.reduceBEq, Int.reduceLE, Int.reduceLT, Int.reduceNeg, Int.reduceToNat, Int.reduceEq, Int.reduceBEq, Int.reduceBNe, Nat.reduceBNe, bne_self_eq_false, reduceCtorEq]) (AWP.skip ?_)
  show AWP _ _ _ _ _ _
  refine AWP.gseq X_ok cl5 [0, 1, 4, 5, 6, 7, 8, 9, 10, 12, 14, 26, 32, 38, 61] (by ((repeat (first | simp only [W, eqq, ↓reduceIte, Nat.reduceEqDiff, Nat.reduceLT, Nat.reduceLeDiff, Nat.reduceAdd, Nat.reduceMul, Nat.reduceSub, Nat.reduceBEq, Int.reduceLE, Int.reduceLT, Int.reduceNeg, Int.reduceToNat, Int.reduceEq, Int.reduceBEq, Int.reduceBNe, Nat.reduceBNe, bne_self_eq_false, reduceCtorEq, G17, hK1] | (rewrite [if_pos]; rotate_left; focus (first | omega | (simp only [LN, G17, hK1]; omega) | (refine ⟨?_, ?_⟩ <;> (simp only [LN, G17, hK1] <;> omega)))) | (rewrite [if_neg]; rotate_left; focus (first | omega | (simp only [LN, G17, hK1]; omega) | (refine ⟨?_, ?_⟩ <;> (simp only [LN, G17, hK1] <;> omega)))))); with_reducible rfl)) ?_
  refine AWP.seq ?_
  refine AWP.gseq X_ok cl5 [0, 1, 4, 5, 6, 7, 8, 9, 10, 12, 14, 26, 32, 38, 61] (by ((repeat (first | simp only [W, eqq, ↓reduceIte, Nat.reduceEqDiff, Nat.reduceLT, Nat.reduceLeDiff, Nat.reduceAdd, Nat.reduceMul, Nat.reduceSub, Nat.reduceBEq, Int.reduceLE, Int.reduceLT, Int.reduceNeg, Int.reduceToNat, Int.reduceEq, Int.reduceBEq, Int.reduceBNe, Nat.reduceBNe, bne_self_eq_false, reduceCtorEq] | (rewrite [if_pos]; rotate_left; focus (first | omega | (simp only [LN]; omega) | (refine ⟨?_, ?_⟩ <;> (simp only [LN] <;> omega)))) | (rewrite [if_neg]; rotate_left; focus (first | omega | (simp only [LN]; omega) | (refine ⟨?_, ?_⟩ <;> (simp only [LN] <;> omega)))))); with_reducible rfl)) ?_
  refine AWP.block ?_
  refine AWP.loop (G := OffSt w) (fun g => ⟨[(1, .t (.int .i64 k)), (4, .t (.bool false)), (5, .t (.int .i64 (w : Int))), (6, .ptr 0 0 []), (8, .t (.int .i64 (g.i : Int)))], [dk 1 2 3 (fuL K g.i) (fuO K g.i), .sq 128 z4, .sq 128 (sect g.n), .sq 129 (pnd g.p)]⟩) (fun g => w - g.i) (OffSt.start w) (Weak.to [1, 4, 5, 6, 8] [0, 1, 2, 3] (show okIds 0 [0, 1, 2, 3] by decide) (by simp only [W, eqq, ↓reduceIte, Nat.reduceEqDiff, Nat.reduceLT, Nat.reduceLeDiff, Nat.reduceAdd, Nat.reduceMul, Nat.reduceSub, Nat.reduceBEq, Int.reduceLE, Int.reduceLT, Int.reduceNeg, Int.reduceToNat, Int.reduceEq, Int.reduceBEq, Int.reduceBNe, Nat.reduceBNe, bne_self_eq_false, reduceCtorEq, OffSt.start, fuL0, fuO0])) ?_
  intro g
  refine AWP.seq ?_
  refine AWP.gseq X_ok cl5 [0, 1, 4, 5, 6, 7, 8, 9, 10, 12, 14, 26, 32, 38, 61] (by ((repeat (first | simp only [W, eqq, ↓reduceIte, Nat.reduceEqDiff, Nat.reduceLT, Nat.reduceLeDiff, Nat.reduceAdd, Nat.reduceMul, Nat.reduceSub, Nat.reduceBEq, Int.reduceLE, Int.reduceLT, Int.reduceNeg, Int.reduceToNat, Int.reduceEq, Int.reduceBEq, Int.reduceBNe, Nat.reduceBNe, bne_self_eq_false, reduceCtorEq] | (rewrite [if_pos]; rotate_left; focus (first | omega | (simp only [LN]; omega) | (refine ⟨?_, ?_⟩ <;> (simp only [LN] <;> omega)))) | (rewrite [if_neg]; rotate_left; focus (first | omega | (simp only [LN]; omega) | (refine ⟨?_, ?_⟩ <;> (simp only [LN] <;> omega)))))); with_reducible rfl)) ?_
  by_cases hlt : (g.i : Int) < (w : Int)
  · refine AWP.condT (by simp only [W, eqq, ↓reduceIte, Nat.reduceEqDiff, Nat.reduceLT, Nat.reduceLeDiff, Nat.reduceAdd, Nat.reduceMul, Nat.reduceSub, Nat.reduceBEq, Int.reduceLE, Int.reduceLT, Int.reduceNeg, Int.reduceToNat, Int.reduceEq, Int.reduceBEq, Int.reduceBNe, Nat.reduceBNe, bne_self_eq_false, reduceCtorEq, hlt]) (AWP.skip ?_)
    show AWP _ _ _ _ _ _
    refine AWP.seq (AWP.block ?_)
    refine AWP.seq ?_
    have hn := g.hn
    refine AWP.gseq X_ok cl5 [0, 1, 4, 5, 6, 7, 8, 9, 10, 12, 14, 26, 32, 38, 61] (by ((repeat (first | simp only [W, eqq, ↓reduceIte, Nat.reduceEqDiff, Nat.reduceLT, Nat.reduceLeDiff, Nat.reduceAdd, Nat.reduceMul, Nat.reduceSub, Nat.reduceBEq, Int.reduceLE, Int.reduceLT, Int.reduceNeg, Int.reduceToNat, Int.reduceEq, Int.reduceBEq, Int.reduceBNe, Nat.reduceBNe, bne_self_eq_false, reduceCtorEq, F10, G11, fullB_len, hn, cleanL_sect, cleanL_pnd] | (rewrite [if_pos]; rotate_left; focus (first | omega | (simp only [LN, F10, G11, fullB_len, hn, cleanL_sect, cleanL_pnd]; omega) | (refine ⟨?_, ?_⟩ <;> (simp only [LN, F10, G11, fullB_len, hn, cleanL_sect, cleanL_pnd] <;> omega)))) | (rewrite [if_neg]; rotate_left; focus (first | omega | (simp only [LN, F10, G11, fullB_len, hn, cleanL_sect, cleanL_pnd]; omega) | (refine ⟨?_, ?_⟩ <;> (simp only [LN, F10, G11, fullB_len, hn, cleanL_sect, cleanL_pnd] <;> omega)))))); with_reducible rfl)) ?_
    refine AWP.condF (by simp only [W, eqq, ↓reduceIte, Nat.reduceEqDiff, Nat.reduceLT, Nat.reduceLeDiff, Nat.reduceAdd, Nat.reduceMul, Nat.reduceSub, Nat.reduceBEq, Int.reduceLE, Int.reduceLT, Int.reduceNeg, Int.reduceToNat, Int.reduceEq, Int.reduceBEq, Int.reduceBNe, Nat.reduceBNe, bne_self_eq_false, reduceCtorEq]) (AWP.skip ?_)
    show AWP _ _ _ _ _ _
    have hrem : IntKind.i64.wrap ((g.i : Int).tmod 4) = ((g.i % 4 : Nat) : Int) := by
      have : (g.i : Int).tmod 4 = ((g.i % 4 : Nat) : Int) := by rw [Int.tmod_eq_emod_of_nonneg (by omega)]; omega
      rw [this, wrap_i64 (by omega) (by omega)]
    have hr4 : g.i % 4 < 4 := Nat.mod_lt _ (by omega)
    generalize hr : g.i % 4 = r at hrem hr4
    by_cases hK3 : g.i < K
    · have hsp := spL_lit hK3
      have hpl : g.p.length ≤ 1000000 := by have := g.hp; have := g.hi; omega
      have hgn : (List.map (T.ba 128) g.n).getD r default = .ba 128 (g.n.getD r []) := sect_get g.n r (by omega)
      have hr4i : (r : Int) < 4 := by omega
      have hset : ∀ X, (List.map (T.ba 128) g.n).set r (.ba 128 X) = List.map (T.ba 128) (g.n.set r X) := fun X => List.map_set.symm
      have hsno : ∀ X, List.map pnd1 g.p ++ [pnd1 ((r : Int), X)] = List.map pnd1 (g.p ++ [((r : Int), X)]) := fun X => by simp
      refine AWP.gseq X_ok cl5 [0, 1, 4, 5, 6, 7, 8, 9, 10, 12, 14, 26, 32, 38, 61] (by ((repeat (first | simp only [W, eqq, ↓reduceIte, Nat.reduceEqDiff, Nat.reduceLT, Nat.reduceLeDiff, Nat.reduceAdd, Nat.reduceMul, Nat.reduceSub, Nat.reduceBEq, Int.reduceLE, Int.reduceLT, Int.reduceNeg, Int.reduceToNat, Int.reduceEq, Int.reduceBEq, Int.reduceBNe, Nat.reduceBNe, bne_self_eq_false, reduceCtorEq, F10, G11, fullB_len, hn, hrem, hr4, hr4i, hset, hsno, hsp, hpl, hgn, cleanL_sect, cleanL_pnd] | (rewrite [if_pos]; rotate_left; focus (first | omega | (simp only [LN, F10, G11, fullB_len, hn, hrem, hr4, hr4i, hset, hsno, hsp, hpl, hgn, cleanL_sect, cleanL_pnd]; omega) | (refine ⟨?_, ?_⟩ <;> (simp only [LN, F10, G11, fullB_len, hn, hrem, hr4, hr4i, hset, hsno, hsp, hpl, hgn, cleanL_sect, cleanL_pnd] <;> omega)))) | (rewrite [if_neg]; rotate_left; focus (first | omega | (simp only [LN, F10, G11, fullB_len, hn, hrem, hr4, hr4i, hset, hsno, hsp, hpl, hgn, cleanL_sect, cleanL_pnd]; omega) | (refine ⟨?_, ?_⟩ <;> (simp only [LN, F10, G11, fullB_len, hn, hrem, hr4, hr4i, hset, hsno, hsp, hpl, hgn, cleanL_sect, cleanL_pnd] <;> omega)))))); with_reducible rfl)) ?_
      have hlK : (g.i : Int) < (K : Int) := by omega
      refine AWP.gseq X_ok cl5 [0, 1, 4, 5, 6, 7, 8, 9, 10, 12, 14, 26, 32, 38, 61] (by ((repeat (first | simp only [W, eqq, ↓reduceIte, Nat.reduceEqDiff, Nat.reduceLT, Nat.reduceLeDiff, Nat.reduceAdd, Nat.reduceMul, Nat.reduceSub, Nat.reduceBEq, Int.reduceLE, Int.reduceLT, Int.reduceNeg, Int.reduceToNat, Int.reduceEq, Int.reduceBEq, Int.reduceBNe, Nat.reduceBNe, bne_self_eq_false, reduceCtorEq, hK1, hlK] | (rewrite [if_pos]; rotate_left; focus (first | omega | (simp only [LN, hK1, hlK]; omega) | (refine ⟨?_, ?_⟩ <;> (simp only [LN, hK1, hlK] <;> omega)))) | (rewrite [if_neg]; rotate_left; focus (first | omega | (simp only [LN, hK1, hlK]; omega) | (refine ⟨?_, ?_⟩ <;> (simp only [LN, hK1, hlK] <;> omega)))))); with_reducible rfl)) ?_
      refine AWP.condF (by simp only [W, eqq, ↓reduceIte, Nat.reduceEqDiff, Nat.reduceLT, Nat.reduceLeDiff, Nat.reduceAdd, Nat.reduceMul, Nat.reduceSub, Nat.reduceBEq, Int.reduceLE, Int.reduceLT, Int.reduceNeg, Int.reduceToNat, Int.reduceEq, Int.reduceBEq, Int.reduceBNe, Nat.reduceBNe, bne_self_eq_false, reduceCtorEq]) (AWP.skip ?_)
      show AWP _ _ _ _ _ _
      have hk1 : IntKind.i64.wrap ((g.i : Int) + 1) = ((g.i + 1 : Nat) : Int) := by rw [wrap_i64 (by omega) (by omega)]; omega
      refine AWP.greg X_ok cl5 [0, 1, 4, 5, 6, 7, 8, 9, 10, 12, 14, 26, 32, 38, 61] (by ((repeat (first | simp only [W, eqq, ↓reduceIte, Nat.reduceEqDiff, Nat.reduceLT, Nat.reduceLeDiff, Nat.reduceAdd, Nat.reduceMul, Nat.reduceSub, Nat.reduceBEq, Int.reduceLE, Int.reduceLT, Int.reduceNeg, Int.reduceToNat, Int.reduceEq, Int.reduceBEq, Int.reduceBNe, Nat.reduceBNe, bne_self_eq_false, reduceCtorEq, hk1] | (rewrite [if_pos]; rotate_left; focus (first | omega | (simp only [LN, hk1]; omega) | (refine ⟨?_, ?_⟩ <;> (simp only [LN, hk1] <;> omega)))) | (rewrite [if_neg]; rotate_left; focus (first | omega | (simp only [LN, hk1]; omega) | (refine ⟨?_, ?_⟩ <;> (simp only [LN, hk1] <;> omega)))))); with_reducible rfl)) ?_
      generalize hX : fullB [UInt8.ofNat (IntKind.u8.wrap (g.i : Int)).toNat] = X
      have hXl : X.length = 128 := by rw [← hX]; exact fullB_len _
      exact ⟨⟨g.i + 1, g.n.set r X, g.p ++ [((r : Int), X)], by omega, by simp [hn], full128_set g.hf _ hXl, by have := g.hp; simp; omega, List.all_eq_true.2 (fun y hy => (List.mem_append.1 hy).elim (fun h => List.all_eq_true.1 g.hfit y h) (fun h => by simp at h; subst h; simp; omega)), List.all_eq_true.2 (fun y hy => (List.mem_append.1 hy).elim (fun h => List.all_eq_true.1 g.hfp y h) (fun h => by simp at h; subst h; simp [hXl]))⟩, Weak.to [1, 4, 5, 6, 8] [0, 1, 2, 7] (show okIds 0 [0, 1, 2, 7] by decide) (by simp only [W, eqq, ↓reduceIte, Nat.reduceEqDiff, Nat.reduceLT, Nat.reduceLeDiff, Nat.reduceAdd, Nat.reduceMul, Nat.reduceSub, Nat.reduceBEq, Int.reduceLE, Int.reduceLT, Int.reduceNeg, Int.reduceToNat, Int.reduceEq, Int.reduceBEq, Int.reduceBNe, Nat.reduceBNe, bne_self_eq_false, reduceCtorEq, hX]), by simp only; omega⟩
    · have hsp := spL_out hK3
      have hr4i : (r : Int) < 4 := by omega
      refine AWP.gseq X_ok cl5 [0, 1, 4, 5, 6, 7, 8, 9, 10, 12, 14, 26, 32, 38, 61] (by ((repeat (first | simp only [W, eqq, ↓reduceIte, Nat.reduceEqDiff, Nat.reduceLT, Nat.reduceLeDiff, Nat.reduceAdd, Nat.reduceMul, Nat.reduceSub, Nat.reduceBEq, Int.reduceLE, Int.reduceLT, Int.reduceNeg, Int.reduceToNat, Int.reduceEq, Int.reduceBEq, Int.reduceBNe, Nat.reduceBNe, bne_self_eq_false, reduceCtorEq, F10, G11, fullB_len, hn, hrem, hr4, hr4i, hsp, cleanL_sect, cleanL_pnd] | (rewrite [if_pos]; rotate_left; focus (first | omega | (simp only [LN, F10, G11, fullB_len, hn, hrem, hr4, hr4i, hsp, cleanL_sect, cleanL_pnd]; omega) | (refine ⟨?_, ?_⟩ <;> (simp only [LN, F10, G11, fullB_len, hn, hrem, hr4, hr4i, hsp, cleanL_sect, cleanL_pnd] <;> omega)))) | (rewrite [if_neg]; rotate_left; focus (first | omega | (simp only [LN, F10, G11, fullB_len, hn, hrem, hr4, hr4i, hsp, cleanL_sect, cleanL_pnd]; omega) | (refine ⟨?_, ?_⟩ <;> (simp only [LN, F10, G11, fullB_len, hn, hrem, hr4, hr4i, hsp, cleanL_sect, cleanL_pnd] <;> omega)))))); with_reducible rfl)) ?_
      have hk1 : IntKind.i64.wrap ((g.i : Int) + 1) = ((g.i + 1 : Nat) : Int) := by rw [wrap_i64 (by omega) (by omega)]; omega
      have hi0 : ¬ (g.i : Int) < 0 := by omega
      have hnext : ∃ g' : OffSt w, g'.i = g.i + 1 ∧ g'.n = g.n ∧ g'.p = g.p := ⟨⟨g.i + 1, g.n, g.p, by omega, g.hn, g.hf, by have := g.hp; omega, g.hfit, g.hfp⟩, rfl, rfl, rfl⟩
      obtain ⟨g', g1, g2, g3⟩ := hnext
      have hlK : ¬ (g.i : Int) < (K : Int) := by omega
      refine AWP.gseq X_ok cl5 [0, 1, 4, 5, 6, 7, 8, 9, 10, 12, 14, 26, 32, 38, 61] (by ((repeat (first | simp only [W, eqq, ↓reduceIte, Nat.reduceEqDiff, Nat.reduceLT, Nat.reduceLeDiff, Nat.reduceAdd, Nat.reduceMul, Nat.reduceSub, Nat.reduceBEq, Int.reduceLE, Int.reduceLT, Int.reduceNeg, Int.reduceToNat, Int.reduceEq, Int.reduceBEq, Int.reduceBNe, Nat.reduceBNe, bne_self_eq_false, reduceCtorEq, hK1, hlK] | (rewrite [if_pos]; rotate_left; focus (first | omega | (simp only [LN, hK1, hlK]; omega) | (refine ⟨?_, ?_⟩ <;> (simp only [LN, hK1, hlK] <;> omega)))) | (rewrite [if_neg]; rotate_left; focus (first | omega | (simp only [LN, hK1, hlK]; omega) | (refine ⟨?_, ?_⟩ <;> (simp only [LN, hK1, hlK] <;> omega)))))); with_reducible rfl)) ?_
      refine AWP.condF (by simp only [W, eqq, ↓reduceIte, Nat.reduceEqDiff, Nat.reduceLT, Nat.reduceLeDiff, Nat.reduceAdd, Nat.reduceMul, Nat.reduceSub, Nat.reduceBEq, Int.reduceLE, Int.reduceLT, Int.reduceNeg, Int.reduceToNat, Int.reduceEq, Int.reduceBEq, Int.reduceBNe, Nat.reduceBNe, bne_self_eq_false, reduceCtorEq]) (AWP.skip ?_)
      show AWP _ _ _ _ _ _
      refine AWP.greg X_ok cl5 [0, 1, 4, 5, 6, 7, 8, 9, 10, 12, 14, 26, 32, 38, 61] (by ((repeat (first | simp only [W, eqq, ↓reduceIte, Nat.reduceEqDiff, Nat.reduceLT, Nat.reduceLeDiff, Nat.reduceAdd, Nat.reduceMul, Nat.reduceSub, Nat.reduceBEq, Int.reduceLE, Int.reduceLT, Int.reduceNeg, Int.reduceToNat, Int.reduceEq, Int.reduceBEq, Int.reduceBNe, Nat.reduceBNe, bne_self_eq_false, reduceCtorEq, hk1] | (rewrite [if_pos]; rotate_left; focus (first | omega | (simp only [LN, hk1]; omega) | (refine ⟨?_, ?_⟩ <;> (simp only [LN, hk1] <;> omega)))) | (rewrite [if_neg]; rotate_left; focus (first | omega | (simp only [LN, hk1]; omega) | (refine ⟨?_, ?_⟩ <;> (simp only [LN, hk1] <;> omega)))))); with_reducible rfl)) ?_
      exact ⟨g', Weak.to [1, 4, 5, 6, 8] [0, 1, 2, 3] (show okIds 0 [0, 1, 2, 3] by decide) (by simp only [W, eqq, ↓reduceIte, Nat.reduceEqDiff, Nat.reduceLT, Nat.reduceLeDiff, Nat.reduceAdd, Nat.reduceMul, Nat.reduceSub, Nat.reduceBEq, Int.reduceLE, Int.reduceLT, Int.reduceNeg, Int.reduceToNat, Int.reduceEq, Int.reduceBEq, Int.reduceBNe, Nat.reduceBNe, bne_self_eq_false, reduceCtorEq, g1, g2, g3]), by simp only; omega⟩
  · refine AWP.condF (by simp only [W, eqq, ↓reduceIte, Nat.reduceEqDiff, Nat.reduceLT, Nat.reduceLeDiff, Nat.reduceAdd, Nat.reduceMul, Nat.reduceSub, Nat.reduceBEq, Int.reduceLE, Int.reduceLT, Int.reduceNeg, Int.reduceToNat, Int.reduceEq, Int.reduceBEq, Int.reduceBNe, Nat.reduceBNe, bne_self_eq_false, reduceCtorEq, hlt]) (AWP.exit ?_)
    show AWP _ _ _ _ _ _
    have hiw : g.i = w := by have := g.hi; omega
    have hn := g.hn
    have hf := g.hf
    have hfit := g.hfit
    have hfp := g.hfp
    have hpl : g.p.length ≤ 1000000 := by have := g.hp; have := g.hi; omega
    have hg0 : (List.map (T.ba 128) g.n).getD 0 default = .ba 128 (g.n.getD 0 []) := sect_get g.n 0 (by omega)
    have hl0 : (g.n.getD 0 []).length = 128 := full128_get hf (by omega)
    have am := asSect_map g.n
    have ap := asPnd_map g.p
    have hNf := layO_full zz4 zz4_full g.p g.n hf (by rw [zz4_len]; exact hfit)
    have hNl : (layO zz4 g.n g.p).length = 4 := by rw [layO_len]; exact hn
    have hlk : layK zz4 [] = zz4 := rfl
    have hfit' : fitP zz4.length g.p = true := hfit
    rw [hiw]
    by_cases hKw : K < w
    · have hO : fuO K w = true := by simp [fuO, hKw]
      have hKw' : (K : Int) < (w : Int) := by omega
      refine AWP.gseq X_ok cl5 [0, 1, 4, 5, 6, 7, 8, 9, 10, 12, 14, 26, 32, 38, 61] (by ((repeat (first | simp only [W, eqq, ↓reduceIte, Nat.reduceEqDiff, Nat.reduceLT, Nat.reduceLeDiff, Nat.reduceAdd, Nat.reduceMul, Nat.reduceSub, Nat.reduceBEq, Int.reduceLE, Int.reduceLT, Int.reduceNeg, Int.reduceToNat, Int.reduceEq, Int.reduceBEq, Int.reduceBNe, Nat.reduceBNe, bne_self_eq_false, reduceCtorEq, hK1, hKw', hO, gt_iff_lt] | (rewrite [if_pos]; rotate_left; focus (first | omega | (simp only [LN, hK1, hKw', hO, gt_iff_lt]; omega) | (refine ⟨?_, ?_⟩ <;> (simp only [LN, hK1, hKw', hO, gt_iff_lt] <;> omega)))) | (rewrite [if_neg]; rotate_left; focus (first | omega | (simp only [LN, hK1, hKw', hO, gt_iff_lt]; omega) | (refine ⟨?_, ?_⟩ <;> (simp only [LN, hK1, hKw', hO, gt_iff_lt] <;> omega)))))); with_reducible rfl)) ?_
      refine AWP.gseq X_ok cl5 [0, 1, 4, 5, 6, 7, 8, 9, 10, 12, 14, 26, 32, 38, 61] (by ((repeat (first | simp only [W, eqq, ↓reduceIte, Nat.reduceEqDiff, Nat.reduceLT, Nat.reduceLeDiff, Nat.reduceAdd, Nat.reduceMul, Nat.reduceSub, Nat.reduceBEq, Int.reduceLE, Int.reduceLT, Int.reduceNeg, Int.reduceToNat, Int.reduceEq, Int.reduceBEq, Int.reduceBNe, Nat.reduceBNe, bne_self_eq_false, reduceCtorEq, G14, hn, hg0, hl0, hO, cleanL_sect, cleanL_pnd] | (rewrite [if_pos]; rotate_left; focus (first | omega | (simp only [LN, G14, hn, hg0, hl0, hO, cleanL_sect, cleanL_pnd]; omega) | (refine ⟨?_, ?_⟩ <;> (simp only [LN, G14, hn, hg0, hl0, hO, cleanL_sect, cleanL_pnd] <;> omega)))) | (rewrite [if_neg]; rotate_left; focus (first | omega | (simp only [LN, G14, hn, hg0, hl0, hO, cleanL_sect, cleanL_pnd]; omega) | (refine ⟨?_, ?_⟩ <;> (simp only [LN, G14, hn, hg0, hl0, hO, cleanL_sect, cleanL_pnd] <;> omega)))))); with_reducible rfl)) ?_
      refine AWP.gseq X_ok cl5 [0, 1, 4, 5, 6, 7, 8, 9, 10, 12, 14, 26, 32, 38, 61] (by ((repeat (first | simp only [W, eqq, ↓reduceIte, Nat.reduceEqDiff, Nat.reduceLT, Nat.reduceLeDiff, Nat.reduceAdd, Nat.reduceMul, Nat.reduceSub, Nat.reduceBEq, Int.reduceLE, Int.reduceLT, Int.reduceNeg, Int.reduceToNat, Int.reduceEq, Int.reduceBEq, Int.reduceBNe, Nat.reduceBNe, bne_self_eq_false, reduceCtorEq, G13, am, ap, asz4, asInts_nil, hfit', hfp, zz4_full, hn, zz4_len, hpl, hlk, List.zip_nil_right, cleanL_sect, cleanL_pnd] | (rewrite [if_pos]; rotate_left; focus (first | omega | (simp only [LN, G13, am, ap, asz4, asInts_nil, hfit', hfp, zz4_full, hn, zz4_len, hpl, hlk, List.zip_nil_right, cleanL_sect, cleanL_pnd]; omega) | (refine ⟨?_, ?_⟩ <;> (simp only [LN, G13, am, ap, asz4, asInts_nil, hfit', hfp, zz4_full, hn, zz4_len, hpl, hlk, List.zip_nil_right, cleanL_sect, cleanL_pnd] <;> omega)))) | (rewrite [if_neg]; rotate_left; focus (first | omega | (simp only [LN, G13, am, ap, asz4, asInts_nil, hfit', hfp, zz4_full, hn, zz4_len, hpl, hlk, List.zip_nil_right, cleanL_sect, cleanL_pnd]; omega) | (refine ⟨?_, ?_⟩ <;> (simp only [LN, G13, am, ap, asz4, asInts_nil, hfit', hfp, zz4_full, hn, zz4_len, hpl, hlk, List.zip_nil_right, cleanL_sect, cleanL_pnd] <;> omega)))))); with_reducible rfl)) ?_
      generalize layO zz4 g.n g.p = N at hNf hNl
      have hN0 : (List.map (T.ba 128) N).getD 0 default = .ba 128 (N.getD 0 []) := sect_get N 0 (by omega)
      have hNl0 : (N.getD 0 []).length = 128 := full128_get hNf (by omega)
      have az := asSect_map zz4
      refine AWP.gseq X_ok cl5 [0, 1, 4, 5, 6, 7, 8, 9, 10, 12, 14, 26, 32, 38, 61] (by ((repeat (first | simp only [W, eqq, ↓reduceIte, Nat.reduceEqDiff, Nat.reduceLT, Nat.reduceLeDiff, Nat.reduceAdd, Nat.reduceMul, Nat.reduceSub, Nat.reduceBEq, Int.reduceLE, Int.reduceLT, Int.reduceNeg, Int.reduceToNat, Int.reduceEq, Int.reduceBEq, Int.reduceBNe, Nat.reduceBNe, bne_self_eq_false, reduceCtorEq, G14, zz4_len, hNl, hN0, hNl0, cleanL_sect, cleanL_pnd] | (rewrite [if_pos]; rotate_left; focus (first | omega | (simp only [LN, G14, zz4_len, hNl, hN0, hNl0, cleanL_sect, cleanL_pnd]; omega) | (refine ⟨?_, ?_⟩ <;> (simp only [LN, G14, zz4_len, hNl, hN0, hNl0, cleanL_sect, cleanL_pnd] <;> omega)))) | (rewrite [if_neg]; rotate_left; focus (first | omega | (simp only [LN, G14, zz4_len, hNl, hN0, hNl0, cleanL_sect, cleanL_pnd]; omega) | (refine ⟨?_, ?_⟩ <;> (simp only [LN, G14, zz4_len, hNl, hN0, hNl0, cleanL_sect, cleanL_pnd] <;> omega)))))); with_reducible rfl)) ?_
      refine AWP.gseq X_ok cl5 [0, 1, 4, 5, 6, 7, 8, 9, 10, 12, 14, 26, 32, 38, 61] (by ((repeat (first | simp only [W, eqq, ↓reduceIte, Nat.reduceEqDiff, Nat.reduceLT, Nat.reduceLeDiff, Nat.reduceAdd, Nat.reduceMul, Nat.reduceSub, Nat.reduceBEq, Int.reduceLE, Int.reduceLT, Int.reduceNeg, Int.reduceToNat, Int.reduceEq, Int.reduceBEq, Int.reduceBNe, Nat.reduceBNe, bne_self_eq_false, reduceCtorEq, F8, G12, G18, spL0, az, asPnd_nil, fitP, layP, List.foldl_nil, List.all_nil, zz4_len, cleanL_sect, cleanL_pnd] | (rewrite [if_pos]; rotate_left; focus (first | omega | (simp only [LN, F8, G12, G18, spL0, az, asPnd_nil, fitP, layP, List.foldl_nil, List.all_nil, zz4_len, cleanL_sect, cleanL_pnd]; omega) | (refine ⟨?_, ?_⟩ <;> (simp only [LN, F8, G12, G18, spL0, az, asPnd_nil, fitP, layP, List.foldl_nil, List.all_nil, zz4_len, cleanL_sect, cleanL_pnd] <;> omega)))) | (rewrite [if_neg]; rotate_left; focus (first | omega | (simp only [LN, F8, G12, G18, spL0, az, asPnd_nil, fitP, layP, List.foldl_nil, List.all_nil, zz4_len, cleanL_sect, cleanL_pnd]; omega) | (refine ⟨?_, ?_⟩ <;> (simp only [LN, F8, G12, G18, spL0, az, asPnd_nil, fitP, layP, List.foldl_nil, List.all_nil, zz4_len, cleanL_sect, cleanL_pnd] <;> omega)))))); with_reducible rfl)) ?_
      exact AWP.ret ⟨.inr rfl, [], [], by decide, rfl, rfl⟩
    · have hO : fuO K w = false := by simp [fuO]; omega
      have hKw' : ¬ (K : Int) < (w : Int) := by omega
      refine AWP.gseq X_ok cl5 [0, 1, 4, 5, 6, 7, 8, 9, 10, 12, 14, 26, 32, 38, 61] (by ((repeat (first | simp only [W, eqq, ↓reduceIte, Nat.reduceEqDiff, Nat.reduceLT, Nat.reduceLeDiff, Nat.reduceAdd, Nat.reduceMul, Nat.reduceSub, Nat.reduceBEq, Int.reduceLE, Int.reduceLT, Int.reduceNeg, Int.reduceToNat, Int.reduceEq, Int.reduceBEq, Int.reduceBNe, Nat.reduceBNe, bne_self_eq_false, reduceCtorEq, hK1, hKw', hO, gt_iff_lt] | (rewrite [if_pos]; rotate_left; focus (first | omega | (simp only [LN, hK1, hKw', hO, gt_iff_lt]; omega) | (refine ⟨?_, ?_⟩ <;> (simp only [LN, hK1, hKw', hO, gt_iff_lt] <;> omega)))) | (rewrite [if_neg]; rotate_left; focus (first | omega | (simp only [LN, hK1, hKw', hO, gt_iff_lt]; omega) | (refine ⟨?_, ?_⟩ <;> (simp only [LN, hK1, hKw', hO, gt_iff_lt] <;> omega)))))); with_reducible rfl)) ?_
      refine AWP.gseq X_ok cl5 [0, 1, 4, 5, 6, 7, 8, 9, 10, 12, 14, 26, 32, 38, 61] (by ((repeat (first | simp only [W, eqq, ↓reduceIte, Nat.reduceEqDiff, Nat.reduceLT, Nat.reduceLeDiff, Nat.reduceAdd, Nat.reduceMul, Nat.reduceSub, Nat.reduceBEq, Int.reduceLE, Int.reduceLT, Int.reduceNeg, Int.reduceToNat, Int.reduceEq, Int.reduceBEq, Int.reduceBNe, Nat.reduceBNe, bne_self_eq_false, reduceCtorEq, G14, hn, hg0, hl0, hO, cleanL_sect, cleanL_pnd] | (rewrite [if_pos]; rotate_left; focus (first | omega | (simp only [LN, G14, hn, hg0, hl0, hO, cleanL_sect, cleanL_pnd]; omega) | (refine ⟨?_, ?_⟩ <;> (simp only [LN, G14, hn, hg0, hl0, hO, cleanL_sect, cleanL_pnd] <;> omega)))) | (rewrite [if_neg]; rotate_left; focus (first | omega | (simp only [LN, G14, hn, hg0, hl0, hO, cleanL_sect, cleanL_pnd]; omega) | (refine ⟨?_, ?_⟩ <;> (simp only [LN, G14, hn, hg0, hl0, hO, cleanL_sect, cleanL_pnd] <;> omega)))))); with_reducible rfl)) ?_
      refine AWP.gseq X_ok cl5 [0, 1, 4, 5, 6, 7, 8, 9, 10, 12, 14, 26, 32, 38, 61] (by ((repeat (first | simp only [W, eqq, ↓reduceIte, Nat.reduceEqDiff, Nat.reduceLT, Nat.reduceLeDiff, Nat.reduceAdd, Nat.reduceMul, Nat.reduceSub, Nat.reduceBEq, Int.reduceLE, Int.reduceLT, Int.reduceNeg, Int.reduceToNat, Int.reduceEq, Int.reduceBEq, Int.reduceBNe, Nat.reduceBNe, bne_self_eq_false, reduceCtorEq, G13, am, ap, asz4, asInts_nil, hfit', hfp, zz4_full, hn, zz4_len, hpl, hlk, List.zip_nil_right, cleanL_sect, cleanL_pnd] | (rewrite [if_pos]; rotate_left; focus (first | omega | (simp only [LN, G13, am, ap, asz4, asInts_nil, hfit', hfp, zz4_full, hn, zz4_len, hpl, hlk, List.zip_nil_right, cleanL_sect, cleanL_pnd]; omega) | (refine ⟨?_, ?_⟩ <;> (simp only [LN, G13, am, ap, asz4, asInts_nil, hfit', hfp, zz4_full, hn, zz4_len, hpl, hlk, List.zip_nil_right, cleanL_sect, cleanL_pnd] <;> omega)))) | (rewrite [if_neg]; rotate_left; focus (first | omega | (simp only [LN, G13, am, ap, asz4, asInts_nil, hfit', hfp, zz4_full, hn, zz4_len, hpl, hlk, List.zip_nil_right, cleanL_sect, cleanL_pnd]; omega) | (refine ⟨?_, ?_⟩ <;> (simp only [LN, G13, am, ap, asz4, asInts_nil, hfit', hfp, zz4_full, hn, zz4_len, hpl, hlk, List.zip_nil_right, cleanL_sect, cleanL_pnd] <;> omega)))))); with_reducible rfl)) ?_
      generalize layO zz4 g.n g.p = N at hNf hNl
      have hN0 : (List.map (T.ba 128) N).getD 0 default = .ba 128 (N.getD 0 []) := sect_get N 0 (by omega)
      have hNl0 : (N.getD 0 []).length = 128 := full128_get hNf (by omega)
      have az := asSect_map zz4
      refine AWP.gseq X_ok cl5 [0, 1, 4, 5, 6, 7, 8, 9, 10, 12, 14, 26, 32, 38, 61] (by ((repeat (first | simp only [W, eqq, ↓reduceIte, Nat.reduceEqDiff, Nat.reduceLT, Nat.reduceLeDiff, Nat.reduceAdd, Nat.reduceMul, Nat.reduceSub, Nat.reduceBEq, Int.reduceLE, Int.reduceLT, Int.reduceNeg, Int.reduceToNat, Int.reduceEq, Int.reduceBEq, Int.reduceBNe, Nat.reduceBNe, bne_self_eq_false, reduceCtorEq, G14, zz4_len, hNl, hN0, hNl0, cleanL_sect, cleanL_pnd] | (rewrite [if_pos]; rotate_left; focus (first | omega | (simp only [LN, G14, zz4_len, hNl, hN0, hNl0, cleanL_sect, cleanL_pnd]; omega) | (refine ⟨?_, ?_⟩ <;> (simp only [LN, G14, zz4_len, hNl, hN0, hNl0, cleanL_sect, cleanL_pnd] <;> omega)))) | (rewrite [if_neg]; rotate_left; focus (first | omega | (simp only [LN, G14, zz4_len, hNl, hN0, hNl0, cleanL_sect, cleanL_pnd]; omega) | (refine ⟨?_, ?_⟩ <;> (simp only [LN, G14, zz4_len, hNl, hN0, hNl0, cleanL_sect, cleanL_pnd] <;> omega)))))); with_reducible rfl)) ?_
      refine AWP.gseq X_ok cl5 [0, 1, 4, 5, 6, 7, 8, 9, 10, 12, 14, 26, 32, 38, 61] (by ((repeat (first | simp only [W, eqq, ↓reduceIte, Nat.reduceEqDiff, Nat.reduceLT, Nat.reduceLeDiff, Nat.reduceAdd, Nat.reduceMul, Nat.reduceSub, Nat.reduceBEq, Int.reduceLE, Int.reduceLT, Int.reduceNeg, Int.reduceToNat, Int.reduceEq, Int.reduceBEq, Int.reduceBNe, Nat.reduceBNe, bne_self_eq_false, reduceCtorEq, F8, G12, G18, spL0, az, asPnd_nil, fitP, layP, List.foldl_nil, List.all_nil, zz4_len, cleanL_sect, cleanL_pnd] | (rewrite [if_pos]; rotate_left; focus (first | omega | (simp only [LN, F8, G12, G18, spL0, az, asPnd_nil, fitP, layP, List.foldl_nil, List.all_nil, zz4_len, cleanL_sect, cleanL_pnd]; omega) | (refine ⟨?_, ?_⟩ <;> (simp only [LN, F8, G12, G18, spL0, az, asPnd_nil, fitP, layP, List.foldl_nil, List.all_nil, zz4_len, cleanL_sect, cleanL_pnd] <;> omega)))) | (rewrite [if_neg]; rotate_left; focus (first | omega | (simp only [LN, F8, G12, G18, spL0, az, asPnd_nil, fitP, layP, List.foldl_nil, List.all_nil, zz4_len, cleanL_sect, cleanL_pnd]; omega) | (refine ⟨?_, ?_⟩ <;> (simp only [LN, F8, G12, G18, spL0, az, asPnd_nil, fitP, layP, List.foldl_nil, List.all_nil, zz4_len, cleanL_sect, cleanL_pnd] <;> omega)))))); with_reducible rfl)) ?_
      exact AWP.ret ⟨.inr rfl, [], [], by decide, rfl, rfl⟩

end Go.Fw

end
