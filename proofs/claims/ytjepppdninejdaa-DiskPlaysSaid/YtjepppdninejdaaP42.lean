/- The abstract machine, and the contracts of the code: part 42. -/
import Derived.Test.YtjepppdninejdaaP41

section
/- Chapter 27: the document's disk: Now, spend, Put, Sync, Fuse, Crash. -/
namespace Go.Fw
open Go Go.Proofs
set_option linter.unusedVariables false
set_option linter.unusedSimpArgs false

structure RD where
  s : List (List UInt8)
  p : List (Int × List UInt8)
  l : Int
  off : Bool
def RD.T (d : RD) : T := rdk d.s d.p d.l d.off
def RD.ok (d : RD) : Bool := fitP d.s.length d.p && full128 d.s && full128P d.p && decide (d.s.length ≤ 1000000) && decide (d.p.length ≤ 100000)

def asRD : T → Option RD
  | .st [.sq 1 ls, .sq 2 ws, .int .i64 l, .bool off] => match asStrs ls with
    | some s => match asRps ws with
      | some p => if (RD.mk s p l off).ok = true then some ⟨s, p, l, off⟩ else none
      | none => none
    | none => none
  | _ => none
theorem asRD_T {d : RD} (h : d.ok = true) : asRD d.T = some d := by
  simp only [RD.T, rdk, asRD, asStrs_map, asRps_map]
  rw [if_pos h]
theorem asRD_inv {t : T} {d : RD} (h : asRD t = some d) : t = d.T ∧ d.ok = true := by
  unfold asRD at h
  split at h
  · split at h
    · rename_i s hs
      split at h
      · rename_i p hp
        split at h
        · rename_i hok
          cases h
          rw [asStrs_inv hs, asRps_inv hp]
          exact ⟨rfl, hok⟩
        · cases h
      · cases h
    · cases h
  · cases h
theorem RD.ok_iff {d : RD} : d.ok = true ↔ fitP d.s.length d.p = true ∧ full128 d.s = true ∧ full128P d.p = true ∧ d.s.length ≤ 1000000 ∧ d.p.length ≤ 100000 := by
  simp only [RD.ok, Bool.and_eq_true, decide_eq_true_eq]
  constructor
  · rintro ⟨⟨⟨⟨a, b⟩, c⟩, d⟩, e⟩; exact ⟨a, b, c, d, e⟩
  · rintro ⟨a, b, c, d, e⟩; exact ⟨⟨⟨⟨a, b⟩, c⟩, d⟩, e⟩

def nowR (d : RD) : List (List UInt8) := laidN d.s d.p [] true d.p.length

theorem laid_call {d : RD} (h : d.ok = true) (ks : List Int) (wh : Bool) : F34 [.sq 1 (d.s.map T.str), .sq 2 (d.p.map rp1), .sq 1 (ks.map (T.int .i64)), .bool wh] = some ([], .t (.sq 1 ((laidN d.s d.p ks wh d.p.length).map T.str))) := by
  obtain ⟨h1, h2, h3, h4, h5⟩ := RD.ok_iff.1 h
  simp only [F34, asStrs_map, asRps_map, asInts_map]
  rw [if_pos ⟨by rw [h1, h2, h3]; rfl, h4, by omega⟩]

def F32 : Fun
  | [x] => match asRD x with
    | some d => some ([], .t (.sq 1 ((nowR d).map T.str)))
    | none => none
  | _ => none

theorem cl32 : GClOk Try.prog [(34, ⟨[false, false, false, false], treeG F34⟩)] := .cons c34.g (.nil _)

theorem c32 : ACon Try.prog 32 F32 := by
  refine aconc E_ok (rs := [.tmp 2 44]) Try.func32 rfl Try.ntmps32 (by kernel_rfl) rfl (by decide) F32 (np := 1) ?_ ?_
  · intro ts h; unfold F32; split <;> first | rfl | (simp at h; done)
  intro ts H r hF hwf
  unfold F32 at hF
  split at hF <;> try (cases hF; done)
  split at hF
  case h_2 => cases hF
  rename_i x d hd
  cases hF
  obtain ⟨rfl, hok⟩ := asRD_inv hd
  have hl : F34 [.sq 1 (d.s.map T.str), .sq 2 (d.p.map rp1), .sq 1 [], .bool true] = some ([], .t (.sq 1 ((nowR d).map T.str))) := laid_call hok [] true
  (repeat (first | refine AWP.gseq X_ok cl32 [0, 1, 2] (by ((repeat (first | simp only [W, eqq, ↓reduceIte, Nat.reduceEqDiff, Nat.reduceLT, Nat.reduceLeDiff, Nat.reduceAdd, Nat.reduceMul, Nat.reduceSub, Nat.reduceBEq, Int.reduceLE, Int.reduceLT, Int.reduceNeg, Int.reduceToNat, Int.reduceEq, Int.reduceBEq, Int.reduceBNe, Nat.reduceBNe, bne_self_eq_false, reduceCtorEq, gt_iff_lt, ge_iff_le, RD.T, rdk, hl] | (rewrite [if_pos]; rotate_left; focus (first | omega | (simp only [LN, RD.T, rdk, hl]; omega) | (refine ⟨?_, ?_⟩ <;> (simp only [LN, RD.T, rdk, hl] <;> omega)))) | (rewrite [if_neg]; rotate_left; focus (first | omega | (simp only [LN, RD.T, rdk, hl]; omega) | (refine ⟨?_, ?_⟩ <;> (simp only [LN, RD.T, rdk, hl] <;> omega)))))); with_reducible rfl)) ?_ | refine AWP.seq ?_ | refine AWP.block ?_ | (refine AWP.condT ?_ ?_; focus (simp only [W, eqq, ↓reduceIte, Nat.reduceEqDiff, Nat.reduceLT, Nat.reduceLeDiff, Nat.reduceAdd, Nat.reduceMul, Nat.reduceSub, Nat.reduceBEq, Int.reduceLE, Int.reduceLT, Int.reduceNeg, Int.reduceToNat, Int.reduceEq, Int.reduceBEq, Int.reduceBNe, Nat.reduceBNe, bne_self_eq_false, reduceCtorEq, gt_iff_lt, ge_iff_le, RD.T, rdk, hl]; done)) | (refine AWP.condF ?_ ?_; focus (simp only [W, eqq, ↓reduceIte, Nat.reduceEqDiff, Nat.reduceLT, Nat.reduceLeDiff, Nat.reduceAdd, Nat.reduceMul, Nat.reduceSub, Nat.reduceBEq, Int.reduceLE, Int.reduceLT, Int.reduceNeg, Int.reduceToNat, Int.reduceEq, Int.reduceBEq, Int.reduceBNe, Nat.reduceBNe, bne_self_eq_false, reduceCtorEq, gt_iff_lt, ge_iff_le, RD.T, rdk, hl]; done)) | (refine AWP.skip ?_; try show AWP _ _ _ _ _ _) | (refine AWP.exit ?_; try show AWP _ _ _ _ _ _) | (refine AWP.greg X_ok cl32 [0, 1, 2] (by ((repeat (first | simp only [W, eqq, ↓reduceIte, Nat.reduceEqDiff, Nat.reduceLT, Nat.reduceLeDiff, Nat.reduceAdd, Nat.reduceMul, Nat.reduceSub, Nat.reduceBEq, Int.reduceLE, Int.reduceLT, Int.reduceNeg, Int.reduceToNat, Int.reduceEq, Int.reduceBEq, Int.reduceBNe, Nat.reduceBNe, bne_self_eq_false, reduceCtorEq, gt_iff_lt, ge_iff_le, RD.T, rdk, hl] | (rewrite [if_pos]; rotate_left; focus (first | omega | (simp only [LN, RD.T, rdk, hl]; omega) | (refine ⟨?_, ?_⟩ <;> (simp only [LN, RD.T, rdk, hl] <;> omega)))) | (rewrite [if_neg]; rotate_left; focus (first | omega | (simp only [LN, RD.T, rdk, hl]; omega) | (refine ⟨?_, ?_⟩ <;> (simp only [LN, RD.T, rdk, hl] <;> omega)))))); with_reducible rfl)) ?_; try show AWP _ _ _ _ _ _)))
  refine AWP.ret ?_; show cretQ _ _ _ _ _ _ _; exact ⟨.inr rfl, [], [], (by decide), by simp only [cres, resVals, RS.val, thawV, freezeOnes, freezeOne, renH, one, AV.ren, AV.renL, Blk.ren, W, eqq, ↓reduceIte, Nat.reduceEqDiff, Nat.reduceLT, Nat.reduceLeDiff, Nat.reduceAdd, Nat.reduceMul, Nat.reduceSub, Nat.reduceBEq, Int.reduceLE, Int.reduceLT, Int.reduceNeg, Int.reduceToNat, Int.reduceEq, Int.reduceBEq, Int.reduceBNe, Nat.reduceBNe, bne_self_eq_false, reduceCtorEq, gt_iff_lt, ge_iff_le]⟩

def rsp (l : Int) (off : Bool) : Int × Bool × Bool := if off = true then (l, true, false) else if l = 0 then (l, true, false) else if 0 < l then (l - 1, false, true) else (l, false, true)

def F33 : Fun
  | [x] => match asRD x with
    | some d => some ([], .tup [.t (RD.T ⟨d.s, d.p, (rsp d.l d.off).1, (rsp d.l d.off).2.1⟩), .t (.bool (rsp d.l d.off).2.2)])
    | none => none
  | _ => none

theorem cl33 : GClOk Try.prog [] := GClOk.nil _

theorem c33 : ACon Try.prog 33 F33 := by
  refine aconc E_ok (rs := [.cell 2 47, .tmp 3 4]) Try.func33 rfl Try.ntmps33 (by kernel_rfl) rfl (by decide) F33 (np := 1) ?_ ?_
  · intro ts h; unfold F33; split <;> first | rfl | (simp at h; done)
  intro ts H r hF hwf
  unfold F33 at hF
  split at hF <;> try (cases hF; done)
  split at hF
  case h_2 => cases hF
  rename_i x d hd
  cases hF
  obtain ⟨rfl, hok⟩ := asRD_inv hd
  obtain ⟨s, p, l, off⟩ := d
  have hl : inK .i64 l := by
    have := hwf _ (List.mem_cons_self)
    simp only [RD.T, rdk, T.wf, T.wfL] at this
    exact this.2.2.1
  have hl2 : l ≤ 9223372036854775807 := hl.2
  cases off
  case true =>
    (repeat (first | refine AWP.gseq X_ok cl33 [0, 1, 2, 3, 5, 9, 14] (by ((repeat (first | simp only [W, eqq, ↓reduceIte, Nat.reduceEqDiff, Nat.reduceLT, Nat.reduceLeDiff, Nat.reduceAdd, Nat.reduceMul, Nat.reduceSub, Nat.reduceBEq, Int.reduceLE, Int.reduceLT, Int.reduceNeg, Int.reduceToNat, Int.reduceEq, Int.reduceBEq, Int.reduceBNe, Nat.reduceBNe, bne_self_eq_false, reduceCtorEq, gt_iff_lt, ge_iff_le, RD.T, rdk] | (rewrite [if_pos]; rotate_left; focus (first | omega | (simp only [LN, RD.T, rdk]; omega) | (refine ⟨?_, ?_⟩ <;> (simp only [LN, RD.T, rdk] <;> omega)))) | (rewrite [if_neg]; rotate_left; focus (first | omega | (simp only [LN, RD.T, rdk]; omega) | (refine ⟨?_, ?_⟩ <;> (simp only [LN, RD.T, rdk] <;> omega)))))); with_reducible rfl)) ?_ | refine AWP.seq ?_ | refine AWP.block ?_ | (refine AWP.condT ?_ ?_; focus (simp only [W, eqq, ↓reduceIte, Nat.reduceEqDiff, Nat.reduceLT, Nat.reduceLeDiff, Nat.reduceAdd, Nat.reduceMul, Nat.reduceSub, Nat.reduceBEq, Int.reduceLE, Int.reduceLT, Int.reduceNeg, Int.reduceToNat, Int.reduceEq, Int.reduceBEq, Int.reduceBNe, Nat.reduceBNe, bne_self_eq_false, reduceCtorEq, gt_iff_lt, ge_iff_le, RD.T, rdk]; done)) | (refine AWP.condF ?_ ?_; focus (simp only [W, eqq, ↓reduceIte, Nat.reduceEqDiff, Nat.reduceLT, Nat.reduceLeDiff, Nat.reduceAdd, Nat.reduceMul, Nat.reduceSub, Nat.reduceBEq, Int.reduceLE, Int.reduceLT, Int.reduceNeg, Int.reduceToNat, Int.reduceEq, Int.reduceBEq, Int.reduceBNe, Nat.reduceBNe, bne_self_eq_false, reduceCtorEq, gt_iff_lt, ge_iff_le, RD.T, rdk]; done)) | (refine AWP.skip ?_; try show AWP _ _ _ _ _ _) | (refine AWP.exit ?_; try show AWP _ _ _ _ _ _) | (refine AWP.greg X_ok cl33 [0, 1, 2, 3, 5, 9, 14] (by ((repeat (first | simp only [W, eqq, ↓reduceIte, Nat.reduceEqDiff, Nat.reduceLT, Nat.reduceLeDiff, Nat.reduceAdd, Nat.reduceMul, Nat.reduceSub, Nat.reduceBEq, Int.reduceLE, Int.reduceLT, Int.reduceNeg, Int.reduceToNat, Int.reduceEq, Int.reduceBEq, Int.reduceBNe, Nat.reduceBNe, bne_self_eq_false, reduceCtorEq, gt_iff_lt, ge_iff_le, RD.T, rdk] | (rewrite [if_pos]; rotate_left; focus (first | omega | (simp only [LN, RD.T, rdk]; omega) | (refine ⟨?_, ?_⟩ <;> (simp only [LN, RD.T, rdk] <;> omega)))) | (rewrite [if_neg]; rotate_left; focus (first | omega | (simp only [LN, RD.T, rdk]; omega) | (refine ⟨?_, ?_⟩ <;> (simp only [LN, RD.T, rdk] <;> omega)))))); with_reducible rfl)) ?_; try show AWP _ _ _ _ _ _)))
    refine AWP.ret ?_; show cretQ _ _ _ _ _ _ _; exact ⟨.inr rfl, [], [], (by decide), by simp only [cres, resVals, RS.val, thawV, freezeOnes, freezeOne, renH, one, AV.ren, AV.renL, Blk.ren, W, eqq, ↓reduceIte, Nat.reduceEqDiff, Nat.reduceLT, Nat.reduceLeDiff, Nat.reduceAdd, Nat.reduceMul, Nat.reduceSub, Nat.reduceBEq, Int.reduceLE, Int.reduceLT, Int.reduceNeg, Int.reduceToNat, Int.reduceEq, Int.reduceBEq, Int.reduceBNe, Nat.reduceBNe, bne_self_eq_false, reduceCtorEq, gt_iff_lt, ge_iff_le, RD.T, rdk, rsp]⟩
  by_cases h0 : l = 0
  · subst h0
    (repeat (first | refine AWP.gseq X_ok cl33 [0, 1, 2, 3, 5, 9, 14] (by ((repeat (first | simp only [W, eqq, ↓reduceIte, Nat.reduceEqDiff, Nat.reduceLT, Nat.reduceLeDiff, Nat.reduceAdd, Nat.reduceMul, Nat.reduceSub, Nat.reduceBEq, Int.reduceLE, Int.reduceLT, Int.reduceNeg, Int.reduceToNat, Int.reduceEq, Int.reduceBEq, Int.reduceBNe, Nat.reduceBNe, bne_self_eq_false, reduceCtorEq, gt_iff_lt, ge_iff_le, RD.T, rdk] | (rewrite [if_pos]; rotate_left; focus (first | omega | (simp only [LN, RD.T, rdk]; omega) | (refine ⟨?_, ?_⟩ <;> (simp only [LN, RD.T, rdk] <;> omega)))) | (rewrite [if_neg]; rotate_left; focus (first | omega | (simp only [LN, RD.T, rdk]; omega) | (refine ⟨?_, ?_⟩ <;> (simp only [LN, RD.T, rdk] <;> omega)))))); with_reducible rfl)) ?_ | refine AWP.seq ?_ | refine AWP.block ?_ | (refine AWP.condT ?_ ?_; focus (simp only [W, eqq, ↓reduceIte, Nat.reduceEqDiff, Nat.reduceLT, Nat.reduceLeDiff, Nat.reduceAdd, Nat.reduceMul, Nat.reduceSub, Nat.reduceBEq, Int.reduceLE, Int.reduceLT, Int.reduceNeg, Int.reduceToNat, Int.reduceEq, Int.reduceBEq, Int.reduceBNe, Nat.reduceBNe, bne_self_eq_false, reduceCtorEq, gt_iff_lt, ge_iff_le, RD.T, rdk]; done)) | (refine AWP.condF ?_ ?_; focus (simp only [W, eqq, ↓reduceIte, Nat.reduceEqDiff, Nat.reduceLT, Nat.reduceLeDiff, Nat.reduceAdd, Nat.reduceMul, Nat.reduceSub, Nat.reduceBEq, Int.reduceLE, Int.reduceLT, Int.reduceNeg, Int.reduceToNat, Int.reduceEq, Int.reduceBEq, Int.reduceBNe, Nat.reduceBNe, bne_self_eq_false, reduceCtorEq, gt_iff_lt, ge_iff_le, RD.T, rdk]; done)) | (refine AWP.skip ?_; try show AWP _ _ _ _ _ _) | (refine AWP.exit ?_; try show AWP _ _ _ _ _ _) | (refine AWP.greg X_ok cl33 [0, 1, 2, 3, 5, 9, 14] (by ((repeat (first | simp only [W, eqq, ↓reduceIte, Nat.reduceEqDiff, Nat.reduceLT, Nat.reduceLeDiff, Nat.reduceAdd, Nat.reduceMul, Nat.reduceSub, Nat.reduceBEq, Int.reduceLE, Int.reduceLT, Int.reduceNeg, Int.reduceToNat, Int.reduceEq, Int.reduceBEq, Int.reduceBNe, Nat.reduceBNe, bne_self_eq_false, reduceCtorEq, gt_iff_lt, ge_iff_le, RD.T, rdk] | (rewrite [if_pos]; rotate_left; focus (first | omega | (simp only [LN, RD.T, rdk]; omega) | (refine ⟨?_, ?_⟩ <;> (simp only [LN, RD.T, rdk] <;> omega)))) | (rewrite [if_neg]; rotate_left; focus (first | omega | (simp only [LN, RD.T, rdk]; omega) | (refine ⟨?_, ?_⟩ <;> (simp only [LN, RD.T, rdk] <;> omega)))))); with_reducible rfl)) ?_; try show AWP _ _ _ _ _ _)))
    refine AWP.ret ?_; show cretQ _ _ _ _ _ _ _; exact ⟨.inr rfl, [], [], (by decide), by simp only [cres, resVals, RS.val, thawV, freezeOnes, freezeOne, renH, one, AV.ren, AV.renL, Blk.ren, W, eqq, ↓reduceIte, Nat.reduceEqDiff, Nat.reduceLT, Nat.reduceLeDiff, Nat.reduceAdd, Nat.reduceMul, Nat.reduceSub, Nat.reduceBEq, Int.reduceLE, Int.reduceLT, Int.reduceNeg, Int.reduceToNat, Int.reduceEq, Int.reduceBEq, Int.reduceBNe, Nat.reduceBNe, bne_self_eq_false, reduceCtorEq, gt_iff_lt, ge_iff_le, RD.T, rdk, rsp]⟩
  have h0' : (l == 0) = false := by simp [h0]
  by_cases h1 : 0 < l
  · have hk1 : IntKind.i64.wrap (l - 1) = l - 1 := wrap_i64 (by omega) (by omega)
    (repeat (first | refine AWP.gseq X_ok cl33 [0, 1, 2, 3, 5, 9, 14] (by ((repeat (first | simp only [W, eqq, ↓reduceIte, Nat.reduceEqDiff, Nat.reduceLT, Nat.reduceLeDiff, Nat.reduceAdd, Nat.reduceMul, Nat.reduceSub, Nat.reduceBEq, Int.reduceLE, Int.reduceLT, Int.reduceNeg, Int.reduceToNat, Int.reduceEq, Int.reduceBEq, Int.reduceBNe, Nat.reduceBNe, bne_self_eq_false, reduceCtorEq, gt_iff_lt, ge_iff_le, RD.T, rdk, h0', h1, hk1] | (rewrite [if_pos]; rotate_left; focus (first | omega | (simp only [LN, RD.T, rdk, h0', h1, hk1]; omega) | (refine ⟨?_, ?_⟩ <;> (simp only [LN, RD.T, rdk, h0', h1, hk1] <;> omega)))) | (rewrite [if_neg]; rotate_left; focus (first | omega | (simp only [LN, RD.T, rdk, h0', h1, hk1]; omega) | (refine ⟨?_, ?_⟩ <;> (simp only [LN, RD.T, rdk, h0', h1, hk1] <;> omega)))))); with_reducible rfl)) ?_ | refine AWP.seq ?_ | refine AWP.block ?_ | (refine AWP.condT ?_ ?_; focus (simp only [W, eqq, ↓reduceIte, Nat.reduceEqDiff, Nat.reduceLT, Nat.reduceLeDiff, Nat.reduceAdd, Nat.reduceMul, Nat.reduceSub, Nat.reduceBEq, Int.reduceLE, Int.reduceLT, Int.reduceNeg, Int.reduceToNat, Int.reduceEq, Int.reduceBEq, Int.reduceBNe, Nat.reduceBNe, bne_self_eq_false, reduceCtorEq, gt_iff_lt, ge_iff_le, RD.T, rdk, h0', h1, hk1]; done)) | (refine AWP.condF ?_ ?_; focus (simp only [W, eqq, ↓reduceIte, Nat.reduceEqDiff, Nat.reduceLT, Nat.reduceLeDiff, Nat.reduceAdd, Nat.reduceMul, Nat.reduceSub, Nat.reduceBEq, Int.reduceLE, Int.reduceLT, Int.reduceNeg, Int.reduceToNat, Int.reduceEq, Int.reduceBEq, Int.reduceBNe, Nat.reduceBNe, bne_self_eq_false, reduceCtorEq, gt_iff_lt, ge_iff_le, RD.T, rdk, h0', h1, hk1]; done)) | (refine AWP.skip ?_; try show AWP _ _ _ _ _ _) | (refine AWP.exit ?_; try show AWP _ _ _ _ _ _) | (refine AWP.greg X_ok cl33 [0, 1, 2, 3, 5, 9, 14] (by ((repeat (first | simp only [W, eqq, ↓reduceIte, Nat.reduceEqDiff, Nat.reduceLT, Nat.reduceLeDiff, Nat.reduceAdd, Nat.reduceMul, Nat.reduceSub, Nat.reduceBEq, Int.reduceLE, Int.reduceLT, Int.reduceNeg, Int.reduceToNat, Int.reduceEq, Int.reduceBEq, Int.reduceBNe, Nat.reduceBNe, bne_self_eq_false, reduceCtorEq, gt_iff_lt, ge_iff_le, RD.T, rdk, h0', h1, hk1] | (rewrite [if_pos]; rotate_left; focus (first | omega | (simp only [LN, RD.T, rdk, h0', h1, hk1]; omega) | (refine ⟨?_, ?_⟩ <;> (simp only [LN, RD.T, rdk, h0', h1, hk1] <;> omega)))) | (rewrite [if_neg]; rotate_left; focus (first | omega | (simp only [LN, RD.T, rdk, h0', h1, hk1]; omega) | (refine ⟨?_, ?_⟩ <;> (simp only [LN, RD.T, rdk, h0', h1, hk1] <;> omega)))))); with_reducible rfl)) ?_; try show AWP _ _ _ _ _ _)))
    refine AWP.ret ?_; show cretQ _ _ _ _ _ _ _; exact ⟨.inr rfl, [], [], (by decide), by simp only [cres, resVals, RS.val, thawV, freezeOnes, freezeOne, renH, one, AV.ren, AV.renL, Blk.ren, W, eqq, ↓reduceIte, Nat.reduceEqDiff, Nat.reduceLT, Nat.reduceLeDiff, Nat.reduceAdd, Nat.reduceMul, Nat.reduceSub, Nat.reduceBEq, Int.reduceLE, Int.reduceLT, Int.reduceNeg, Int.reduceToNat, Int.reduceEq, Int.reduceBEq, Int.reduceBNe, Nat.reduceBNe, bne_self_eq_false, reduceCtorEq, gt_iff_lt, ge_iff_le, RD.T, rdk, rsp, h1, h0]⟩
  · (repeat (first | refine AWP.gseq X_ok cl33 [0, 1, 2, 3, 5, 9, 14] (by ((repeat (first | simp only [W, eqq, ↓reduceIte, Nat.reduceEqDiff, Nat.reduceLT, Nat.reduceLeDiff, Nat.reduceAdd, Nat.reduceMul, Nat.reduceSub, Nat.reduceBEq, Int.reduceLE, Int.reduceLT, Int.reduceNeg, Int.reduceToNat, Int.reduceEq, Int.reduceBEq, Int.reduceBNe, Nat.reduceBNe, bne_self_eq_false, reduceCtorEq, gt_iff_lt, ge_iff_le, RD.T, rdk, h0', h1] | (rewrite [if_pos]; rotate_left; focus (first | omega | (simp only [LN, RD.T, rdk, h0', h1]; omega) | (refine ⟨?_, ?_⟩ <;> (simp only [LN, RD.T, rdk, h0', h1] <;> omega)))) | (rewrite [if_neg]; rotate_left; focus (first | omega | (simp only [LN, RD.T, rdk, h0', h1]; omega) | (refine ⟨?_, ?_⟩ <;> (simp only [LN, RD.T, rdk, h0', h1] <;> omega)))))); with_reducible rfl)) ?_ | refine AWP.seq ?_ | refine AWP.block ?_ | (refine AWP.condT ?_ ?_; focus (simp only [W, eqq, ↓reduceIte, Nat.reduceEqDiff, Nat.reduceLT, Nat.reduceLeDiff, Nat.reduceAdd, Nat.reduceMul, Nat.reduceSub, Nat.reduceBEq, Int.reduceLE, Int.reduceLT, Int.reduceNeg, Int.reduceToNat, Int.reduceEq, Int.reduceBEq, Int.reduceBNe, Nat.reduceBNe, bne_self_eq_false, reduceCtorEq, gt_iff_lt, ge_iff_le, RD.T, rdk, h0', h1]; done)) | (refine AWP.condF ?_ ?_; focus (simp only [W, eqq, ↓reduceIte, Nat.reduceEqDiff, Nat.reduceLT, Nat.reduceLeDiff, Nat.reduceAdd, Nat.reduceMul, Nat.reduceSub, Nat.reduceBEq, Int.reduceLE, Int.reduceLT, Int.reduceNeg, Int.reduceToNat, Int.reduceEq, Int.reduceBEq, Int.reduceBNe, Nat.reduceBNe, bne_self_eq_false, reduceCtorEq, gt_iff_lt, ge_iff_le, RD.T, rdk, h0', h1]; done)) | (refine AWP.skip ?_; try show AWP _ _ _ _ _ _) | (refine AWP.exit ?_; try show AWP _ _ _ _ _ _) | (refine AWP.greg X_ok cl33 [0, 1, 2, 3, 5, 9, 14] (by ((repeat (first | simp only [W, eqq, ↓reduceIte, Nat.reduceEqDiff, Nat.reduceLT, Nat.reduceLeDiff, Nat.reduceAdd, Nat.reduceMul, Nat.reduceSub, Nat.reduceBEq, Int.reduceLE, Int.reduceLT, Int.reduceNeg, Int.reduceToNat, Int.reduceEq, Int.reduceBEq, Int.reduceBNe, Nat.reduceBNe, bne_self_eq_false, reduceCtorEq, gt_iff_lt, ge_iff_le, RD.T, rdk, h0', h1] | (rewrite [if_pos]; rotate_left; focus (first | omega | (simp only [LN, RD.T, rdk, h0', h1]; omega) | (refine ⟨?_, ?_⟩ <;> (simp only [LN, RD.T, rdk, h0', h1] <;> omega)))) | (rewrite [if_neg]; rotate_left; focus (first | omega | (simp only [LN, RD.T, rdk, h0', h1]; omega) | (refine ⟨?_, ?_⟩ <;> (simp only [LN, RD.T, rdk, h0', h1] <;> omega)))))); with_reducible rfl)) ?_; try show AWP _ _ _ _ _ _)))
    refine AWP.ret ?_; show cretQ _ _ _ _ _ _ _; exact ⟨.inr rfl, [], [], (by decide), by simp only [cres, resVals, RS.val, thawV, freezeOnes, freezeOne, renH, one, AV.ren, AV.renL, Blk.ren, W, eqq, ↓reduceIte, Nat.reduceEqDiff, Nat.reduceLT, Nat.reduceLeDiff, Nat.reduceAdd, Nat.reduceMul, Nat.reduceSub, Nat.reduceBEq, Int.reduceLE, Int.reduceLT, Int.reduceNeg, Int.reduceToNat, Int.reduceEq, Int.reduceBEq, Int.reduceBNe, Nat.reduceBNe, bne_self_eq_false, reduceCtorEq, gt_iff_lt, ge_iff_le, RD.T, rdk, rsp, h1, h0]⟩

theorem spend_call {d : RD} (h : d.ok = true) : F33 [.st [.sq 1 (d.s.map T.str), .sq 2 (d.p.map rp1), .int .i64 d.l, .bool d.off]] = some ([], .tup [.t (RD.T ⟨d.s, d.p, (rsp d.l d.off).1, (rsp d.l d.off).2.1⟩), .t (.bool (rsp d.l d.off).2.2)]) := by
  have := asRD_T h
  simp only [RD.T, rdk] at this
  simp only [F33, this]

end Go.Fw

end

section
/- Chapter 27: the document's disk: Put, Sync, Fuse, Crash. -/
namespace Go.Fw
open Go Go.Proofs
set_option linter.unusedVariables false
set_option linter.unusedSimpArgs false

def F28 : Fun
  | [x, .int .i64 i, .by b] => match asRD x with
    | some d => if i < 0 ∨ (d.s.length : Int) ≤ i ∨ b.length ≠ 128 then some ([], .tup [.t d.T, .t (.int .i64 1)])
      else if (rsp d.l d.off).2.2 = false then some ([], .tup [.t (RD.T ⟨d.s, d.p, (rsp d.l d.off).1, (rsp d.l d.off).2.1⟩), .t (.int .i64 7)])
      else some ([], .tup [.t (RD.T ⟨d.s, d.p ++ [(i, b)], (rsp d.l d.off).1, (rsp d.l d.off).2.1⟩), .t (.int .i64 0)])
    | none => none
  | _ => none

theorem cl28 : GClOk Try.prog [(33, ⟨[false], treeG F33⟩)] := .cons c33.g (.nil _)

set_option maxHeartbeats 1000000 in
theorem c28 : ACon Try.prog 28 F28 := by
  refine aconc E_ok (rs := [.cell 6 47, .tmp 7 25]) Try.func28 rfl Try.ntmps28 (by kernel_rfl) rfl (by decide) F28 (np := 3) ?_ ?_
  · intro ts h; unfold F28; split <;> first | rfl | (simp at h; done)
  intro ts H r hF hwf
  unfold F28 at hF
  split at hF <;> try (cases hF; done)
  rename_i x i b
  split at hF
  case h_2 => cases hF
  rename_i d hd
  obtain ⟨rfl, hok⟩ := asRD_inv hd
  have hsp := spend_call hok
  obtain ⟨s, p, l, off⟩ := d
  obtain ⟨hfit, hfs, hfp, hsl, hpl⟩ := RD.ok_iff.1 hok
  simp only at hF hsp hfit hfs hfp hsl hpl
  by_cases h1 : i < 0
  · rw [if_pos (.inl h1)] at hF
    cases hF
    (repeat (first | refine AWP.gseq X_ok cl28 [0, 1, 2, 3, 6, 7, 8, 9, 23, 31] (by ((repeat (first | simp only [W, eqq, ↓reduceIte, Nat.reduceEqDiff, Nat.reduceLT, Nat.reduceLeDiff, Nat.reduceAdd, Nat.reduceMul, Nat.reduceSub, Nat.reduceBEq, Int.reduceLE, Int.reduceLT, Int.reduceNeg, Int.reduceToNat, Int.reduceEq, Int.reduceBEq, Int.reduceBNe, Nat.reduceBNe, bne_self_eq_false, reduceCtorEq, gt_iff_lt, ge_iff_le, RD.T, rdk, h1] | (rewrite [if_pos]; rotate_left; focus (first | omega | (simp only [LN, RD.T, rdk, h1]; omega) | (refine ⟨?_, ?_⟩ <;> (simp only [LN, RD.T, rdk, h1] <;> omega)))) | (rewrite [if_neg]; rotate_left; focus (first | omega | (simp only [LN, RD.T, rdk, h1]; omega) | (refine ⟨?_, ?_⟩ <;> (simp only [LN, RD.T, rdk, h1] <;> omega)))))); with_reducible rfl)) ?_ | refine AWP.seq ?_ | refine AWP.block ?_ | (refine AWP.condT ?_ ?_; focus (simp only [W, eqq, ↓reduceIte, Nat.reduceEqDiff, Nat.reduceLT, Nat.reduceLeDiff, Nat.reduceAdd, Nat.reduceMul, Nat.reduceSub, Nat.reduceBEq, Int.reduceLE, Int.reduceLT, Int.reduceNeg, Int.reduceToNat, Int.reduceEq, Int.reduceBEq, Int.reduceBNe, Nat.reduceBNe, bne_self_eq_false, reduceCtorEq, gt_iff_lt, ge_iff_le, RD.T, rdk, h1]; done)) | (refine AWP.condF ?_ ?_; focus (simp only [W, eqq, ↓reduceIte, Nat.reduceEqDiff, Nat.reduceLT, Nat.reduceLeDiff, Nat.reduceAdd, Nat.reduceMul, Nat.reduceSub, Nat.reduceBEq, Int.reduceLE, Int.reduceLT, Int.reduceNeg, Int.reduceToNat, Int.reduceEq, Int.reduceBEq, Int.reduceBNe, Nat.reduceBNe, bne_self_eq_false, reduceCtorEq, gt_iff_lt, ge_iff_le, RD.T, rdk, h1]; done)) | (refine AWP.skip ?_; try show AWP _ _ _ _ _ _) | (refine AWP.exit ?_; try show AWP _ _ _ _ _ _) | (refine AWP.greg X_ok cl28 [0, 1, 2, 3, 6, 7, 8, 9, 23, 31] (by ((repeat (first | simp only [W, eqq, ↓reduceIte, Nat.reduceEqDiff, Nat.reduceLT, Nat.reduceLeDiff, Nat.reduceAdd, Nat.reduceMul, Nat.reduceSub, Nat.reduceBEq, Int.reduceLE, Int.reduceLT, Int.reduceNeg, Int.reduceToNat, Int.reduceEq, Int.reduceBEq, Int.reduceBNe, Nat.reduceBNe, bne_self_eq_false, reduceCtorEq, gt_iff_lt, ge_iff_le, RD.T, rdk, h1] | (rewrite [if_pos]; rotate_left; focus (first | omega | (simp only [LN, RD.T, rdk, h1]; omega) | (refine ⟨?_, ?_⟩ <;> (simp only [LN, RD.T, rdk, h1] <;> omega)))) | (rewrite [if_neg]; rotate_left; focus (first | omega | (simp only [LN, RD.T, rdk, h1]; omega) | (refine ⟨?_, ?_⟩ <;> (simp only [LN, RD.T, rdk, h1] <;> omega)))))); with_reducible rfl)) ?_; try show AWP _ _ _ _ _ _)))
    refine AWP.ret ?_; show cretQ _ _ _ _ _ _ _; exact ⟨.inr rfl, [], [], (by decide), by simp only [cres, resVals, RS.val, thawV, freezeOnes, freezeOne, renH, one, AV.ren, AV.renL, Blk.ren, W, eqq, ↓reduceIte, Nat.reduceEqDiff, Nat.reduceLT, Nat.reduceLeDiff, Nat.reduceAdd, Nat.reduceMul, Nat.reduceSub, Nat.reduceBEq, Int.reduceLE, Int.reduceLT, Int.reduceNeg, Int.reduceToNat, Int.reduceEq, Int.reduceBEq, Int.reduceBNe, Nat.reduceBNe, bne_self_eq_false, reduceCtorEq, gt_iff_lt, ge_iff_le, RD.T, rdk]⟩
  by_cases h2 : (s.length : Int) ≤ i
  · rw [if_pos (.inr (.inl h2))] at hF
    cases hF
    (repeat (first | refine AWP.gseq X_ok cl28 [0, 1, 2, 3, 6, 7, 8, 9, 23, 31] (by ((repeat (first | simp only [W, eqq, ↓reduceIte, Nat.reduceEqDiff, Nat.reduceLT, Nat.reduceLeDiff, Nat.reduceAdd, Nat.reduceMul, Nat.reduceSub, Nat.reduceBEq, Int.reduceLE, Int.reduceLT, Int.reduceNeg, Int.reduceToNat, Int.reduceEq, Int.reduceBEq, Int.reduceBNe, Nat.reduceBNe, bne_self_eq_false, reduceCtorEq, gt_iff_lt, ge_iff_le, RD.T, rdk, h1, h2] | (rewrite [if_pos]; rotate_left; focus (first | omega | (simp only [LN, RD.T, rdk, h1, h2]; omega) | (refine ⟨?_, ?_⟩ <;> (simp only [LN, RD.T, rdk, h1, h2] <;> omega)))) | (rewrite [if_neg]; rotate_left; focus (first | omega | (simp only [LN, RD.T, rdk, h1, h2]; omega) | (refine ⟨?_, ?_⟩ <;> (simp only [LN, RD.T, rdk, h1, h2] <;> omega)))))); with_reducible rfl)) ?_ | refine AWP.seq ?_ | refine AWP.block ?_ | (refine AWP.condT ?_ ?_; focus (simp only [W, eqq, ↓reduceIte, Nat.reduceEqDiff, Nat.reduceLT, Nat.reduceLeDiff, Nat.reduceAdd, Nat.reduceMul, Nat.reduceSub, Nat.reduceBEq, Int.reduceLE, Int.reduceLT, Int.reduceNeg, Int.reduceToNat, Int.reduceEq, Int.reduceBEq, Int.reduceBNe, Nat.reduceBNe, bne_self_eq_false, reduceCtorEq, gt_iff_lt, ge_iff_le, RD.T, rdk, h1, h2]; done)) | (refine AWP.condF ?_ ?_; focus (simp only [W, eqq, ↓reduceIte, Nat.reduceEqDiff, Nat.reduceLT, Nat.reduceLeDiff, Nat.reduceAdd, Nat.reduceMul, Nat.reduceSub, Nat.reduceBEq, Int.reduceLE, Int.reduceLT, Int.reduceNeg, Int.reduceToNat, Int.reduceEq, Int.reduceBEq, Int.reduceBNe, Nat.reduceBNe, bne_self_eq_false, reduceCtorEq, gt_iff_lt, ge_iff_le, RD.T, rdk, h1, h2]; done)) | (refine AWP.skip ?_; try show AWP _ _ _ _ _ _) | (refine AWP.exit ?_; try show AWP _ _ _ _ _ _) | (refine AWP.greg X_ok cl28 [0, 1, 2, 3, 6, 7, 8, 9, 23, 31] (by ((repeat (first | simp only [W, eqq, ↓reduceIte, Nat.reduceEqDiff, Nat.reduceLT, Nat.reduceLeDiff, Nat.reduceAdd, Nat.reduceMul, Nat.reduceSub, Nat.reduceBEq, Int.reduceLE, Int.reduceLT, Int.reduceNeg, Int.reduceToNat, Int.reduceEq, Int.reduceBEq, Int.reduceBNe, Nat.reduceBNe, bne_self_eq_false, reduceCtorEq, gt_iff_lt, ge_iff_le, RD.T, rdk, h1, h2] | (rewrite [if_pos]; rotate_left; focus (first | omega | (simp only [LN, RD.T, rdk, h1, h2]; omega) | (refine ⟨?_, ?_⟩ <;> (simp only [LN, RD.T, rdk, h1, h2] <;> omega)))) | (rewrite [if_neg]; rotate_left; focus (first | omega | (simp only [LN, RD.T, rdk, h1, h2]; omega) | (refine ⟨?_, ?_⟩ <;> (simp only [LN, RD.T, rdk, h1, h2] <;> omega)))))); with_reducible rfl)) ?_; try show AWP _ _ _ _ _ _)))
    refine AWP.ret ?_; show cretQ _ _ _ _ _ _ _; exact ⟨.inr rfl, [], [], (by decide), by simp only [cres, resVals, RS.val, thawV, freezeOnes, freezeOne, renH, one, AV.ren, AV.renL, Blk.ren, W, eqq, ↓reduceIte, Nat.reduceEqDiff, Nat.reduceLT, Nat.reduceLeDiff, Nat.reduceAdd, Nat.reduceMul, Nat.reduceSub, Nat.reduceBEq, Int.reduceLE, Int.reduceLT, Int.reduceNeg, Int.reduceToNat, Int.reduceEq, Int.reduceBEq, Int.reduceBNe, Nat.reduceBNe, bne_self_eq_false, reduceCtorEq, gt_iff_lt, ge_iff_le, RD.T, rdk]⟩
  by_cases h3 : b.length = 128
  case neg =>
    rw [if_pos (.inr (.inr h3))] at hF
    cases hF
    have h3' : ((b.length : Int) != 128) = true := by simp; omega
    (repeat (first | refine AWP.gseq X_ok cl28 [0, 1, 2, 3, 6, 7, 8, 9, 23, 31] (by ((repeat (first | simp only [W, eqq, ↓reduceIte, Nat.reduceEqDiff, Nat.reduceLT, Nat.reduceLeDiff, Nat.reduceAdd, Nat.reduceMul, Nat.reduceSub, Nat.reduceBEq, Int.reduceLE, Int.reduceLT, Int.reduceNeg, Int.reduceToNat, Int.reduceEq, Int.reduceBEq, Int.reduceBNe, Nat.reduceBNe, bne_self_eq_false, reduceCtorEq, gt_iff_lt, ge_iff_le, RD.T, rdk, h1, h2, h3'] | (rewrite [if_pos]; rotate_left; focus (first | omega | (simp only [LN, RD.T, rdk, h1, h2, h3']; omega) | (refine ⟨?_, ?_⟩ <;> (simp only [LN, RD.T, rdk, h1, h2, h3'] <;> omega)))) | (rewrite [if_neg]; rotate_left; focus (first | omega | (simp only [LN, RD.T, rdk, h1, h2, h3']; omega) | (refine ⟨?_, ?_⟩ <;> (simp only [LN, RD.T, rdk, h1, h2, h3'] <;> omega)))))); with_reducible rfl)) ?_ | refine AWP.seq ?_ | refine AWP.block ?_ | (refine AWP.condT ?_ ?_; focus (simp only [W, eqq, ↓reduceIte, Nat.reduceEqDiff, Nat.reduceLT, Nat.reduceLeDiff, Nat.reduceAdd, Nat.reduceMul, Nat.reduceSub, Nat.reduceBEq, Int.reduceLE, Int.reduceLT, Int.reduceNeg, Int.reduceToNat, Int.reduceEq, Int.reduceBEq, Int.reduceBNe, Nat.reduceBNe, bne_self_eq_false, reduceCtorEq, gt_iff_lt, ge_iff_le, RD.T, rdk, h1, h2, h3']; done)) | (refine AWP.condF ?_ ?_; focus (simp only [W, eqq, ↓reduceIte, Nat.reduceEqDiff, Nat.reduceLT, Nat.reduceLeDiff, Nat.reduceAdd, Nat.reduceMul, Nat.reduceSub, Nat.reduceBEq, Int.reduceLE, Int.reduceLT, Int.reduceNeg, Int.reduceToNat, Int.reduceEq, Int.reduceBEq, Int.reduceBNe, Nat.reduceBNe, bne_self_eq_false, reduceCtorEq, gt_iff_lt, ge_iff_le, RD.T, rdk, h1, h2, h3']; done)) | (refine AWP.skip ?_; try show AWP _ _ _ _ _ _) | (refine AWP.exit ?_; try show AWP _ _ _ _ _ _) | (refine AWP.greg X_ok cl28 [0, 1, 2, 3, 6, 7, 8, 9, 23, 31] (by ((repeat (first | simp only [W, eqq, ↓reduceIte, Nat.reduceEqDiff, Nat.reduceLT, Nat.reduceLeDiff, Nat.reduceAdd, Nat.reduceMul, Nat.reduceSub, Nat.reduceBEq, Int.reduceLE, Int.reduceLT, Int.reduceNeg, Int.reduceToNat, Int.reduceEq, Int.reduceBEq, Int.reduceBNe, Nat.reduceBNe, bne_self_eq_false, reduceCtorEq, gt_iff_lt, ge_iff_le, RD.T, rdk, h1, h2, h3'] | (rewrite [if_pos]; rotate_left; focus (first | omega | (simp only [LN, RD.T, rdk, h1, h2, h3']; omega) | (refine ⟨?_, ?_⟩ <;> (simp only [LN, RD.T, rdk, h1, h2, h3'] <;> omega)))) | (rewrite [if_neg]; rotate_left; focus (first | omega | (simp only [LN, RD.T, rdk, h1, h2, h3']; omega) | (refine ⟨?_, ?_⟩ <;> (simp only [LN, RD.T, rdk, h1, h2, h3'] <;> omega)))))); with_reducible rfl)) ?_; try show AWP _ _ _ _ _ _)))
    refine AWP.ret ?_; show cretQ _ _ _ _ _ _ _; exact ⟨.inr rfl, [], [], (by decide), by simp only [cres, resVals, RS.val, thawV, freezeOnes, freezeOne, renH, one, AV.ren, AV.renL, Blk.ren, W, eqq, ↓reduceIte, Nat.reduceEqDiff, Nat.reduceLT, Nat.reduceLeDiff, Nat.reduceAdd, Nat.reduceMul, Nat.reduceSub, Nat.reduceBEq, Int.reduceLE, Int.reduceLT, Int.reduceNeg, Int.reduceToNat, Int.reduceEq, Int.reduceBEq, Int.reduceBNe, Nat.reduceBNe, bne_self_eq_false, reduceCtorEq, gt_iff_lt, ge_iff_le, RD.T, rdk]⟩
  rw [if_neg (by omega)] at hF
  have h3' : ((b.length : Int) != 128) = false := by simp; omega
  generalize rsp l off = sp at *
  obtain ⟨l', off', ok⟩ := sp
  cases ok
  · rw [if_pos rfl] at hF
    cases hF
    (repeat (first | refine AWP.gseq X_ok cl28 [0, 1, 2, 3, 6, 7, 8, 9, 23, 31] (by ((repeat (first | simp only [W, eqq, ↓reduceIte, Nat.reduceEqDiff, Nat.reduceLT, Nat.reduceLeDiff, Nat.reduceAdd, Nat.reduceMul, Nat.reduceSub, Nat.reduceBEq, Int.reduceLE, Int.reduceLT, Int.reduceNeg, Int.reduceToNat, Int.reduceEq, Int.reduceBEq, Int.reduceBNe, Nat.reduceBNe, bne_self_eq_false, reduceCtorEq, gt_iff_lt, ge_iff_le, RD.T, rdk, h1, h2, h3', hsp] | (rewrite [if_pos]; rotate_left; focus (first | omega | (simp only [LN, RD.T, rdk, h1, h2, h3', hsp]; omega) | (refine ⟨?_, ?_⟩ <;> (simp only [LN, RD.T, rdk, h1, h2, h3', hsp] <;> omega)))) | (rewrite [if_neg]; rotate_left; focus (first | omega | (simp only [LN, RD.T, rdk, h1, h2, h3', hsp]; omega) | (refine ⟨?_, ?_⟩ <;> (simp only [LN, RD.T, rdk, h1, h2, h3', hsp] <;> omega)))))); with_reducible rfl)) ?_ | refine AWP.seq ?_ | refine AWP.block ?_ | (refine AWP.condT ?_ ?_; focus (simp only [W, eqq, ↓reduceIte, Nat.reduceEqDiff, Nat.reduceLT, Nat.reduceLeDiff, Nat.reduceAdd, Nat.reduceMul, Nat.reduceSub, Nat.reduceBEq, Int.reduceLE, Int.reduceLT, Int.reduceNeg, Int.reduceToNat, Int.reduceEq, Int.reduceBEq, Int.reduceBNe, Nat.reduceBNe, bne_self_eq_false, reduceCtorEq, gt_iff_lt, ge_iff_le, RD.T, rdk, h1, h2, h3', hsp]; done)) | (refine AWP.condF ?_ ?_; focus (simp only [W, eqq, ↓reduceIte, Nat.reduceEqDiff, Nat.reduceLT, Nat.reduceLeDiff, Nat.reduceAdd, Nat.reduceMul, Nat.reduceSub, Nat.reduceBEq, Int.reduceLE, Int.reduceLT, Int.reduceNeg, Int.reduceToNat, Int.reduceEq, Int.reduceBEq, Int.reduceBNe, Nat.reduceBNe, bne_self_eq_false, reduceCtorEq, gt_iff_lt, ge_iff_le, RD.T, rdk, h1, h2, h3', hsp]; done)) | (refine AWP.skip ?_; try show AWP _ _ _ _ _ _) | (refine AWP.exit ?_; try show AWP _ _ _ _ _ _) | (refine AWP.greg X_ok cl28 [0, 1, 2, 3, 6, 7, 8, 9, 23, 31] (by ((repeat (first | simp only [W, eqq, ↓reduceIte, Nat.reduceEqDiff, Nat.reduceLT, Nat.reduceLeDiff, Nat.reduceAdd, Nat.reduceMul, Nat.reduceSub, Nat.reduceBEq, Int.reduceLE, Int.reduceLT, Int.reduceNeg, Int.reduceToNat, Int.reduceEq, Int.reduceBEq, Int.reduceBNe, Nat.reduceBNe, bne_self_eq_false, reduceCtorEq, gt_iff_lt, ge_iff_le, RD.T, rdk, h1, h2, h3', hsp] | (rewrite [if_pos]; rotate_left; focus (first | omega | (simp only [LN, RD.T, rdk, h1, h2, h3', hsp]; omega) | (refine ⟨?_, ?_⟩ <;> (simp only [LN, RD.T, rdk, h1, h2, h3', hsp] <;> omega)))) | (rewrite [if_neg]; rotate_left; focus (first | omega | (simp only [LN, RD.T, rdk, h1, h2, h3', hsp]; omega) | (refine ⟨?_, ?_⟩ <;> (simp only [LN, RD.T, rdk, h1, h2, h3', hsp] <;> omega)))))); with_reducible rfl)) ?_; try show AWP _ _ _ _ _ _)))
    refine AWP.ret ?_; show cretQ _ _ _ _ _ _ _; exact ⟨.inr rfl, [], [], (by decide), by simp only [cres, resVals, RS.val, thawV, freezeOnes, freezeOne, renH, one, AV.ren, AV.renL, Blk.ren, W, eqq, ↓reduceIte, Nat.reduceEqDiff, Nat.reduceLT, Nat.reduceLeDiff, Nat.reduceAdd, Nat.reduceMul, Nat.reduceSub, Nat.reduceBEq, Int.reduceLE, Int.reduceLT, Int.reduceNeg, Int.reduceToNat, Int.reduceEq, Int.reduceBEq, Int.reduceBNe, Nat.reduceBNe, bne_self_eq_false, reduceCtorEq, gt_iff_lt, ge_iff_le, RD.T, rdk]⟩
  · rw [if_neg (by simp)] at hF
    cases hF
    (repeat (first | refine AWP.gseq X_ok cl28 [0, 1, 2, 3, 6, 7, 8, 9, 23, 31] (by ((repeat (first | simp only [W, eqq, ↓reduceIte, Nat.reduceEqDiff, Nat.reduceLT, Nat.reduceLeDiff, Nat.reduceAdd, Nat.reduceMul, Nat.reduceSub, Nat.reduceBEq, Int.reduceLE, Int.reduceLT, Int.reduceNeg, Int.reduceToNat, Int.reduceEq, Int.reduceBEq, Int.reduceBNe, Nat.reduceBNe, bne_self_eq_false, reduceCtorEq, gt_iff_lt, ge_iff_le, RD.T, rdk, h1, h2, h3', hsp] | (rewrite [if_pos]; rotate_left; focus (first | omega | (simp only [LN, RD.T, rdk, h1, h2, h3', hsp]; omega) | (refine ⟨?_, ?_⟩ <;> (simp only [LN, RD.T, rdk, h1, h2, h3', hsp] <;> omega)))) | (rewrite [if_neg]; rotate_left; focus (first | omega | (simp only [LN, RD.T, rdk, h1, h2, h3', hsp]; omega) | (refine ⟨?_, ?_⟩ <;> (simp only [LN, RD.T, rdk, h1, h2, h3', hsp] <;> omega)))))); with_reducible rfl)) ?_ | refine AWP.seq ?_ | refine AWP.block ?_ | (refine AWP.condT ?_ ?_; focus (simp only [W, eqq, ↓reduceIte, Nat.reduceEqDiff, Nat.reduceLT, Nat.reduceLeDiff, Nat.reduceAdd, Nat.reduceMul, Nat.reduceSub, Nat.reduceBEq, Int.reduceLE, Int.reduceLT, Int.reduceNeg, Int.reduceToNat, Int.reduceEq, Int.reduceBEq, Int.reduceBNe, Nat.reduceBNe, bne_self_eq_false, reduceCtorEq, gt_iff_lt, ge_iff_le, RD.T, rdk, h1, h2, h3', hsp]; done)) | (refine AWP.condF ?_ ?_; focus (simp only [W, eqq, ↓reduceIte, Nat.reduceEqDiff, Nat.reduceLT, Nat.reduceLeDiff, Nat.reduceAdd, Nat.reduceMul, Nat.reduceSub, Nat.reduceBEq, Int.reduceLE, Int.reduceLT, Int.reduceNeg, Int.reduceToNat, Int.reduceEq, Int.reduceBEq, Int.reduceBNe, Nat.reduceBNe, bne_self_eq_false, reduceCtorEq, gt_iff_lt, ge_iff_le, RD.T, rdk, h1, h2, h3', hsp]; done)) | (refine AWP.skip ?_; try show AWP _ _ _ _ _ _) | (refine AWP.exit ?_; try show AWP _ _ _ _ _ _) | (refine AWP.greg X_ok cl28 [0, 1, 2, 3, 6, 7, 8, 9, 23, 31] (by ((repeat (first | simp only [W, eqq, ↓reduceIte, Nat.reduceEqDiff, Nat.reduceLT, Nat.reduceLeDiff, Nat.reduceAdd, Nat.reduceMul, Nat.reduceSub, Nat.reduceBEq, Int.reduceLE, Int.reduceLT, Int.reduceNeg, Int.reduceToNat, Int.reduceEq, Int.reduceBEq, Int.reduceBNe, Nat.reduceBNe, bne_self_eq_false, reduceCtorEq, gt_iff_lt, ge_iff_le, RD.T, rdk, h1, h2, h3', hsp] | (rewrite [if_pos]; rotate_left; focus (first | omega | (simp only [LN, RD.T, rdk, h1, h2, h3', hsp]; omega) | (refine ⟨?_, ?_⟩ <;> (simp only [LN, RD.T, rdk, h1, h2, h3', hsp] <;> omega)))) | (rewrite [if_neg]; rotate_left; focus (first | omega | (simp only [LN, RD.T, rdk, h1, h2, h3', hsp]; omega) | (refine ⟨?_, ?_⟩ <;> (simp only [LN, RD.T, rdk, h1, h2, h3', hsp] <;> omega)))))); with_reducible rfl)) ?_; try show AWP _ _ _ _ _ _)))
    refine AWP.ret ?_; show cretQ _ _ _ _ _ _ _; exact ⟨.inr rfl, [5], [], (by decide), by simp only [cres, resVals, RS.val, thawV, freezeOnes, freezeOne, renH, one, AV.ren, AV.renL, Blk.ren, W, eqq, ↓reduceIte, Nat.reduceEqDiff, Nat.reduceLT, Nat.reduceLeDiff, Nat.reduceAdd, Nat.reduceMul, Nat.reduceSub, Nat.reduceBEq, Int.reduceLE, Int.reduceLT, Int.reduceNeg, Int.reduceToNat, Int.reduceEq, Int.reduceBEq, Int.reduceBNe, Nat.reduceBNe, bne_self_eq_false, reduceCtorEq, gt_iff_lt, ge_iff_le, RD.T, rdk, List.map_append, rp1]⟩

def F29 : Fun
  | [x] => match asRD x with
    | some d => if (rsp d.l d.off).2.2 = false then some ([], .tup [.t (RD.T ⟨d.s, d.p, (rsp d.l d.off).1, (rsp d.l d.off).2.1⟩), .t (.int .i64 7)])
      else some ([], .tup [.t (RD.T ⟨nowR d, [], (rsp d.l d.off).1, (rsp d.l d.off).2.1⟩), .t (.int .i64 0)])
    | none => none
  | _ => none

theorem cl29 : GClOk Try.prog [(32, ⟨[false], treeG F32⟩), (33, ⟨[false], treeG F33⟩)] := .cons c32.g (.cons c33.g (.nil _))

theorem now_call {d : RD} (h : d.ok = true) (l : Int) (off : Bool) : F32 [.st [.sq 1 (d.s.map T.str), .sq 2 (d.p.map rp1), .int .i64 l, .bool off]] = some ([], .t (.sq 1 ((nowR d).map T.str))) := by
  have h2 : (RD.mk d.s d.p l off).ok = true := h
  have := asRD_T h2
  simp only [RD.T, rdk] at this
  simp only [F32, this]
  rfl

theorem c29 : ACon Try.prog 29 F29 := by
  refine aconc E_ok (rs := [.cell 2 47, .tmp 3 25]) Try.func29 rfl Try.ntmps29 (by kernel_rfl) rfl (by decide) F29 (np := 1) ?_ ?_
  · intro ts h; unfold F29; split <;> first | rfl | (simp at h; done)
  intro ts H r hF hwf
  unfold F29 at hF
  split at hF <;> try (cases hF; done)
  rename_i x
  split at hF
  case h_2 => cases hF
  rename_i d hd
  obtain ⟨rfl, hok⟩ := asRD_inv hd
  have hsp := spend_call hok
  have hnow := now_call hok
  generalize nowR d = N at *
  obtain ⟨s, p, l, off⟩ := d
  simp only at hF hsp hnow
  generalize rsp l off = sp at *
  obtain ⟨l', off', ok⟩ := sp
  cases ok
  · rw [if_pos rfl] at hF
    cases hF
    (repeat (first | refine AWP.gseq X_ok cl29 [0, 1, 2, 3, 4, 11] (by ((repeat (first | simp only [W, eqq, ↓reduceIte, Nat.reduceEqDiff, Nat.reduceLT, Nat.reduceLeDiff, Nat.reduceAdd, Nat.reduceMul, Nat.reduceSub, Nat.reduceBEq, Int.reduceLE, Int.reduceLT, Int.reduceNeg, Int.reduceToNat, Int.reduceEq, Int.reduceBEq, Int.reduceBNe, Nat.reduceBNe, bne_self_eq_false, reduceCtorEq, gt_iff_lt, ge_iff_le, RD.T, rdk, hsp] | (rewrite [if_pos]; rotate_left; focus (first | omega | (simp only [LN, RD.T, rdk, hsp]; omega) | (refine ⟨?_, ?_⟩ <;> (simp only [LN, RD.T, rdk, hsp] <;> omega)))) | (rewrite [if_neg]; rotate_left; focus (first | omega | (simp only [LN, RD.T, rdk, hsp]; omega) | (refine ⟨?_, ?_⟩ <;> (simp only [LN, RD.T, rdk, hsp] <;> omega)))))); with_reducible rfl)) ?_ | refine AWP.seq ?_ | refine AWP.block ?_ | (refine AWP.condT ?_ ?_; focus (simp only [W, eqq, ↓reduceIte, Nat.reduceEqDiff, Nat.reduceLT, Nat.reduceLeDiff, Nat.reduceAdd, Nat.reduceMul, Nat.reduceSub, Nat.reduceBEq, Int.reduceLE, Int.reduceLT, Int.reduceNeg, Int.reduceToNat, Int.reduceEq, Int.reduceBEq, Int.reduceBNe, Nat.reduceBNe, bne_self_eq_false, reduceCtorEq, gt_iff_lt, ge_iff_le, RD.T, rdk, hsp]; done)) | (refine AWP.condF ?_ ?_; focus (simp only [W, eqq, ↓reduceIte, Nat.reduceEqDiff, Nat.reduceLT, Nat.reduceLeDiff, Nat.reduceAdd, Nat.reduceMul, Nat.reduceSub, Nat.reduceBEq, Int.reduceLE, Int.reduceLT, Int.reduceNeg, Int.reduceToNat, Int.reduceEq, Int.reduceBEq, Int.reduceBNe, Nat.reduceBNe, bne_self_eq_false, reduceCtorEq, gt_iff_lt, ge_iff_le, RD.T, rdk, hsp]; done)) | (refine AWP.skip ?_; try show AWP _ _ _ _ _ _) | (refine AWP.exit ?_; try show AWP _ _ _ _ _ _) | (refine AWP.greg X_ok cl29 [0, 1, 2, 3, 4, 11] (by ((repeat (first | simp only [W, eqq, ↓reduceIte, Nat.reduceEqDiff, Nat.reduceLT, Nat.reduceLeDiff, Nat.reduceAdd, Nat.reduceMul, Nat.reduceSub, Nat.reduceBEq, Int.reduceLE, Int.reduceLT, Int.reduceNeg, Int.reduceToNat, Int.reduceEq, Int.reduceBEq, Int.reduceBNe, Nat.reduceBNe, bne_self_eq_false, reduceCtorEq, gt_iff_lt, ge_iff_le, RD.T, rdk, hsp] | (rewrite [if_pos]; rotate_left; focus (first | omega | (simp only [LN, RD.T, rdk, hsp]; omega) | (refine ⟨?_, ?_⟩ <;> (simp only [LN, RD.T, rdk, hsp] <;> omega)))) | (rewrite [if_neg]; rotate_left; focus (first | omega | (simp only [LN, RD.T, rdk, hsp]; omega) | (refine ⟨?_, ?_⟩ <;> (simp only [LN, RD.T, rdk, hsp] <;> omega)))))); with_reducible rfl)) ?_; try show AWP _ _ _ _ _ _)))
    refine AWP.ret ?_; show cretQ _ _ _ _ _ _ _; exact ⟨.inr rfl, [], [], (by decide), by simp only [cres, resVals, RS.val, thawV, freezeOnes, freezeOne, renH, one, AV.ren, AV.renL, Blk.ren, W, eqq, ↓reduceIte, Nat.reduceEqDiff, Nat.reduceLT, Nat.reduceLeDiff, Nat.reduceAdd, Nat.reduceMul, Nat.reduceSub, Nat.reduceBEq, Int.reduceLE, Int.reduceLT, Int.reduceNeg, Int.reduceToNat, Int.reduceEq, Int.reduceBEq, Int.reduceBNe, Nat.reduceBNe, bne_self_eq_false, reduceCtorEq, gt_iff_lt, ge_iff_le, RD.T, rdk]⟩
  · rw [if_neg (by simp)] at hF
    cases hF
    (repeat (first | refine AWP.gseq X_ok cl29 [0, 1, 2, 3, 4, 11] (by ((repeat (first | simp only [W, eqq, ↓reduceIte, Nat.reduceEqDiff, Nat.reduceLT, Nat.reduceLeDiff, Nat.reduceAdd, Nat.reduceMul, Nat.reduceSub, Nat.reduceBEq, Int.reduceLE, Int.reduceLT, Int.reduceNeg, Int.reduceToNat, Int.reduceEq, Int.reduceBEq, Int.reduceBNe, Nat.reduceBNe, bne_self_eq_false, reduceCtorEq, gt_iff_lt, ge_iff_le, RD.T, rdk, hsp, hnow] | (rewrite [if_pos]; rotate_left; focus (first | omega | (simp only [LN, RD.T, rdk, hsp, hnow]; omega) | (refine ⟨?_, ?_⟩ <;> (simp only [LN, RD.T, rdk, hsp, hnow] <;> omega)))) | (rewrite [if_neg]; rotate_left; focus (first | omega | (simp only [LN, RD.T, rdk, hsp, hnow]; omega) | (refine ⟨?_, ?_⟩ <;> (simp only [LN, RD.T, rdk, hsp, hnow] <;> omega)))))); with_reducible rfl)) ?_ | refine AWP.seq ?_ | refine AWP.block ?_ | (refine AWP.condT ?_ ?_; focus (simp only [W, eqq, ↓reduceIte, Nat.reduceEqDiff, Nat.reduceLT, Nat.reduceLeDiff, Nat.reduceAdd, Nat.reduceMul, Nat.reduceSub, Nat.reduceBEq, Int.reduceLE, Int.reduceLT, Int.reduceNeg, Int.reduceToNat, Int.reduceEq, Int.reduceBEq, Int.reduceBNe, Nat.reduceBNe, bne_self_eq_false, reduceCtorEq, gt_iff_lt, ge_iff_le, RD.T, rdk, hsp, hnow]; done)) | (refine AWP.condF ?_ ?_; focus (simp only [W, eqq, ↓reduceIte, Nat.reduceEqDiff, Nat.reduceLT, Nat.reduceLeDiff, Nat.reduceAdd, Nat.reduceMul, Nat.reduceSub, Nat.reduceBEq, Int.reduceLE, Int.reduceLT, Int.reduceNeg, Int.reduceToNat, Int.reduceEq, Int.reduceBEq, Int.reduceBNe, Nat.reduceBNe, bne_self_eq_false, reduceCtorEq, gt_iff_lt, ge_iff_le, RD.T, rdk, hsp, hnow]; done)) | (refine AWP.skip ?_; try show AWP _ _ _ _ _ _) | (refine AWP.exit ?_; try show AWP _ _ _ _ _ _) | (refine AWP.greg X_ok cl29 [0, 1, 2, 3, 4, 11] (by ((repeat (first | simp only [W, eqq, ↓reduceIte, Nat.reduceEqDiff, Nat.reduceLT, Nat.reduceLeDiff, Nat.reduceAdd, Nat.reduceMul, Nat.reduceSub, Nat.reduceBEq, Int.reduceLE, Int.reduceLT, Int.reduceNeg, Int.reduceToNat, Int.reduceEq, Int.reduceBEq, Int.reduceBNe, Nat.reduceBNe, bne_self_eq_false, reduceCtorEq, gt_iff_lt, ge_iff_le, RD.T, rdk, hsp, hnow] | (rewrite [if_pos]; rotate_left; focus (first | omega | (simp only [LN, RD.T, rdk, hsp, hnow]; omega) | (refine ⟨?_, ?_⟩ <;> (simp only [LN, RD.T, rdk, hsp, hnow] <;> omega)))) | (rewrite [if_neg]; rotate_left; focus (first | omega | (simp only [LN, RD.T, rdk, hsp, hnow]; omega) | (refine ⟨?_, ?_⟩ <;> (simp only [LN, RD.T, rdk, hsp, hnow] <;> omega)))))); with_reducible rfl)) ?_; try show AWP _ _ _ _ _ _)))
    refine AWP.ret ?_; show cretQ _ _ _ _ _ _ _; exact ⟨.inr rfl, [], [], (by decide), by simp only [cres, resVals, RS.val, thawV, freezeOnes, freezeOne, renH, one, AV.ren, AV.renL, Blk.ren, W, eqq, ↓reduceIte, Nat.reduceEqDiff, Nat.reduceLT, Nat.reduceLeDiff, Nat.reduceAdd, Nat.reduceMul, Nat.reduceSub, Nat.reduceBEq, Int.reduceLE, Int.reduceLT, Int.reduceNeg, Int.reduceToNat, Int.reduceEq, Int.reduceBEq, Int.reduceBNe, Nat.reduceBNe, bne_self_eq_false, reduceCtorEq, gt_iff_lt, ge_iff_le, RD.T, rdk]⟩

def F30 : Fun
  | [x, .int .i64 k] => match asRD x with
    | some d => some ([], .t (RD.T ⟨d.s, d.p, (if d.off = true then d.l else if 0 > k then 0 else k), d.off⟩))
    | none => none
  | _ => none

theorem cl30 : GClOk Try.prog [] := GClOk.nil _

theorem c30 : ACon Try.prog 30 F30 := by
  refine aconc E_ok (rs := [.cell 4 47]) Try.func30 rfl Try.ntmps30 (by kernel_rfl) rfl (by decide) F30 (np := 2) ?_ ?_
  · intro ts h; unfold F30; split <;> first | rfl | (simp at h; done)
  intro ts H r hF hwf
  unfold F30 at hF
  split at hF <;> try (cases hF; done)
  rename_i x k
  split at hF
  case h_2 => cases hF
  rename_i d hd
  cases hF
  obtain ⟨rfl, hok⟩ := asRD_inv hd
  obtain ⟨s, p, l, off⟩ := d
  cases off
  · (repeat (first | refine AWP.gseq X_ok cl30 [0, 1, 2, 4, 6] (by ((repeat (first | simp only [W, eqq, ↓reduceIte, Nat.reduceEqDiff, Nat.reduceLT, Nat.reduceLeDiff, Nat.reduceAdd, Nat.reduceMul, Nat.reduceSub, Nat.reduceBEq, Int.reduceLE, Int.reduceLT, Int.reduceNeg, Int.reduceToNat, Int.reduceEq, Int.reduceBEq, Int.reduceBNe, Nat.reduceBNe, bne_self_eq_false, reduceCtorEq, gt_iff_lt, ge_iff_le, RD.T, rdk] | (rewrite [if_pos]; rotate_left; focus (first | omega | (simp only [LN, RD.T, rdk]; omega) | (refine ⟨?_, ?_⟩ <;> (simp only [LN, RD.T, rdk] <;> omega)))) | (rewrite [if_neg]; rotate_left; focus (first | omega | (simp only [LN, RD.T, rdk]; omega) | (refine ⟨?_, ?_⟩ <;> (simp only [LN, RD.T, rdk] <;> omega)))))); with_reducible rfl)) ?_ | refine AWP.seq ?_ | refine AWP.block ?_ | (refine AWP.condT ?_ ?_; focus (simp only [W, eqq, ↓reduceIte, Nat.reduceEqDiff, Nat.reduceLT, Nat.reduceLeDiff, Nat.reduceAdd, Nat.reduceMul, Nat.reduceSub, Nat.reduceBEq, Int.reduceLE, Int.reduceLT, Int.reduceNeg, Int.reduceToNat, Int.reduceEq, Int.reduceBEq, Int.reduceBNe, Nat.reduceBNe, bne_self_eq_false, reduceCtorEq, gt_iff_lt, ge_iff_le, RD.T, rdk]; done)) | (refine AWP.condF ?_ ?_; focus (simp only [W, eqq, ↓reduceIte, Nat.reduceEqDiff, Nat.reduceLT, Nat.reduceLeDiff, Nat.reduceAdd, Nat.reduceMul, Nat.reduceSub, Nat.reduceBEq, Int.reduceLE, Int.reduceLT, Int.reduceNeg, Int.reduceToNat, Int.reduceEq, Int.reduceBEq, Int.reduceBNe, Nat.reduceBNe, bne_self_eq_false, reduceCtorEq, gt_iff_lt, ge_iff_le, RD.T, rdk]; done)) | (refine AWP.skip ?_; try show AWP _ _ _ _ _ _) | (refine AWP.exit ?_; try show AWP _ _ _ _ _ _) | (refine AWP.greg X_ok cl30 [0, 1, 2, 4, 6] (by ((repeat (first | simp only [W, eqq, ↓reduceIte, Nat.reduceEqDiff, Nat.reduceLT, Nat.reduceLeDiff, Nat.reduceAdd, Nat.reduceMul, Nat.reduceSub, Nat.reduceBEq, Int.reduceLE, Int.reduceLT, Int.reduceNeg, Int.reduceToNat, Int.reduceEq, Int.reduceBEq, Int.reduceBNe, Nat.reduceBNe, bne_self_eq_false, reduceCtorEq, gt_iff_lt, ge_iff_le, RD.T, rdk] | (rewrite [if_pos]; rotate_left; focus (first | omega | (simp only [LN, RD.T, rdk]; omega) | (refine ⟨?_, ?_⟩ <;> (simp only [LN, RD.T, rdk] <;> omega)))) | (rewrite [if_neg]; rotate_left; focus (first | omega | (simp only [LN, RD.T, rdk]; omega) | (refine ⟨?_, ?_⟩ <;> (simp only [LN, RD.T, rdk] <;> omega)))))); with_reducible rfl)) ?_; try show AWP _ _ _ _ _ _)))
    refine AWP.ret ?_; show cretQ _ _ _ _ _ _ _; exact ⟨.inr rfl, [], [], (by decide), by simp only [cres, resVals, RS.val, thawV, freezeOnes, freezeOne, renH, one, AV.ren, AV.renL, Blk.ren, W, eqq, ↓reduceIte, Nat.reduceEqDiff, Nat.reduceLT, Nat.reduceLeDiff, Nat.reduceAdd, Nat.reduceMul, Nat.reduceSub, Nat.reduceBEq, Int.reduceLE, Int.reduceLT, Int.reduceNeg, Int.reduceToNat, Int.reduceEq, Int.reduceBEq, Int.reduceBNe, Nat.reduceBNe, bne_self_eq_false, reduceCtorEq, gt_iff_lt, ge_iff_le, RD.T, rdk]⟩
  · (repeat (first | refine AWP.gseq X_ok cl30 [0, 1, 2, 4, 6] (by ((repeat (first | simp only [W, eqq, ↓reduceIte, Nat.reduceEqDiff, Nat.reduceLT, Nat.reduceLeDiff, Nat.reduceAdd, Nat.reduceMul, Nat.reduceSub, Nat.reduceBEq, Int.reduceLE, Int.reduceLT, Int.reduceNeg, Int.reduceToNat, Int.reduceEq, Int.reduceBEq, Int.reduceBNe, Nat.reduceBNe, bne_self_eq_false, reduceCtorEq, gt_iff_lt, ge_iff_le, RD.T, rdk] | (rewrite [if_pos]; rotate_left; focus (first | omega | (simp only [LN, RD.T, rdk]; omega) | (refine ⟨?_, ?_⟩ <;> (simp only [LN, RD.T, rdk] <;> omega)))) | (rewrite [if_neg]; rotate_left; focus (first | omega | (simp only [LN, RD.T, rdk]; omega) | (refine ⟨?_, ?_⟩ <;> (simp only [LN, RD.T, rdk] <;> omega)))))); with_reducible rfl)) ?_ | refine AWP.seq ?_ | refine AWP.block ?_ | (refine AWP.condT ?_ ?_; focus (simp only [W, eqq, ↓reduceIte, Nat.reduceEqDiff, Nat.reduceLT, Nat.reduceLeDiff, Nat.reduceAdd, Nat.reduceMul, Nat.reduceSub, Nat.reduceBEq, Int.reduceLE, Int.reduceLT, Int.reduceNeg, Int.reduceToNat, Int.reduceEq, Int.reduceBEq, Int.reduceBNe, Nat.reduceBNe, bne_self_eq_false, reduceCtorEq, gt_iff_lt, ge_iff_le, RD.T, rdk]; done)) | (refine AWP.condF ?_ ?_; focus (simp only [W, eqq, ↓reduceIte, Nat.reduceEqDiff, Nat.reduceLT, Nat.reduceLeDiff, Nat.reduceAdd, Nat.reduceMul, Nat.reduceSub, Nat.reduceBEq, Int.reduceLE, Int.reduceLT, Int.reduceNeg, Int.reduceToNat, Int.reduceEq, Int.reduceBEq, Int.reduceBNe, Nat.reduceBNe, bne_self_eq_false, reduceCtorEq, gt_iff_lt, ge_iff_le, RD.T, rdk]; done)) | (refine AWP.skip ?_; try show AWP _ _ _ _ _ _) | (refine AWP.exit ?_; try show AWP _ _ _ _ _ _) | (refine AWP.greg X_ok cl30 [0, 1, 2, 4, 6] (by ((repeat (first | simp only [W, eqq, ↓reduceIte, Nat.reduceEqDiff, Nat.reduceLT, Nat.reduceLeDiff, Nat.reduceAdd, Nat.reduceMul, Nat.reduceSub, Nat.reduceBEq, Int.reduceLE, Int.reduceLT, Int.reduceNeg, Int.reduceToNat, Int.reduceEq, Int.reduceBEq, Int.reduceBNe, Nat.reduceBNe, bne_self_eq_false, reduceCtorEq, gt_iff_lt, ge_iff_le, RD.T, rdk] | (rewrite [if_pos]; rotate_left; focus (first | omega | (simp only [LN, RD.T, rdk]; omega) | (refine ⟨?_, ?_⟩ <;> (simp only [LN, RD.T, rdk] <;> omega)))) | (rewrite [if_neg]; rotate_left; focus (first | omega | (simp only [LN, RD.T, rdk]; omega) | (refine ⟨?_, ?_⟩ <;> (simp only [LN, RD.T, rdk] <;> omega)))))); with_reducible rfl)) ?_; try show AWP _ _ _ _ _ _)))
    refine AWP.ret ?_; show cretQ _ _ _ _ _ _ _; exact ⟨.inr rfl, [], [], (by decide), by simp only [cres, resVals, RS.val, thawV, freezeOnes, freezeOne, renH, one, AV.ren, AV.renL, Blk.ren, W, eqq, ↓reduceIte, Nat.reduceEqDiff, Nat.reduceLT, Nat.reduceLeDiff, Nat.reduceAdd, Nat.reduceMul, Nat.reduceSub, Nat.reduceBEq, Int.reduceLE, Int.reduceLT, Int.reduceNeg, Int.reduceToNat, Int.reduceEq, Int.reduceBEq, Int.reduceBNe, Nat.reduceBNe, bne_self_eq_false, reduceCtorEq, gt_iff_lt, ge_iff_le, RD.T, rdk]⟩

def F31 : Fun
  | [x, .sq 1 ks] => match asRD x with
    | some d => match asInts ks with
      | some ks => some ([], .t (RD.T ⟨laidN d.s d.p ks false d.p.length, [], -1, false⟩))
      | none => none
    | none => none
  | _ => none

theorem cl31 : GClOk Try.prog [(34, ⟨[false, false, false, false], treeG F34⟩)] := .cons c34.g (.nil _)

theorem c31 : ACon Try.prog 31 F31 := by
  refine aconc E_ok (rs := [.cell 4 47]) Try.func31 rfl Try.ntmps31 (by kernel_rfl) rfl (by decide) F31 (np := 2) ?_ ?_
  · intro ts h; unfold F31; split <;> first | rfl | (simp at h; done)
  intro ts H r hF hwf
  unfold F31 at hF
  split at hF <;> try (cases hF; done)
  rename_i x ks
  split at hF
  case h_2 => cases hF
  rename_i d hd
  split at hF
  case h_2 => cases hF
  rename_i kl hkl
  cases hF
  obtain ⟨rfl, hok⟩ := asRD_inv hd
  obtain rfl := asInts_inv hkl
  have hl := laid_call hok kl false
  generalize laidN d.s d.p kl false d.p.length = N at *
  obtain ⟨s, p, l, off⟩ := d
  simp only at hl
  (repeat (first | refine AWP.gseq X_ok cl31 [0, 1, 2, 4] (by ((repeat (first | simp only [W, eqq, ↓reduceIte, Nat.reduceEqDiff, Nat.reduceLT, Nat.reduceLeDiff, Nat.reduceAdd, Nat.reduceMul, Nat.reduceSub, Nat.reduceBEq, Int.reduceLE, Int.reduceLT, Int.reduceNeg, Int.reduceToNat, Int.reduceEq, Int.reduceBEq, Int.reduceBNe, Nat.reduceBNe, bne_self_eq_false, reduceCtorEq, gt_iff_lt, ge_iff_le, RD.T, rdk, hl] | (rewrite [if_pos]; rotate_left; focus (first | omega | (simp only [LN, RD.T, rdk, hl]; omega) | (refine ⟨?_, ?_⟩ <;> (simp only [LN, RD.T, rdk, hl] <;> omega)))) | (rewrite [if_neg]; rotate_left; focus (first | omega | (simp only [LN, RD.T, rdk, hl]; omega) | (refine ⟨?_, ?_⟩ <;> (simp only [LN, RD.T, rdk, hl] <;> omega)))))); with_reducible rfl)) ?_ | refine AWP.seq ?_ | refine AWP.block ?_ | (refine AWP.condT ?_ ?_; focus (simp only [W, eqq, ↓reduceIte, Nat.reduceEqDiff, Nat.reduceLT, Nat.reduceLeDiff, Nat.reduceAdd, Nat.reduceMul, Nat.reduceSub, Nat.reduceBEq, Int.reduceLE, Int.reduceLT, Int.reduceNeg, Int.reduceToNat, Int.reduceEq, Int.reduceBEq, Int.reduceBNe, Nat.reduceBNe, bne_self_eq_false, reduceCtorEq, gt_iff_lt, ge_iff_le, RD.T, rdk, hl]; done)) | (refine AWP.condF ?_ ?_; focus (simp only [W, eqq, ↓reduceIte, Nat.reduceEqDiff, Nat.reduceLT, Nat.reduceLeDiff, Nat.reduceAdd, Nat.reduceMul, Nat.reduceSub, Nat.reduceBEq, Int.reduceLE, Int.reduceLT, Int.reduceNeg, Int.reduceToNat, Int.reduceEq, Int.reduceBEq, Int.reduceBNe, Nat.reduceBNe, bne_self_eq_false, reduceCtorEq, gt_iff_lt, ge_iff_le, RD.T, rdk, hl]; done)) | (refine AWP.skip ?_; try show AWP _ _ _ _ _ _) | (refine AWP.exit ?_; try show AWP _ _ _ _ _ _) | (refine AWP.greg X_ok cl31 [0, 1, 2, 4] (by ((repeat (first | simp only [W, eqq, ↓reduceIte, Nat.reduceEqDiff, Nat.reduceLT, Nat.reduceLeDiff, Nat.reduceAdd, Nat.reduceMul, Nat.reduceSub, Nat.reduceBEq, Int.reduceLE, Int.reduceLT, Int.reduceNeg, Int.reduceToNat, Int.reduceEq, Int.reduceBEq, Int.reduceBNe, Nat.reduceBNe, bne_self_eq_false, reduceCtorEq, gt_iff_lt, ge_iff_le, RD.T, rdk, hl] | (rewrite [if_pos]; rotate_left; focus (first | omega | (simp only [LN, RD.T, rdk, hl]; omega) | (refine ⟨?_, ?_⟩ <;> (simp only [LN, RD.T, rdk, hl] <;> omega)))) | (rewrite [if_neg]; rotate_left; focus (first | omega | (simp only [LN, RD.T, rdk, hl]; omega) | (refine ⟨?_, ?_⟩ <;> (simp only [LN, RD.T, rdk, hl] <;> omega)))))); with_reducible rfl)) ?_; try show AWP _ _ _ _ _ _)))
  refine AWP.ret ?_; show cretQ _ _ _ _ _ _ _; exact ⟨.inr rfl, [], [], (by decide), by simp only [cres, resVals, RS.val, thawV, freezeOnes, freezeOne, renH, one, AV.ren, AV.renL, Blk.ren, W, eqq, ↓reduceIte, Nat.reduceEqDiff, Nat.reduceLT, Nat.reduceLeDiff, Nat.reduceAdd, Nat.reduceMul, Nat.reduceSub, Nat.reduceBEq, Int.reduceLE, Int.reduceLT, Int.reduceNeg, Int.reduceToNat, Int.reduceEq, Int.reduceBEq, Int.reduceBNe, Nat.reduceBNe, bne_self_eq_false, reduceCtorEq, gt_iff_lt, ge_iff_le, RD.T, rdk]⟩

end Go.Fw

end

section
/- Chapter 27: the document's disk: Read, Dump, acts. -/
namespace Go.Fw
open Go Go.Proofs
set_option linter.unusedVariables false
set_option linter.unusedSimpArgs false

def readN (p : List (Int × List UInt8)) (i : Int) : Nat → Option (List UInt8)
  | 0 => none
  | k + 1 => if (p.getD k (0, [])).1 = i then some (p.getD k (0, [])).2 else readN p i k
def readR (d : RD) (i : Int) : List UInt8 := (readN d.p i d.p.length).getD (d.s.getD i.toNat [])

def F21 : Fun
  | [x, .int .i64 i] => match asRD x with
    | some d => if i < 0 ∨ (d.s.length : Int) ≤ i then some ([], .tup [.t (.by []), .t (.int .i64 1)])
      else if d.off = true then some ([], .tup [.t (.by []), .t (.int .i64 7)])
      else some ([], .tup [.t (.by (readR d i)), .t (.int .i64 0)])
    | none => none
  | _ => none

theorem cl21 : GClOk Try.prog [] := GClOk.nil _

set_option maxHeartbeats 1000000 in
theorem c21 : ACon Try.prog 21 F21 := by
  refine aconc E_ok (rs := [.tmp 4 22, .tmp 5 25]) Try.func21 rfl Try.ntmps21 (by kernel_rfl) rfl (by decide) F21 (np := 2) ?_ ?_
  · intro ts h; unfold F21; split <;> first | rfl | (simp at h; done)
  intro ts H r hF hwf
  unfold F21 at hF
  split at hF <;> try (cases hF; done)
  rename_i x i
  split at hF
  case h_2 => cases hF
  rename_i d hd
  obtain ⟨rfl, hok⟩ := asRD_inv hd
  obtain ⟨s, p, l, off⟩ := d
  obtain ⟨hfit, hfs, hfp, hsl, hpl⟩ := RD.ok_iff.1 hok
  simp only at hF hfit hfs hfp hsl hpl
  by_cases h1 : i < 0
  · rw [if_pos (.inl h1)] at hF
    cases hF
    (repeat (first | refine AWP.gseq X_ok cl21 [0, 1, 2, 4, 5, 6, 15, 17, 23, 33] (by ((repeat (first | simp only [W, eqq, ↓reduceIte, Nat.reduceEqDiff, Nat.reduceLT, Nat.reduceLeDiff, Nat.reduceAdd, Nat.reduceMul, Nat.reduceSub, Nat.reduceBEq, Int.reduceLE, Int.reduceLT, Int.reduceNeg, Int.reduceToNat, Int.reduceEq, Int.reduceBEq, Int.reduceBNe, Nat.reduceBNe, bne_self_eq_false, reduceCtorEq, gt_iff_lt, ge_iff_le, RD.T, rdk, h1] | (rewrite [if_pos]; rotate_left; focus (first | omega | (simp only [LN, RD.T, rdk, h1]; omega) | (refine ⟨?_, ?_⟩ <;> (simp only [LN, RD.T, rdk, h1] <;> omega)))) | (rewrite [if_neg]; rotate_left; focus (first | omega | (simp only [LN, RD.T, rdk, h1]; omega) | (refine ⟨?_, ?_⟩ <;> (simp only [LN, RD.T, rdk, h1] <;> omega)))))); with_reducible rfl)) ?_ | refine AWP.seq ?_ | refine AWP.block ?_ | (refine AWP.condT ?_ ?_; focus (simp only [W, eqq, ↓reduceIte, Nat.reduceEqDiff, Nat.reduceLT, Nat.reduceLeDiff, Nat.reduceAdd, Nat.reduceMul, Nat.reduceSub, Nat.reduceBEq, Int.reduceLE, Int.reduceLT, Int.reduceNeg, Int.reduceToNat, Int.reduceEq, Int.reduceBEq, Int.reduceBNe, Nat.reduceBNe, bne_self_eq_false, reduceCtorEq, gt_iff_lt, ge_iff_le, RD.T, rdk, h1]; done)) | (refine AWP.condF ?_ ?_; focus (simp only [W, eqq, ↓reduceIte, Nat.reduceEqDiff, Nat.reduceLT, Nat.reduceLeDiff, Nat.reduceAdd, Nat.reduceMul, Nat.reduceSub, Nat.reduceBEq, Int.reduceLE, Int.reduceLT, Int.reduceNeg, Int.reduceToNat, Int.reduceEq, Int.reduceBEq, Int.reduceBNe, Nat.reduceBNe, bne_self_eq_false, reduceCtorEq, gt_iff_lt, ge_iff_le, RD.T, rdk, h1]; done)) | (refine AWP.skip ?_; try show AWP _ _ _ _ _ _) | (refine AWP.exit ?_; try show AWP _ _ _ _ _ _) | (refine AWP.greg X_ok cl21 [0, 1, 2, 4, 5, 6, 15, 17, 23, 33] (by ((repeat (first | simp only [W, eqq, ↓reduceIte, Nat.reduceEqDiff, Nat.reduceLT, Nat.reduceLeDiff, Nat.reduceAdd, Nat.reduceMul, Nat.reduceSub, Nat.reduceBEq, Int.reduceLE, Int.reduceLT, Int.reduceNeg, Int.reduceToNat, Int.reduceEq, Int.reduceBEq, Int.reduceBNe, Nat.reduceBNe, bne_self_eq_false, reduceCtorEq, gt_iff_lt, ge_iff_le, RD.T, rdk, h1] | (rewrite [if_pos]; rotate_left; focus (first | omega | (simp only [LN, RD.T, rdk, h1]; omega) | (refine ⟨?_, ?_⟩ <;> (simp only [LN, RD.T, rdk, h1] <;> omega)))) | (rewrite [if_neg]; rotate_left; focus (first | omega | (simp only [LN, RD.T, rdk, h1]; omega) | (refine ⟨?_, ?_⟩ <;> (simp only [LN, RD.T, rdk, h1] <;> omega)))))); with_reducible rfl)) ?_; try show AWP _ _ _ _ _ _)))
    refine AWP.ret ?_; show cretQ _ _ _ _ _ _ _; exact ⟨.inr rfl, [], [], (by decide), by simp only [cres, resVals, RS.val, thawV, freezeOnes, freezeOne, renH, one, AV.ren, AV.renL, Blk.ren, W, eqq, ↓reduceIte, Nat.reduceEqDiff, Nat.reduceLT, Nat.reduceLeDiff, Nat.reduceAdd, Nat.reduceMul, Nat.reduceSub, Nat.reduceBEq, Int.reduceLE, Int.reduceLT, Int.reduceNeg, Int.reduceToNat, Int.reduceEq, Int.reduceBEq, Int.reduceBNe, Nat.reduceBNe, bne_self_eq_false, reduceCtorEq, gt_iff_lt, ge_iff_le]⟩
  by_cases h2 : (s.length : Int) ≤ i
  · rw [if_pos (.inr h2)] at hF
    cases hF
    (repeat (first | refine AWP.gseq X_ok cl21 [0, 1, 2, 4, 5, 6, 15, 17, 23, 33] (by ((repeat (first | simp only [W, eqq, ↓reduceIte, Nat.reduceEqDiff, Nat.reduceLT, Nat.reduceLeDiff, Nat.reduceAdd, Nat.reduceMul, Nat.reduceSub, Nat.reduceBEq, Int.reduceLE, Int.reduceLT, Int.reduceNeg, Int.reduceToNat, Int.reduceEq, Int.reduceBEq, Int.reduceBNe, Nat.reduceBNe, bne_self_eq_false, reduceCtorEq, gt_iff_lt, ge_iff_le, RD.T, rdk, h1, h2] | (rewrite [if_pos]; rotate_left; focus (first | omega | (simp only [LN, RD.T, rdk, h1, h2]; omega) | (refine ⟨?_, ?_⟩ <;> (simp only [LN, RD.T, rdk, h1, h2] <;> omega)))) | (rewrite [if_neg]; rotate_left; focus (first | omega | (simp only [LN, RD.T, rdk, h1, h2]; omega) | (refine ⟨?_, ?_⟩ <;> (simp only [LN, RD.T, rdk, h1, h2] <;> omega)))))); with_reducible rfl)) ?_ | refine AWP.seq ?_ | refine AWP.block ?_ | (refine AWP.condT ?_ ?_; focus (simp only [W, eqq, ↓reduceIte, Nat.reduceEqDiff, Nat.reduceLT, Nat.reduceLeDiff, Nat.reduceAdd, Nat.reduceMul, Nat.reduceSub, Nat.reduceBEq, Int.reduceLE, Int.reduceLT, Int.reduceNeg, Int.reduceToNat, Int.reduceEq, Int.reduceBEq, Int.reduceBNe, Nat.reduceBNe, bne_self_eq_false, reduceCtorEq, gt_iff_lt, ge_iff_le, RD.T, rdk, h1, h2]; done)) | (refine AWP.condF ?_ ?_; focus (simp only [W, eqq, ↓reduceIte, Nat.reduceEqDiff, Nat.reduceLT, Nat.reduceLeDiff, Nat.reduceAdd, Nat.reduceMul, Nat.reduceSub, Nat.reduceBEq, Int.reduceLE, Int.reduceLT, Int.reduceNeg, Int.reduceToNat, Int.reduceEq, Int.reduceBEq, Int.reduceBNe, Nat.reduceBNe, bne_self_eq_false, reduceCtorEq, gt_iff_lt, ge_iff_le, RD.T, rdk, h1, h2]; done)) | (refine AWP.skip ?_; try show AWP _ _ _ _ _ _) | (refine AWP.exit ?_; try show AWP _ _ _ _ _ _) | (refine AWP.greg X_ok cl21 [0, 1, 2, 4, 5, 6, 15, 17, 23, 33] (by ((repeat (first | simp only [W, eqq, ↓reduceIte, Nat.reduceEqDiff, Nat.reduceLT, Nat.reduceLeDiff, Nat.reduceAdd, Nat.reduceMul, Nat.reduceSub, Nat.reduceBEq, Int.reduceLE, Int.reduceLT, Int.reduceNeg, Int.reduceToNat, Int.reduceEq, Int.reduceBEq, Int.reduceBNe, Nat.reduceBNe, bne_self_eq_false, reduceCtorEq, gt_iff_lt, ge_iff_le, RD.T, rdk, h1, h2] | (rewrite [if_pos]; rotate_left; focus (first | omega | (simp only [LN, RD.T, rdk, h1, h2]; omega) | (refine ⟨?_, ?_⟩ <;> (simp only [LN, RD.T, rdk, h1, h2] <;> omega)))) | (rewrite [if_neg]; rotate_left; focus (first | omega | (simp only [LN, RD.T, rdk, h1, h2]; omega) | (refine ⟨?_, ?_⟩ <;> (simp only [LN, RD.T, rdk, h1, h2] <;> omega)))))); with_reducible rfl)) ?_; try show AWP _ _ _ _ _ _)))
    refine AWP.ret ?_; show cretQ _ _ _ _ _ _ _; exact ⟨.inr rfl, [], [], (by decide), by simp only [cres, resVals, RS.val, thawV, freezeOnes, freezeOne, renH, one, AV.ren, AV.renL, Blk.ren, W, eqq, ↓reduceIte, Nat.reduceEqDiff, Nat.reduceLT, Nat.reduceLeDiff, Nat.reduceAdd, Nat.reduceMul, Nat.reduceSub, Nat.reduceBEq, Int.reduceLE, Int.reduceLT, Int.reduceNeg, Int.reduceToNat, Int.reduceEq, Int.reduceBEq, Int.reduceBNe, Nat.reduceBNe, bne_self_eq_false, reduceCtorEq, gt_iff_lt, ge_iff_le]⟩
  rw [if_neg (by omega)] at hF
  cases off
  case true =>
    rw [if_pos rfl] at hF
    cases hF
    (repeat (first | refine AWP.gseq X_ok cl21 [0, 1, 2, 4, 5, 6, 15, 17, 23, 33] (by ((repeat (first | simp only [W, eqq, ↓reduceIte, Nat.reduceEqDiff, Nat.reduceLT, Nat.reduceLeDiff, Nat.reduceAdd, Nat.reduceMul, Nat.reduceSub, Nat.reduceBEq, Int.reduceLE, Int.reduceLT, Int.reduceNeg, Int.reduceToNat, Int.reduceEq, Int.reduceBEq, Int.reduceBNe, Nat.reduceBNe, bne_self_eq_false, reduceCtorEq, gt_iff_lt, ge_iff_le, RD.T, rdk, h1, h2] | (rewrite [if_pos]; rotate_left; focus (first | omega | (simp only [LN, RD.T, rdk, h1, h2]; omega) | (refine ⟨?_, ?_⟩ <;> (simp only [LN, RD.T, rdk, h1, h2] <;> omega)))) | (rewrite [if_neg]; rotate_left; focus (first | omega | (simp only [LN, RD.T, rdk, h1, h2]; omega) | (refine ⟨?_, ?_⟩ <;> (simp only [LN, RD.T, rdk, h1, h2] <;> omega)))))); with_reducible rfl)) ?_ | refine AWP.seq ?_ | refine AWP.block ?_ | (refine AWP.condT ?_ ?_; focus (simp only [W, eqq, ↓reduceIte, Nat.reduceEqDiff, Nat.reduceLT, Nat.reduceLeDiff, Nat.reduceAdd, Nat.reduceMul, Nat.reduceSub, Nat.reduceBEq, Int.reduceLE, Int.reduceLT, Int.reduceNeg, Int.reduceToNat, Int.reduceEq, Int.reduceBEq, Int.reduceBNe, Nat.reduceBNe, bne_self_eq_false, reduceCtorEq, gt_iff_lt, ge_iff_le, RD.T, rdk, h1, h2]; done)) | (refine AWP.condF ?_ ?_; focus (simp only [W, eqq, ↓reduceIte, Nat.reduceEqDiff, Nat.reduceLT, Nat.reduceLeDiff, Nat.reduceAdd, Nat.reduceMul, Nat.reduceSub, Nat.reduceBEq, Int.reduceLE, Int.reduceLT, Int.reduceNeg, Int.reduceToNat, Int.reduceEq, Int.reduceBEq, Int.reduceBNe, Nat.reduceBNe, bne_self_eq_false, reduceCtorEq, gt_iff_lt, ge_iff_le, RD.T, rdk, h1, h2]; done)) | (refine AWP.skip ?_; try show AWP _ _ _ _ _ _) | (refine AWP.exit ?_; try show AWP _ _ _ _ _ _) | (refine AWP.greg X_ok cl21 [0, 1, 2, 4, 5, 6, 15, 17, 23, 33] (by ((repeat (first | simp only [W, eqq, ↓reduceIte, Nat.reduceEqDiff, Nat.reduceLT, Nat.reduceLeDiff, Nat.reduceAdd, Nat.reduceMul, Nat.reduceSub, Nat.reduceBEq, Int.reduceLE, Int.reduceLT, Int.reduceNeg, Int.reduceToNat, Int.reduceEq, Int.reduceBEq, Int.reduceBNe, Nat.reduceBNe, bne_self_eq_false, reduceCtorEq, gt_iff_lt, ge_iff_le, RD.T, rdk, h1, h2] | (rewrite [if_pos]; rotate_left; focus (first | omega | (simp only [LN, RD.T, rdk, h1, h2]; omega) | (refine ⟨?_, ?_⟩ <;> (simp only [LN, RD.T, rdk, h1, h2] <;> omega)))) | (rewrite [if_neg]; rotate_left; focus (first | omega | (simp only [LN, RD.T, rdk, h1, h2]; omega) | (refine ⟨?_, ?_⟩ <;> (simp only [LN, RD.T, rdk, h1, h2] <;> omega)))))); with_reducible rfl)) ?_; try show AWP _ _ _ _ _ _)))
    refine AWP.ret ?_; show cretQ _ _ _ _ _ _ _; exact ⟨.inr rfl, [], [], (by decide), by simp only [cres, resVals, RS.val, thawV, freezeOnes, freezeOne, renH, one, AV.ren, AV.renL, Blk.ren, W, eqq, ↓reduceIte, Nat.reduceEqDiff, Nat.reduceLT, Nat.reduceLeDiff, Nat.reduceAdd, Nat.reduceMul, Nat.reduceSub, Nat.reduceBEq, Int.reduceLE, Int.reduceLT, Int.reduceNeg, Int.reduceToNat, Int.reduceEq, Int.reduceBEq, Int.reduceBNe, Nat.reduceBNe, bne_self_eq_false, reduceCtorEq, gt_iff_lt, ge_iff_le]⟩
  rw [if_neg (by simp)] at hF
  cases hF
  have hk0 : IntKind.i64.wrap ((p.length : Int) - 1) = (p.length : Int) - 1 := wrap_i64 (by omega) (by omega)
  (repeat (first | refine AWP.gseq X_ok cl21 [0, 1, 2, 4, 5, 6, 15, 17, 23, 33] (by ((repeat (first | simp only [W, eqq, ↓reduceIte, Nat.reduceEqDiff, Nat.reduceLT, Nat.reduceLeDiff, Nat.reduceAdd, Nat.reduceMul, Nat.reduceSub, Nat.reduceBEq, Int.reduceLE, Int.reduceLT, Int.reduceNeg, Int.reduceToNat, Int.reduceEq, Int.reduceBEq, Int.reduceBNe, Nat.reduceBNe, bne_self_eq_false, reduceCtorEq, gt_iff_lt, ge_iff_le, RD.T, rdk, h1, h2, hk0] | (rewrite [if_pos]; rotate_left; focus (first | omega | (simp only [LN, RD.T, rdk, h1, h2, hk0]; omega) | (refine ⟨?_, ?_⟩ <;> (simp only [LN, RD.T, rdk, h1, h2, hk0] <;> omega)))) | (rewrite [if_neg]; rotate_left; focus (first | omega | (simp only [LN, RD.T, rdk, h1, h2, hk0]; omega) | (refine ⟨?_, ?_⟩ <;> (simp only [LN, RD.T, rdk, h1, h2, hk0] <;> omega)))))); with_reducible rfl)) ?_ | refine AWP.seq ?_ | refine AWP.block ?_ | (refine AWP.condT ?_ ?_; focus (simp only [W, eqq, ↓reduceIte, Nat.reduceEqDiff, Nat.reduceLT, Nat.reduceLeDiff, Nat.reduceAdd, Nat.reduceMul, Nat.reduceSub, Nat.reduceBEq, Int.reduceLE, Int.reduceLT, Int.reduceNeg, Int.reduceToNat, Int.reduceEq, Int.reduceBEq, Int.reduceBNe, Nat.reduceBNe, bne_self_eq_false, reduceCtorEq, gt_iff_lt, ge_iff_le, RD.T, rdk, h1, h2, hk0]; done)) | (refine AWP.condF ?_ ?_; focus (simp only [W, eqq, ↓reduceIte, Nat.reduceEqDiff, Nat.reduceLT, Nat.reduceLeDiff, Nat.reduceAdd, Nat.reduceMul, Nat.reduceSub, Nat.reduceBEq, Int.reduceLE, Int.reduceLT, Int.reduceNeg, Int.reduceToNat, Int.reduceEq, Int.reduceBEq, Int.reduceBNe, Nat.reduceBNe, bne_self_eq_false, reduceCtorEq, gt_iff_lt, ge_iff_le, RD.T, rdk, h1, h2, hk0]; done)) | (refine AWP.skip ?_; try show AWP _ _ _ _ _ _) | (refine AWP.exit ?_; try show AWP _ _ _ _ _ _) | (refine AWP.greg X_ok cl21 [0, 1, 2, 4, 5, 6, 15, 17, 23, 33] (by ((repeat (first | simp only [W, eqq, ↓reduceIte, Nat.reduceEqDiff, Nat.reduceLT, Nat.reduceLeDiff, Nat.reduceAdd, Nat.reduceMul, Nat.reduceSub, Nat.reduceBEq, Int.reduceLE, Int.reduceLT, Int.reduceNeg, Int.reduceToNat, Int.reduceEq, Int.reduceBEq, Int.reduceBNe, Nat.reduceBNe, bne_self_eq_false, reduceCtorEq, gt_iff_lt, ge_iff_le, RD.T, rdk, h1, h2, hk0] | (rewrite [if_pos]; rotate_left; focus (first | omega | (simp only [LN, RD.T, rdk, h1, h2, hk0]; omega) | (refine ⟨?_, ?_⟩ <;> (simp only [LN, RD.T, rdk, h1, h2, hk0] <;> omega)))) | (rewrite [if_neg]; rotate_left; focus (first | omega | (simp only [LN, RD.T, rdk, h1, h2, hk0]; omega) | (refine ⟨?_, ?_⟩ <;> (simp only [LN, RD.T, rdk, h1, h2, hk0] <;> omega)))))); with_reducible rfl)) ?_; try show AWP _ _ _ _ _ _)))
  refine AWP.loop (G := { k : Nat // k ≤ p.length ∧ readN p i p.length = readN p i k }) (fun k => ⟨[(1, .t (.int .i64 i)), (2, .ptr 0 0 []), (6, .t (.int .i64 ((k.1 : Int) - 1)))], [.bx (.t (.st [.sq 1 (s.map T.str), .sq 2 (p.map rp1), .int .i64 l, .bool false]))]⟩) (fun k => k.1) ⟨p.length, by omega, rfl⟩ (Weak.to [1, 2, 6] [0] (show okIds 0 [0] by decide) (by simp only [W, eqq, ↓reduceIte, Nat.reduceEqDiff, Nat.reduceLT, Nat.reduceLeDiff, Nat.reduceAdd, Nat.reduceMul, Nat.reduceSub, Nat.reduceBEq, Int.reduceLE, Int.reduceLT, Int.reduceNeg, Int.reduceToNat, Int.reduceEq, Int.reduceBEq, Int.reduceBNe, Nat.reduceBNe, bne_self_eq_false, reduceCtorEq, gt_iff_lt, ge_iff_le])) ?_
  intro ⟨k, hk, hrk⟩
  dsimp only
  by_cases hlt : 0 ≤ (k : Int) - 1
  case neg =>
    obtain rfl : k = 0 := by omega
    have e0 : ((0 : Nat) : Int) - 1 = -1 := rfl
    rw [e0]
    have hi0 : i.toNat < s.length := by omega
    have h2' : i < (s.length : Int) := by omega
    have h1' : 0 ≤ i := by omega
    have hsg : (List.map T.str s).getD i.toNat default = .str (s.getD i.toNat []) := by simp [List.getD_eq_getElem?_getD, hi0]
    have hs128 := full128_get hfs hi0
    (repeat (first | refine AWP.gseq X_ok cl21 [0, 1, 2, 4, 5, 6, 15, 17, 23, 33] (by ((repeat (first | simp only [W, eqq, ↓reduceIte, Nat.reduceEqDiff, Nat.reduceLT, Nat.reduceLeDiff, Nat.reduceAdd, Nat.reduceMul, Nat.reduceSub, Nat.reduceBEq, Int.reduceLE, Int.reduceLT, Int.reduceNeg, Int.reduceToNat, Int.reduceEq, Int.reduceBEq, Int.reduceBNe, Nat.reduceBNe, bne_self_eq_false, reduceCtorEq, gt_iff_lt, ge_iff_le, hi0, hsg, h2', h1', hs128] | (rewrite [if_pos]; rotate_left; focus (first | omega | (simp only [LN, hi0, hsg, h2', h1', hs128]; omega) | (refine ⟨?_, ?_⟩ <;> (simp only [LN, hi0, hsg, h2', h1', hs128] <;> omega)))) | (rewrite [if_neg]; rotate_left; focus (first | omega | (simp only [LN, hi0, hsg, h2', h1', hs128]; omega) | (refine ⟨?_, ?_⟩ <;> (simp only [LN, hi0, hsg, h2', h1', hs128] <;> omega)))))); with_reducible rfl)) ?_ | refine AWP.seq ?_ | refine AWP.block ?_ | (refine AWP.condT ?_ ?_; focus (simp only [W, eqq, ↓reduceIte, Nat.reduceEqDiff, Nat.reduceLT, Nat.reduceLeDiff, Nat.reduceAdd, Nat.reduceMul, Nat.reduceSub, Nat.reduceBEq, Int.reduceLE, Int.reduceLT, Int.reduceNeg, Int.reduceToNat, Int.reduceEq, Int.reduceBEq, Int.reduceBNe, Nat.reduceBNe, bne_self_eq_false, reduceCtorEq, gt_iff_lt, ge_iff_le, hi0, hsg, h2', h1', hs128]; done)) | (refine AWP.condF ?_ ?_; focus (simp only [W, eqq, ↓reduceIte, Nat.reduceEqDiff, Nat.reduceLT, Nat.reduceLeDiff, Nat.reduceAdd, Nat.reduceMul, Nat.reduceSub, Nat.reduceBEq, Int.reduceLE, Int.reduceLT, Int.reduceNeg, Int.reduceToNat, Int.reduceEq, Int.reduceBEq, Int.reduceBNe, Nat.reduceBNe, bne_self_eq_false, reduceCtorEq, gt_iff_lt, ge_iff_le, hi0, hsg, h2', h1', hs128]; done)) | (refine AWP.skip ?_; try show AWP _ _ _ _ _ _) | (refine AWP.exit ?_; try show AWP _ _ _ _ _ _) | (refine AWP.greg X_ok cl21 [0, 1, 2, 4, 5, 6, 15, 17, 23, 33] (by ((repeat (first | simp only [W, eqq, ↓reduceIte, Nat.reduceEqDiff, Nat.reduceLT, Nat.reduceLeDiff, Nat.reduceAdd, Nat.reduceMul, Nat.reduceSub, Nat.reduceBEq, Int.reduceLE, Int.reduceLT, Int.reduceNeg, Int.reduceToNat, Int.reduceEq, Int.reduceBEq, Int.reduceBNe, Nat.reduceBNe, bne_self_eq_false, reduceCtorEq, gt_iff_lt, ge_iff_le, hi0, hsg, h2', h1', hs128] | (rewrite [if_pos]; rotate_left; focus (first | omega | (simp only [LN, hi0, hsg, h2', h1', hs128]; omega) | (refine ⟨?_, ?_⟩ <;> (simp only [LN, hi0, hsg, h2', h1', hs128] <;> omega)))) | (rewrite [if_neg]; rotate_left; focus (first | omega | (simp only [LN, hi0, hsg, h2', h1', hs128]; omega) | (refine ⟨?_, ?_⟩ <;> (simp only [LN, hi0, hsg, h2', h1', hs128] <;> omega)))))); with_reducible rfl)) ?_; try show AWP _ _ _ _ _ _)))
    refine AWP.ret ?_; show cretQ _ _ _ _ _ _ _; exact ⟨.inr rfl, [], [], (by decide), by simp only [cres, resVals, RS.val, thawV, freezeOnes, freezeOne, renH, one, AV.ren, AV.renL, Blk.ren, W, eqq, ↓reduceIte, Nat.reduceEqDiff, Nat.reduceLT, Nat.reduceLeDiff, Nat.reduceAdd, Nat.reduceMul, Nat.reduceSub, Nat.reduceBEq, Int.reduceLE, Int.reduceLT, Int.reduceNeg, Int.reduceToNat, Int.reduceEq, Int.reduceBEq, Int.reduceBNe, Nat.reduceBNe, bne_self_eq_false, reduceCtorEq, gt_iff_lt, ge_iff_le, readR, hrk, readN]⟩
  obtain ⟨k, rfl⟩ : ∃ j, k = j + 1 := ⟨k - 1, by omega⟩
  have e : ((k + 1 : Nat) : Int) - 1 = (k : Int) := by omega
  rw [e] at hlt
  rw [e]
  have hkl : k < p.length := by omega
  have hkl' : (k : Int) < (p.length : Int) := by omega
  obtain ⟨w, hw⟩ : ∃ w, p[k]? = some w := ⟨_, List.getElem?_eq_getElem hkl⟩
  have hwd : p.getD k (0, []) = w := by simp [List.getD_eq_getElem?_getD, hw]
  have hwg : (List.map rp1 p).getD k default = .st [.int .i64 w.1, .str w.2] := by simp [List.getD_eq_getElem?_getD, hw, rp1]
  simp only [readN, hwd] at hrk
  by_cases hwi : w.1 = i
  · rw [if_pos hwi] at hrk
    have hwi' : (w.1 == i) = true := by simp [hwi]
    have hw128 := full128P_get hfp hw
    (repeat (first | refine AWP.gseq X_ok cl21 [0, 1, 2, 4, 5, 6, 15, 17, 23, 33] (by ((repeat (first | simp only [W, eqq, ↓reduceIte, Nat.reduceEqDiff, Nat.reduceLT, Nat.reduceLeDiff, Nat.reduceAdd, Nat.reduceMul, Nat.reduceSub, Nat.reduceBEq, Int.reduceLE, Int.reduceLT, Int.reduceNeg, Int.reduceToNat, Int.reduceEq, Int.reduceBEq, Int.reduceBNe, Nat.reduceBNe, bne_self_eq_false, reduceCtorEq, gt_iff_lt, ge_iff_le, hlt, hkl, hkl', hwg, hwi', hw128] | (rewrite [if_pos]; rotate_left; focus (first | omega | (simp only [LN, hlt, hkl, hkl', hwg, hwi', hw128]; omega) | (refine ⟨?_, ?_⟩ <;> (simp only [LN, hlt, hkl, hkl', hwg, hwi', hw128] <;> omega)))) | (rewrite [if_neg]; rotate_left; focus (first | omega | (simp only [LN, hlt, hkl, hkl', hwg, hwi', hw128]; omega) | (refine ⟨?_, ?_⟩ <;> (simp only [LN, hlt, hkl, hkl', hwg, hwi', hw128] <;> omega)))))); with_reducible rfl)) ?_ | refine AWP.seq ?_ | refine AWP.block ?_ | (refine AWP.condT ?_ ?_; focus (simp only [W, eqq, ↓reduceIte, Nat.reduceEqDiff, Nat.reduceLT, Nat.reduceLeDiff, Nat.reduceAdd, Nat.reduceMul, Nat.reduceSub, Nat.reduceBEq, Int.reduceLE, Int.reduceLT, Int.reduceNeg, Int.reduceToNat, Int.reduceEq, Int.reduceBEq, Int.reduceBNe, Nat.reduceBNe, bne_self_eq_false, reduceCtorEq, gt_iff_lt, ge_iff_le, hlt, hkl, hkl', hwg, hwi', hw128]; done)) | (refine AWP.condF ?_ ?_; focus (simp only [W, eqq, ↓reduceIte, Nat.reduceEqDiff, Nat.reduceLT, Nat.reduceLeDiff, Nat.reduceAdd, Nat.reduceMul, Nat.reduceSub, Nat.reduceBEq, Int.reduceLE, Int.reduceLT, Int.reduceNeg, Int.reduceToNat, Int.reduceEq, Int.reduceBEq, Int.reduceBNe, Nat.reduceBNe, bne_self_eq_false, reduceCtorEq, gt_iff_lt, ge_iff_le, hlt, hkl, hkl', hwg, hwi', hw128]; done)) | (refine AWP.skip ?_; try show AWP _ _ _ _ _ _) | (refine AWP.exit ?_; try show AWP _ _ _ _ _ _) | (refine AWP.greg X_ok cl21 [0, 1, 2, 4, 5, 6, 15, 17, 23, 33] (by ((repeat (first | simp only [W, eqq, ↓reduceIte, Nat.reduceEqDiff, Nat.reduceLT, Nat.reduceLeDiff, Nat.reduceAdd, Nat.reduceMul, Nat.reduceSub, Nat.reduceBEq, Int.reduceLE, Int.reduceLT, Int.reduceNeg, Int.reduceToNat, Int.reduceEq, Int.reduceBEq, Int.reduceBNe, Nat.reduceBNe, bne_self_eq_false, reduceCtorEq, gt_iff_lt, ge_iff_le, hlt, hkl, hkl', hwg, hwi', hw128] | (rewrite [if_pos]; rotate_left; focus (first | omega | (simp only [LN, hlt, hkl, hkl', hwg, hwi', hw128]; omega) | (refine ⟨?_, ?_⟩ <;> (simp only [LN, hlt, hkl, hkl', hwg, hwi', hw128] <;> omega)))) | (rewrite [if_neg]; rotate_left; focus (first | omega | (simp only [LN, hlt, hkl, hkl', hwg, hwi', hw128]; omega) | (refine ⟨?_, ?_⟩ <;> (simp only [LN, hlt, hkl, hkl', hwg, hwi', hw128] <;> omega)))))); with_reducible rfl)) ?_; try show AWP _ _ _ _ _ _)))
    refine AWP.ret ?_; show cretQ _ _ _ _ _ _ _; exact ⟨.inr rfl, [], [], (by decide), by simp only [cres, resVals, RS.val, thawV, freezeOnes, freezeOne, renH, one, AV.ren, AV.renL, Blk.ren, W, eqq, ↓reduceIte, Nat.reduceEqDiff, Nat.reduceLT, Nat.reduceLeDiff, Nat.reduceAdd, Nat.reduceMul, Nat.reduceSub, Nat.reduceBEq, Int.reduceLE, Int.reduceLT, Int.reduceNeg, Int.reduceToNat, Int.reduceEq, Int.reduceBEq, Int.reduceBNe, Nat.reduceBNe, bne_self_eq_false, reduceCtorEq, gt_iff_lt, ge_iff_le, readR, hrk]⟩
  · rw [if_neg hwi] at hrk
    have hwi' : (w.1 == i) = false := by simp [hwi]
    have hk1 : IntKind.i64.wrap ((k : Int) - 1) = (k : Int) - 1 := wrap_i64 (by omega) (by omega)
    (repeat (first | refine AWP.gseq X_ok cl21 [0, 1, 2, 4, 5, 6, 15, 17, 23, 33] (by ((repeat (first | simp only [W, eqq, ↓reduceIte, Nat.reduceEqDiff, Nat.reduceLT, Nat.reduceLeDiff, Nat.reduceAdd, Nat.reduceMul, Nat.reduceSub, Nat.reduceBEq, Int.reduceLE, Int.reduceLT, Int.reduceNeg, Int.reduceToNat, Int.reduceEq, Int.reduceBEq, Int.reduceBNe, Nat.reduceBNe, bne_self_eq_false, reduceCtorEq, gt_iff_lt, ge_iff_le, hlt, hkl, hkl', hwg, hwi', hk1] | (rewrite [if_pos]; rotate_left; focus (first | omega | (simp only [LN, hlt, hkl, hkl', hwg, hwi', hk1]; omega) | (refine ⟨?_, ?_⟩ <;> (simp only [LN, hlt, hkl, hkl', hwg, hwi', hk1] <;> omega)))) | (rewrite [if_neg]; rotate_left; focus (first | omega | (simp only [LN, hlt, hkl, hkl', hwg, hwi', hk1]; omega) | (refine ⟨?_, ?_⟩ <;> (simp only [LN, hlt, hkl, hkl', hwg, hwi', hk1] <;> omega)))))); with_reducible rfl)) ?_ | refine AWP.seq ?_ | refine AWP.block ?_ | (refine AWP.condT ?_ ?_; focus (simp only [W, eqq, ↓reduceIte, Nat.reduceEqDiff, Nat.reduceLT, Nat.reduceLeDiff, Nat.reduceAdd, Nat.reduceMul, Nat.reduceSub, Nat.reduceBEq, Int.reduceLE, Int.reduceLT, Int.reduceNeg, Int.reduceToNat, Int.reduceEq, Int.reduceBEq, Int.reduceBNe, Nat.reduceBNe, bne_self_eq_false, reduceCtorEq, gt_iff_lt, ge_iff_le, hlt, hkl, hkl', hwg, hwi', hk1]; done)) | (refine AWP.condF ?_ ?_; focus (simp only [W, eqq, ↓reduceIte, Nat.reduceEqDiff, Nat.reduceLT, Nat.reduceLeDiff, Nat.reduceAdd, Nat.reduceMul, Nat.reduceSub, Nat.reduceBEq, Int.reduceLE, Int.reduceLT, Int.reduceNeg, Int.reduceToNat, Int.reduceEq, Int.reduceBEq, Int.reduceBNe, Nat.reduceBNe, bne_self_eq_false, reduceCtorEq, gt_iff_lt, ge_iff_le, hlt, hkl, hkl', hwg, hwi', hk1]; done)) | (refine AWP.skip ?_; try show AWP _ _ _ _ _ _) | (refine AWP.exit ?_; try show AWP _ _ _ _ _ _) | (refine AWP.greg X_ok cl21 [0, 1, 2, 4, 5, 6, 15, 17, 23, 33] (by ((repeat (first | simp only [W, eqq, ↓reduceIte, Nat.reduceEqDiff, Nat.reduceLT, Nat.reduceLeDiff, Nat.reduceAdd, Nat.reduceMul, Nat.reduceSub, Nat.reduceBEq, Int.reduceLE, Int.reduceLT, Int.reduceNeg, Int.reduceToNat, Int.reduceEq, Int.reduceBEq, Int.reduceBNe, Nat.reduceBNe, bne_self_eq_false, reduceCtorEq, gt_iff_lt, ge_iff_le, hlt, hkl, hkl', hwg, hwi', hk1] | (rewrite [if_pos]; rotate_left; focus (first | omega | (simp only [LN, hlt, hkl, hkl', hwg, hwi', hk1]; omega) | (refine ⟨?_, ?_⟩ <;> (simp only [LN, hlt, hkl, hkl', hwg, hwi', hk1] <;> omega)))) | (rewrite [if_neg]; rotate_left; focus (first | omega | (simp only [LN, hlt, hkl, hkl', hwg, hwi', hk1]; omega) | (refine ⟨?_, ?_⟩ <;> (simp only [LN, hlt, hkl, hkl', hwg, hwi', hk1] <;> omega)))))); with_reducible rfl)) ?_; try show AWP _ _ _ _ _ _)))
    exact ⟨⟨k, by omega, hrk⟩, Weak.to [1, 2, 6] [0] (show okIds 0 [0] by decide) (by simp only [W, eqq, ↓reduceIte, Nat.reduceEqDiff, Nat.reduceLT, Nat.reduceLeDiff, Nat.reduceAdd, Nat.reduceMul, Nat.reduceSub, Nat.reduceBEq, Int.reduceLE, Int.reduceLT, Int.reduceNeg, Int.reduceToNat, Int.reduceEq, Int.reduceBEq, Int.reduceBNe, Nat.reduceBNe, bne_self_eq_false, reduceCtorEq, gt_iff_lt, ge_iff_le]), by simp only; omega⟩

def F23 : Fun
  | [x] => match asRD x with
    | some d => some ([], .t (.by (nowR d).flatten))
    | none => none
  | _ => none

theorem cl23 : GClOk Try.prog [(32, ⟨[false], treeG F32⟩)] := .cons c32.g (.nil _)

theorem full128_flat {N : List (List UInt8)} (h : full128 N = true) : N.flatten.length = 128 * N.length := by
  induction N with
  | nil => rfl
  | cons x N ih =>
    simp only [full128, List.all_cons, Bool.and_eq_true, beq_iff_eq] at h ih
    simp only [List.flatten_cons, List.length_append, List.length_cons, ih h.2, h.1]; omega
theorem full128_take {N : List (List UInt8)} (h : full128 N = true) (i : Nat) : full128 (N.take i) = true := by
  simp only [full128, List.all_eq_true] at h ⊢
  exact fun x hx => h x (List.mem_of_mem_take hx)
theorem nowR_full {d : RD} (h : d.ok = true) : full128 (nowR d) = true := by
  obtain ⟨h1, h2, h3, h4, h5⟩ := RD.ok_iff.1 h
  exact laidN_full [] true h2 h1 h3 _ (by omega)
theorem nowR_len (d : RD) : (nowR d).length = d.s.length := laidN_len _ _ _ _ _

set_option maxHeartbeats 1000000 in
theorem c23 : ACon Try.prog 23 F23 := by
  refine aconc E_ok (rs := [.tmp 2 22]) Try.func23 rfl Try.ntmps23 (by kernel_rfl) rfl (by decide) F23 (np := 1) ?_ ?_
  · intro ts h; unfold F23; split <;> first | rfl | (simp at h; done)
  intro ts H r hF hwf
  unfold F23 at hF
  split at hF <;> try (cases hF; done)
  split at hF
  case h_2 => cases hF
  rename_i x d hd
  cases hF
  obtain ⟨rfl, hok⟩ := asRD_inv hd
  have hnow := now_call hok d.l d.off
  have hNf := nowR_full hok
  have hNl := nowR_len d
  have hsl := (RD.ok_iff.1 hok).2.2.2.1
  rw [← hNl] at hsl
  generalize nowR d = N at *
  (repeat (first | refine AWP.gseq X_ok cl23 [0, 1, 2, 3, 4, 5, 12] (by ((repeat (first | simp only [W, eqq, ↓reduceIte, Nat.reduceEqDiff, Nat.reduceLT, Nat.reduceLeDiff, Nat.reduceAdd, Nat.reduceMul, Nat.reduceSub, Nat.reduceBEq, Int.reduceLE, Int.reduceLT, Int.reduceNeg, Int.reduceToNat, Int.reduceEq, Int.reduceBEq, Int.reduceBNe, Nat.reduceBNe, bne_self_eq_false, reduceCtorEq, gt_iff_lt, ge_iff_le, RD.T, rdk, hnow] | (rewrite [if_pos]; rotate_left; focus (first | omega | (simp only [LN, RD.T, rdk, hnow]; omega) | (refine ⟨?_, ?_⟩ <;> (simp only [LN, RD.T, rdk, hnow] <;> omega)))) | (rewrite [if_neg]; rotate_left; focus (first | omega | (simp only [LN, RD.T, rdk, hnow]; omega) | (refine ⟨?_, ?_⟩ <;> (simp only [LN, RD.T, rdk, hnow] <;> omega)))))); with_reducible rfl)) ?_ | refine AWP.seq ?_ | refine AWP.block ?_ | (refine AWP.condT ?_ ?_; focus (simp only [W, eqq, ↓reduceIte, Nat.reduceEqDiff, Nat.reduceLT, Nat.reduceLeDiff, Nat.reduceAdd, Nat.reduceMul, Nat.reduceSub, Nat.reduceBEq, Int.reduceLE, Int.reduceLT, Int.reduceNeg, Int.reduceToNat, Int.reduceEq, Int.reduceBEq, Int.reduceBNe, Nat.reduceBNe, bne_self_eq_false, reduceCtorEq, gt_iff_lt, ge_iff_le, RD.T, rdk, hnow]; done)) | (refine AWP.condF ?_ ?_; focus (simp only [W, eqq, ↓reduceIte, Nat.reduceEqDiff, Nat.reduceLT, Nat.reduceLeDiff, Nat.reduceAdd, Nat.reduceMul, Nat.reduceSub, Nat.reduceBEq, Int.reduceLE, Int.reduceLT, Int.reduceNeg, Int.reduceToNat, Int.reduceEq, Int.reduceBEq, Int.reduceBNe, Nat.reduceBNe, bne_self_eq_false, reduceCtorEq, gt_iff_lt, ge_iff_le, RD.T, rdk, hnow]; done)) | (refine AWP.skip ?_; try show AWP _ _ _ _ _ _) | (refine AWP.exit ?_; try show AWP _ _ _ _ _ _) | (refine AWP.greg X_ok cl23 [0, 1, 2, 3, 4, 5, 12] (by ((repeat (first | simp only [W, eqq, ↓reduceIte, Nat.reduceEqDiff, Nat.reduceLT, Nat.reduceLeDiff, Nat.reduceAdd, Nat.reduceMul, Nat.reduceSub, Nat.reduceBEq, Int.reduceLE, Int.reduceLT, Int.reduceNeg, Int.reduceToNat, Int.reduceEq, Int.reduceBEq, Int.reduceBNe, Nat.reduceBNe, bne_self_eq_false, reduceCtorEq, gt_iff_lt, ge_iff_le, RD.T, rdk, hnow] | (rewrite [if_pos]; rotate_left; focus (first | omega | (simp only [LN, RD.T, rdk, hnow]; omega) | (refine ⟨?_, ?_⟩ <;> (simp only [LN, RD.T, rdk, hnow] <;> omega)))) | (rewrite [if_neg]; rotate_left; focus (first | omega | (simp only [LN, RD.T, rdk, hnow]; omega) | (refine ⟨?_, ?_⟩ <;> (simp only [LN, RD.T, rdk, hnow] <;> omega)))))); with_reducible rfl)) ?_; try show AWP _ _ _ _ _ _)))
  refine AWP.loop (G := { x : Nat // x ≤ N.length }) (fun x => ⟨[(3, .t (.sq 1 (N.map T.str))), (4, .own 0), (5, .t (.int .i64 (x.1 : Int)))], [.by (N.take x.1).flatten]⟩) (fun x => N.length - x.1) ⟨0, by omega⟩ (Weak.to [3, 4, 5] [1] (show okIds 0 [1] by decide) (by simp only [W, eqq, ↓reduceIte, Nat.reduceEqDiff, Nat.reduceLT, Nat.reduceLeDiff, Nat.reduceAdd, Nat.reduceMul, Nat.reduceSub, Nat.reduceBEq, Int.reduceLE, Int.reduceLT, Int.reduceNeg, Int.reduceToNat, Int.reduceEq, Int.reduceBEq, Int.reduceBNe, Nat.reduceBNe, bne_self_eq_false, reduceCtorEq, gt_iff_lt, ge_iff_le, List.flatten_nil])) ?_
  intro ⟨i, hi⟩
  dsimp only
  by_cases hlt : (i : Int) < (N.length : Int)
  · have hil : i < N.length := by omega
    obtain ⟨y, hy⟩ : ∃ y, N[i]? = some y := ⟨_, List.getElem?_eq_getElem hil⟩
    have hyg : (List.map T.str N).getD i default = .str y := by simp [List.getD_eq_getElem?_getD, hy]
    have hfl : (N.take i).flatten.length ≤ 128000000 := by rw [full128_flat (full128_take hNf i), List.length_take]; omega
    have hyl : y.length = 128 := by have := full128_get hNf hil; rwa [List.getD_eq_getElem?_getD, hy] at this
    have hny : N[i] = y := by rw [List.getElem?_eq_getElem hil] at hy; exact Option.some.inj hy
    have hnx : (N.take i).flatten ++ y = (N.take (i + 1)).flatten := by
      rw [List.take_succ_eq_append_getElem hil, List.flatten_append, hny]; simp
    have hk1 : IntKind.i64.wrap ((i : Int) + 1) = ((i + 1 : Nat) : Int) := by rw [wrap_i64 (by omega) (by omega)]; omega
    (repeat (first | refine AWP.gseq X_ok cl23 [0, 1, 2, 3, 4, 5, 12] (by ((repeat (first | simp only [W, eqq, ↓reduceIte, Nat.reduceEqDiff, Nat.reduceLT, Nat.reduceLeDiff, Nat.reduceAdd, Nat.reduceMul, Nat.reduceSub, Nat.reduceBEq, Int.reduceLE, Int.reduceLT, Int.reduceNeg, Int.reduceToNat, Int.reduceEq, Int.reduceBEq, Int.reduceBNe, Nat.reduceBNe, bne_self_eq_false, reduceCtorEq, gt_iff_lt, ge_iff_le, hlt, hyg, hil, hfl, hyl, hk1] | (rewrite [if_pos]; rotate_left; focus (first | omega | (simp only [LN, hlt, hyg, hil, hfl, hyl, hk1]; omega) | (refine ⟨?_, ?_⟩ <;> (simp only [LN, hlt, hyg, hil, hfl, hyl, hk1] <;> omega)))) | (rewrite [if_neg]; rotate_left; focus (first | omega | (simp only [LN, hlt, hyg, hil, hfl, hyl, hk1]; omega) | (refine ⟨?_, ?_⟩ <;> (simp only [LN, hlt, hyg, hil, hfl, hyl, hk1] <;> omega)))))); with_reducible rfl)) ?_ | refine AWP.seq ?_ | refine AWP.block ?_ | (refine AWP.condT ?_ ?_; focus (simp only [W, eqq, ↓reduceIte, Nat.reduceEqDiff, Nat.reduceLT, Nat.reduceLeDiff, Nat.reduceAdd, Nat.reduceMul, Nat.reduceSub, Nat.reduceBEq, Int.reduceLE, Int.reduceLT, Int.reduceNeg, Int.reduceToNat, Int.reduceEq, Int.reduceBEq, Int.reduceBNe, Nat.reduceBNe, bne_self_eq_false, reduceCtorEq, gt_iff_lt, ge_iff_le, hlt, hyg, hil, hfl, hyl, hk1]; done)) | (refine AWP.condF ?_ ?_; focus (simp only [W, eqq, ↓reduceIte, Nat.reduceEqDiff, Nat.reduceLT, Nat.reduceLeDiff, Nat.reduceAdd, Nat.reduceMul, Nat.reduceSub, Nat.reduceBEq, Int.reduceLE, Int.reduceLT, Int.reduceNeg, Int.reduceToNat, Int.reduceEq, Int.reduceBEq, Int.reduceBNe, Nat.reduceBNe, bne_self_eq_false, reduceCtorEq, gt_iff_lt, ge_iff_le, hlt, hyg, hil, hfl, hyl, hk1]; done)) | (refine AWP.skip ?_; try show AWP _ _ _ _ _ _) | (refine AWP.exit ?_; try show AWP _ _ _ _ _ _) | (refine AWP.greg X_ok cl23 [0, 1, 2, 3, 4, 5, 12] (by ((repeat (first | simp only [W, eqq, ↓reduceIte, Nat.reduceEqDiff, Nat.reduceLT, Nat.reduceLeDiff, Nat.reduceAdd, Nat.reduceMul, Nat.reduceSub, Nat.reduceBEq, Int.reduceLE, Int.reduceLT, Int.reduceNeg, Int.reduceToNat, Int.reduceEq, Int.reduceBEq, Int.reduceBNe, Nat.reduceBNe, bne_self_eq_false, reduceCtorEq, gt_iff_lt, ge_iff_le, hlt, hyg, hil, hfl, hyl, hk1] | (rewrite [if_pos]; rotate_left; focus (first | omega | (simp only [LN, hlt, hyg, hil, hfl, hyl, hk1]; omega) | (refine ⟨?_, ?_⟩ <;> (simp only [LN, hlt, hyg, hil, hfl, hyl, hk1] <;> omega)))) | (rewrite [if_neg]; rotate_left; focus (first | omega | (simp only [LN, hlt, hyg, hil, hfl, hyl, hk1]; omega) | (refine ⟨?_, ?_⟩ <;> (simp only [LN, hlt, hyg, hil, hfl, hyl, hk1] <;> omega)))))); with_reducible rfl)) ?_; try show AWP _ _ _ _ _ _)))
    exact ⟨⟨i + 1, by omega⟩, Weak.to [3, 4, 5] [1] (show okIds 0 [1] by decide) (by simp only [W, eqq, ↓reduceIte, Nat.reduceEqDiff, Nat.reduceLT, Nat.reduceLeDiff, Nat.reduceAdd, Nat.reduceMul, Nat.reduceSub, Nat.reduceBEq, Int.reduceLE, Int.reduceLT, Int.reduceNeg, Int.reduceToNat, Int.reduceEq, Int.reduceBEq, Int.reduceBNe, Nat.reduceBNe, bne_self_eq_false, reduceCtorEq, gt_iff_lt, ge_iff_le, hnx]), by simp only; omega⟩
  · obtain rfl : i = N.length := by omega
    (repeat (first | refine AWP.gseq X_ok cl23 [0, 1, 2, 3, 4, 5, 12] (by ((repeat (first | simp only [W, eqq, ↓reduceIte, Nat.reduceEqDiff, Nat.reduceLT, Nat.reduceLeDiff, Nat.reduceAdd, Nat.reduceMul, Nat.reduceSub, Nat.reduceBEq, Int.reduceLE, Int.reduceLT, Int.reduceNeg, Int.reduceToNat, Int.reduceEq, Int.reduceBEq, Int.reduceBNe, Nat.reduceBNe, bne_self_eq_false, reduceCtorEq, gt_iff_lt, ge_iff_le, hlt] | (rewrite [if_pos]; rotate_left; focus (first | omega | (simp only [LN, hlt]; omega) | (refine ⟨?_, ?_⟩ <;> (simp only [LN, hlt] <;> omega)))) | (rewrite [if_neg]; rotate_left; focus (first | omega | (simp only [LN, hlt]; omega) | (refine ⟨?_, ?_⟩ <;> (simp only [LN, hlt] <;> omega)))))); with_reducible rfl)) ?_ | refine AWP.seq ?_ | refine AWP.block ?_ | (refine AWP.condT ?_ ?_; focus (simp only [W, eqq, ↓reduceIte, Nat.reduceEqDiff, Nat.reduceLT, Nat.reduceLeDiff, Nat.reduceAdd, Nat.reduceMul, Nat.reduceSub, Nat.reduceBEq, Int.reduceLE, Int.reduceLT, Int.reduceNeg, Int.reduceToNat, Int.reduceEq, Int.reduceBEq, Int.reduceBNe, Nat.reduceBNe, bne_self_eq_false, reduceCtorEq, gt_iff_lt, ge_iff_le, hlt]; done)) | (refine AWP.condF ?_ ?_; focus (simp only [W, eqq, ↓reduceIte, Nat.reduceEqDiff, Nat.reduceLT, Nat.reduceLeDiff, Nat.reduceAdd, Nat.reduceMul, Nat.reduceSub, Nat.reduceBEq, Int.reduceLE, Int.reduceLT, Int.reduceNeg, Int.reduceToNat, Int.reduceEq, Int.reduceBEq, Int.reduceBNe, Nat.reduceBNe, bne_self_eq_false, reduceCtorEq, gt_iff_lt, ge_iff_le, hlt]; done)) | (refine AWP.skip ?_; try show AWP _ _ _ _ _ _) | (refine AWP.exit ?_; try show AWP _ _ _ _ _ _) | (refine AWP.greg X_ok cl23 [0, 1, 2, 3, 4, 5, 12] (by ((repeat (first | simp only [W, eqq, ↓reduceIte, Nat.reduceEqDiff, Nat.reduceLT, Nat.reduceLeDiff, Nat.reduceAdd, Nat.reduceMul, Nat.reduceSub, Nat.reduceBEq, Int.reduceLE, Int.reduceLT, Int.reduceNeg, Int.reduceToNat, Int.reduceEq, Int.reduceBEq, Int.reduceBNe, Nat.reduceBNe, bne_self_eq_false, reduceCtorEq, gt_iff_lt, ge_iff_le, hlt] | (rewrite [if_pos]; rotate_left; focus (first | omega | (simp only [LN, hlt]; omega) | (refine ⟨?_, ?_⟩ <;> (simp only [LN, hlt] <;> omega)))) | (rewrite [if_neg]; rotate_left; focus (first | omega | (simp only [LN, hlt]; omega) | (refine ⟨?_, ?_⟩ <;> (simp only [LN, hlt] <;> omega)))))); with_reducible rfl)) ?_; try show AWP _ _ _ _ _ _)))
    refine AWP.ret ?_; show cretQ _ _ _ _ _ _ _; exact ⟨.inr rfl, [0], [], (by decide), by simp only [cres, resVals, RS.val, thawV, freezeOnes, freezeOne, renH, one, AV.ren, AV.renL, Blk.ren, W, eqq, ↓reduceIte, Nat.reduceEqDiff, Nat.reduceLT, Nat.reduceLeDiff, Nat.reduceAdd, Nat.reduceMul, Nat.reduceSub, Nat.reduceBEq, Int.reduceLE, Int.reduceLT, Int.reduceNeg, Int.reduceToNat, Int.reduceEq, Int.reduceBEq, Int.reduceBNe, Nat.reduceBNe, bne_self_eq_false, reduceCtorEq, gt_iff_lt, ge_iff_le]⟩

end Go.Fw

end

section
/- Chapter 27: an act on the document's disk. -/
namespace Go.Fw
open Go Go.Proofs
set_option linter.unusedVariables false
set_option linter.unusedSimpArgs false

def putR (d : RD) (i : Int) (b : List UInt8) : RD × Int :=
  if i < 0 ∨ (d.s.length : Int) ≤ i ∨ b.length ≠ 128 then (d, 1)
  else if (rsp d.l d.off).2.2 = false then (⟨d.s, d.p, (rsp d.l d.off).1, (rsp d.l d.off).2.1⟩, 7)
  else (⟨d.s, d.p ++ [(i, b)], (rsp d.l d.off).1, (rsp d.l d.off).2.1⟩, 0)
def syncR (d : RD) : RD × Int :=
  if (rsp d.l d.off).2.2 = false then (⟨d.s, d.p, (rsp d.l d.off).1, (rsp d.l d.off).2.1⟩, 7)
  else (⟨nowR d, [], (rsp d.l d.off).1, (rsp d.l d.off).2.1⟩, 0)
def modR (d : RD) (a : Act) : RD × Int :=
  if a.k = 1 then putR d a.i (actB a.f a.d) else if a.k = 2 then syncR d
  else if a.k = 3 then (⟨d.s, d.p, (if d.off = true then d.l else if 0 > a.i then 0 else a.i), d.off⟩, 0)
  else if a.k = 4 then (⟨laidN d.s d.p a.ks false d.p.length, [], -1, false⟩, 0)
  else (d, 0)

theorem put_call {d : RD} (h : d.ok = true) (i : Int) (b : List UInt8) : F28 [.st [.sq 1 (d.s.map T.str), .sq 2 (d.p.map rp1), .int .i64 d.l, .bool d.off], .int .i64 i, .by b] = some ([], .tup [.t (putR d i b).1.T, .t (.int .i64 (putR d i b).2)]) := by
  have := asRD_T h
  simp only [RD.T, rdk] at this
  simp only [F28, this, putR]
  split
  · rfl
  · split <;> rfl
theorem sync_call {d : RD} (h : d.ok = true) : F29 [.st [.sq 1 (d.s.map T.str), .sq 2 (d.p.map rp1), .int .i64 d.l, .bool d.off]] = some ([], .tup [.t (syncR d).1.T, .t (.int .i64 (syncR d).2)]) := by
  have := asRD_T h
  simp only [RD.T, rdk] at this
  simp only [F29, this, syncR]
  split <;> rfl
theorem fuse_call {d : RD} (h : d.ok = true) (k : Int) : F30 [.st [.sq 1 (d.s.map T.str), .sq 2 (d.p.map rp1), .int .i64 d.l, .bool d.off], .int .i64 k] = some ([], .t (RD.T ⟨d.s, d.p, (if d.off = true then d.l else if 0 > k then 0 else k), d.off⟩)) := by
  have := asRD_T h
  simp only [RD.T, rdk] at this
  simp only [F30, this, RD.T, rdk]
theorem crash_call {d : RD} (h : d.ok = true) (ks : List Int) : F31 [.st [.sq 1 (d.s.map T.str), .sq 2 (d.p.map rp1), .int .i64 d.l, .bool d.off], .sq 1 (ks.map (T.int .i64))] = some ([], .t (RD.T ⟨laidN d.s d.p ks false d.p.length, [], -1, false⟩)) := by
  have := asRD_T h
  simp only [RD.T, rdk] at this
  simp only [F31, this, asInts_map]
theorem read_call {d : RD} (h : d.ok = true) (i : Int) : F21 [.st [.sq 1 (d.s.map T.str), .sq 2 (d.p.map rp1), .int .i64 d.l, .bool d.off], .int .i64 i] = (if i < 0 ∨ (d.s.length : Int) ≤ i then some ([], .tup [.t (.by []), .t (.int .i64 1)])
      else if d.off = true then some ([], .tup [.t (.by []), .t (.int .i64 7)])
      else some ([], .tup [.t (.by (readR d i)), .t (.int .i64 0)])) := by
  have := asRD_T h
  simp only [RD.T, rdk] at this
  simp only [F21, this]
theorem dump_call {d : RD} (h : d.ok = true) : F23 [.st [.sq 1 (d.s.map T.str), .sq 2 (d.p.map rp1), .int .i64 d.l, .bool d.off]] = some ([], .t (.by (nowR d).flatten)) := by
  have := asRD_T h
  simp only [RD.T, rdk] at this
  simp only [F23, this]

def F20 : Fun
  | [x, .st [.int .i64 k, .int .i64 i, .by b, .bool f, .sq 1 ks]] => match asRD x with
    | some d => match asInts ks with
      | some ks => if b.length ≤ 200 then some ([], .tup [.t (modR d ⟨k, i, b, f, ks⟩).1.T, .t (.int .i64 (modR d ⟨k, i, b, f, ks⟩).2)]) else none
      | none => none
    | none => none
  | _ => none

theorem cl20 : GClOk Try.prog [(27, ⟨[false], treeG F27⟩), (28, ⟨[false, false, false], treeG F28⟩), (29, ⟨[false], treeG F29⟩), (30, ⟨[false, false], treeG F30⟩), (31, ⟨[false, false], treeG F31⟩)] := .cons c27.g (.cons c28.g (.cons c29.g (.cons c30.g (.cons c31.g (.nil _)))))

set_option maxHeartbeats 1000000 in
theorem c20 : ACon Try.prog 20 F20 := by
  refine aconc E_ok (rs := [.cell 4 47, .tmp 5 25]) Try.func20 rfl Try.ntmps20 (by kernel_rfl) rfl (by decide) F20 (np := 2) ?_ ?_
  · intro ts h; unfold F20; split <;> first | rfl | (simp at h; done)
  intro ts H r hF hwf
  unfold F20 at hF
  split at hF <;> try (cases hF; done)
  rename_i x k i b f ks
  split at hF
  case h_2 => cases hF
  rename_i d hd
  split at hF
  case h_2 => cases hF
  rename_i kl hkl
  split at hF
  case isFalse => cases hF
  rename_i hb
  cases hF
  obtain ⟨rfl, hok⟩ := asRD_inv hd
  obtain rfl := asInts_inv hkl
  by_cases h1 : k = 1
  · subst h1
    have hp := put_call hok i (actB f b)
    have hm : modR d ⟨1, i, b, f, kl⟩ = putR d i (actB f b) := rfl
    rw [hm]
    generalize putR d i (actB f b) = r at *
    obtain ⟨⟨s', p', l', off'⟩, e⟩ := r
    (repeat (first | refine AWP.gseq X_ok cl20 [0, 1, 2, 3, 4, 5, 7, 8, 18, 24, 30] (by ((repeat (first | simp only [W, eqq, ↓reduceIte, Nat.reduceEqDiff, Nat.reduceLT, Nat.reduceLeDiff, Nat.reduceAdd, Nat.reduceMul, Nat.reduceSub, Nat.reduceBEq, Int.reduceLE, Int.reduceLT, Int.reduceNeg, Int.reduceToNat, Int.reduceEq, Int.reduceBEq, Int.reduceBNe, Nat.reduceBNe, bne_self_eq_false, reduceCtorEq, gt_iff_lt, ge_iff_le, RD.T, rdk] | (rewrite [if_pos]; rotate_left; focus (first | omega | (simp only [LN, RD.T, rdk]; omega) | (refine ⟨?_, ?_⟩ <;> (simp only [LN, RD.T, rdk] <;> omega)))) | (rewrite [if_neg]; rotate_left; focus (first | omega | (simp only [LN, RD.T, rdk]; omega) | (refine ⟨?_, ?_⟩ <;> (simp only [LN, RD.T, rdk] <;> omega)))))); with_reducible rfl)) ?_ | refine AWP.seq ?_ | refine AWP.block ?_ | (refine AWP.condT ?_ ?_; focus (simp only [W, eqq, ↓reduceIte, Nat.reduceEqDiff, Nat.reduceLT, Nat.reduceLeDiff, Nat.reduceAdd, Nat.reduceMul, Nat.reduceSub, Nat.reduceBEq, Int.reduceLE, Int.reduceLT, Int.reduceNeg, Int.reduceToNat, Int.reduceEq, Int.reduceBEq, Int.reduceBNe, Nat.reduceBNe, bne_self_eq_false, reduceCtorEq, gt_iff_lt, ge_iff_le, RD.T, rdk]; done)) | (refine AWP.condF ?_ ?_; focus (simp only [W, eqq, ↓reduceIte, Nat.reduceEqDiff, Nat.reduceLT, Nat.reduceLeDiff, Nat.reduceAdd, Nat.reduceMul, Nat.reduceSub, Nat.reduceBEq, Int.reduceLE, Int.reduceLT, Int.reduceNeg, Int.reduceToNat, Int.reduceEq, Int.reduceBEq, Int.reduceBNe, Nat.reduceBNe, bne_self_eq_false, reduceCtorEq, gt_iff_lt, ge_iff_le, RD.T, rdk]; done)) | (refine AWP.skip ?_; try show AWP _ _ _ _ _ _) | (refine AWP.exit ?_; try show AWP _ _ _ _ _ _) | (refine AWP.greg X_ok cl20 [0, 1, 2, 3, 4, 5, 7, 8, 18, 24, 30] (by ((repeat (first | simp only [W, eqq, ↓reduceIte, Nat.reduceEqDiff, Nat.reduceLT, Nat.reduceLeDiff, Nat.reduceAdd, Nat.reduceMul, Nat.reduceSub, Nat.reduceBEq, Int.reduceLE, Int.reduceLT, Int.reduceNeg, Int.reduceToNat, Int.reduceEq, Int.reduceBEq, Int.reduceBNe, Nat.reduceBNe, bne_self_eq_false, reduceCtorEq, gt_iff_lt, ge_iff_le, RD.T, rdk] | (rewrite [if_pos]; rotate_left; focus (first | omega | (simp only [LN, RD.T, rdk]; omega) | (refine ⟨?_, ?_⟩ <;> (simp only [LN, RD.T, rdk] <;> omega)))) | (rewrite [if_neg]; rotate_left; focus (first | omega | (simp only [LN, RD.T, rdk]; omega) | (refine ⟨?_, ?_⟩ <;> (simp only [LN, RD.T, rdk] <;> omega)))))); with_reducible rfl)) ?_; try show AWP _ _ _ _ _ _)))
    refine AWP.gdraw X_ok cl20 [0, 1, 2, 3, 4, 5, 7, 8, 18, 24, 30] mix [⟨1, [2], []⟩, ⟨0, [3], []⟩, ⟨1, [11], []⟩, ⟨1, [3], []⟩, ⟨1, [13], [3]⟩, ⟨2, [10, 12, 14], [0, 2, 3, 4]⟩, ⟨0, [15], [0, 2, 3, 4, 5]⟩, ⟨0, [15], [0, 2, 3, 4, 5]⟩, ⟨2, [4, 16], [0, 2, 3, 4, 5]⟩, ⟨0, [17], [0, 2, 3, 4, 5, 8]⟩] (by kernel_rfl) (by ((repeat (first | simp only [W, eqq, ↓reduceIte, Nat.reduceEqDiff, Nat.reduceLT, Nat.reduceLeDiff, Nat.reduceAdd, Nat.reduceMul, Nat.reduceSub, Nat.reduceBEq, Int.reduceLE, Int.reduceLT, Int.reduceNeg, Int.reduceToNat, Int.reduceEq, Int.reduceBEq, Int.reduceBNe, Nat.reduceBNe, bne_self_eq_false, reduceCtorEq, gt_iff_lt, ge_iff_le, F27, hb, hp, RD.T, rdk] | (rewrite [if_pos]; rotate_left; focus (first | omega | (simp only [LN, F27, hb, hp, RD.T, rdk]; omega) | (refine ⟨?_, ?_⟩ <;> (simp only [LN, F27, hb, hp, RD.T, rdk] <;> omega)))) | (rewrite [if_neg]; rotate_left; focus (first | omega | (simp only [LN, F27, hb, hp, RD.T, rdk]; omega) | (refine ⟨?_, ?_⟩ <;> (simp only [LN, F27, hb, hp, RD.T, rdk] <;> omega)))))); with_reducible rfl)) ?_
    show AWP _ _ _ _ _ _
    (repeat (first | refine AWP.gseq X_ok cl20 [0, 1, 2, 3, 4, 5, 7, 8, 18, 24, 30] (by ((repeat (first | simp only [W, eqq, ↓reduceIte, Nat.reduceEqDiff, Nat.reduceLT, Nat.reduceLeDiff, Nat.reduceAdd, Nat.reduceMul, Nat.reduceSub, Nat.reduceBEq, Int.reduceLE, Int.reduceLT, Int.reduceNeg, Int.reduceToNat, Int.reduceEq, Int.reduceBEq, Int.reduceBNe, Nat.reduceBNe, bne_self_eq_false, reduceCtorEq, gt_iff_lt, ge_iff_le] | (rewrite [if_pos]; rotate_left; focus (first | omega | (simp only [LN]; omega) | (refine ⟨?_, ?_⟩ <;> (simp only [LN] <;> omega)))) | (rewrite [if_neg]; rotate_left; focus (first | omega | (simp only [LN]; omega) | (refine ⟨?_, ?_⟩ <;> (simp only [LN] <;> omega)))))); with_reducible rfl)) ?_ | refine AWP.seq ?_ | refine AWP.block ?_ | (refine AWP.condT ?_ ?_; focus (simp only [W, eqq, ↓reduceIte, Nat.reduceEqDiff, Nat.reduceLT, Nat.reduceLeDiff, Nat.reduceAdd, Nat.reduceMul, Nat.reduceSub, Nat.reduceBEq, Int.reduceLE, Int.reduceLT, Int.reduceNeg, Int.reduceToNat, Int.reduceEq, Int.reduceBEq, Int.reduceBNe, Nat.reduceBNe, bne_self_eq_false, reduceCtorEq, gt_iff_lt, ge_iff_le]; done)) | (refine AWP.condF ?_ ?_; focus (simp only [W, eqq, ↓reduceIte, Nat.reduceEqDiff, Nat.reduceLT, Nat.reduceLeDiff, Nat.reduceAdd, Nat.reduceMul, Nat.reduceSub, Nat.reduceBEq, Int.reduceLE, Int.reduceLT, Int.reduceNeg, Int.reduceToNat, Int.reduceEq, Int.reduceBEq, Int.reduceBNe, Nat.reduceBNe, bne_self_eq_false, reduceCtorEq, gt_iff_lt, ge_iff_le]; done)) | (refine AWP.skip ?_; try show AWP _ _ _ _ _ _) | (refine AWP.exit ?_; try show AWP _ _ _ _ _ _) | (refine AWP.greg X_ok cl20 [0, 1, 2, 3, 4, 5, 7, 8, 18, 24, 30] (by ((repeat (first | simp only [W, eqq, ↓reduceIte, Nat.reduceEqDiff, Nat.reduceLT, Nat.reduceLeDiff, Nat.reduceAdd, Nat.reduceMul, Nat.reduceSub, Nat.reduceBEq, Int.reduceLE, Int.reduceLT, Int.reduceNeg, Int.reduceToNat, Int.reduceEq, Int.reduceBEq, Int.reduceBNe, Nat.reduceBNe, bne_self_eq_false, reduceCtorEq, gt_iff_lt, ge_iff_le] | (rewrite [if_pos]; rotate_left; focus (first | omega | (simp only [LN]; omega) | (refine ⟨?_, ?_⟩ <;> (simp only [LN] <;> omega)))) | (rewrite [if_neg]; rotate_left; focus (first | omega | (simp only [LN]; omega) | (refine ⟨?_, ?_⟩ <;> (simp only [LN] <;> omega)))))); with_reducible rfl)) ?_; try show AWP _ _ _ _ _ _)))
    refine AWP.ret ?_; show cretQ _ _ _ _ _ _ _; exact ⟨.inr rfl, [], [], (by decide), by simp only [cres, resVals, RS.val, thawV, freezeOnes, freezeOne, renH, one, AV.ren, AV.renL, Blk.ren, W, eqq, ↓reduceIte, Nat.reduceEqDiff, Nat.reduceLT, Nat.reduceLeDiff, Nat.reduceAdd, Nat.reduceMul, Nat.reduceSub, Nat.reduceBEq, Int.reduceLE, Int.reduceLT, Int.reduceNeg, Int.reduceToNat, Int.reduceEq, Int.reduceBEq, Int.reduceBNe, Nat.reduceBNe, bne_self_eq_false, reduceCtorEq, gt_iff_lt, ge_iff_le, RD.T, rdk]⟩
  have h1' : (k == 1) = false := by simp [h1]
  by_cases h2 : k = 2
  · subst h2
    have hp := sync_call hok
    have hm : modR d ⟨2, i, b, f, kl⟩ = syncR d := rfl
    rw [hm]
    generalize syncR d = r at *
    obtain ⟨⟨s', p', l', off'⟩, e⟩ := r
    (repeat (first | refine AWP.gseq X_ok cl20 [0, 1, 2, 3, 4, 5, 7, 8, 18, 24, 30] (by ((repeat (first | simp only [W, eqq, ↓reduceIte, Nat.reduceEqDiff, Nat.reduceLT, Nat.reduceLeDiff, Nat.reduceAdd, Nat.reduceMul, Nat.reduceSub, Nat.reduceBEq, Int.reduceLE, Int.reduceLT, Int.reduceNeg, Int.reduceToNat, Int.reduceEq, Int.reduceBEq, Int.reduceBNe, Nat.reduceBNe, bne_self_eq_false, reduceCtorEq, gt_iff_lt, ge_iff_le, RD.T, rdk, hp] | (rewrite [if_pos]; rotate_left; focus (first | omega | (simp only [LN, RD.T, rdk, hp]; omega) | (refine ⟨?_, ?_⟩ <;> (simp only [LN, RD.T, rdk, hp] <;> omega)))) | (rewrite [if_neg]; rotate_left; focus (first | omega | (simp only [LN, RD.T, rdk, hp]; omega) | (refine ⟨?_, ?_⟩ <;> (simp only [LN, RD.T, rdk, hp] <;> omega)))))); with_reducible rfl)) ?_ | refine AWP.seq ?_ | refine AWP.block ?_ | (refine AWP.condT ?_ ?_; focus (simp only [W, eqq, ↓reduceIte, Nat.reduceEqDiff, Nat.reduceLT, Nat.reduceLeDiff, Nat.reduceAdd, Nat.reduceMul, Nat.reduceSub, Nat.reduceBEq, Int.reduceLE, Int.reduceLT, Int.reduceNeg, Int.reduceToNat, Int.reduceEq, Int.reduceBEq, Int.reduceBNe, Nat.reduceBNe, bne_self_eq_false, reduceCtorEq, gt_iff_lt, ge_iff_le, RD.T, rdk, hp]; done)) | (refine AWP.condF ?_ ?_; focus (simp only [W, eqq, ↓reduceIte, Nat.reduceEqDiff, Nat.reduceLT, Nat.reduceLeDiff, Nat.reduceAdd, Nat.reduceMul, Nat.reduceSub, Nat.reduceBEq, Int.reduceLE, Int.reduceLT, Int.reduceNeg, Int.reduceToNat, Int.reduceEq, Int.reduceBEq, Int.reduceBNe, Nat.reduceBNe, bne_self_eq_false, reduceCtorEq, gt_iff_lt, ge_iff_le, RD.T, rdk, hp]; done)) | (refine AWP.skip ?_; try show AWP _ _ _ _ _ _) | (refine AWP.exit ?_; try show AWP _ _ _ _ _ _) | (refine AWP.greg X_ok cl20 [0, 1, 2, 3, 4, 5, 7, 8, 18, 24, 30] (by ((repeat (first | simp only [W, eqq, ↓reduceIte, Nat.reduceEqDiff, Nat.reduceLT, Nat.reduceLeDiff, Nat.reduceAdd, Nat.reduceMul, Nat.reduceSub, Nat.reduceBEq, Int.reduceLE, Int.reduceLT, Int.reduceNeg, Int.reduceToNat, Int.reduceEq, Int.reduceBEq, Int.reduceBNe, Nat.reduceBNe, bne_self_eq_false, reduceCtorEq, gt_iff_lt, ge_iff_le, RD.T, rdk, hp] | (rewrite [if_pos]; rotate_left; focus (first | omega | (simp only [LN, RD.T, rdk, hp]; omega) | (refine ⟨?_, ?_⟩ <;> (simp only [LN, RD.T, rdk, hp] <;> omega)))) | (rewrite [if_neg]; rotate_left; focus (first | omega | (simp only [LN, RD.T, rdk, hp]; omega) | (refine ⟨?_, ?_⟩ <;> (simp only [LN, RD.T, rdk, hp] <;> omega)))))); with_reducible rfl)) ?_; try show AWP _ _ _ _ _ _)))
    refine AWP.ret ?_; show cretQ _ _ _ _ _ _ _; exact ⟨.inr rfl, [], [], (by decide), by simp only [cres, resVals, RS.val, thawV, freezeOnes, freezeOne, renH, one, AV.ren, AV.renL, Blk.ren, W, eqq, ↓reduceIte, Nat.reduceEqDiff, Nat.reduceLT, Nat.reduceLeDiff, Nat.reduceAdd, Nat.reduceMul, Nat.reduceSub, Nat.reduceBEq, Int.reduceLE, Int.reduceLT, Int.reduceNeg, Int.reduceToNat, Int.reduceEq, Int.reduceBEq, Int.reduceBNe, Nat.reduceBNe, bne_self_eq_false, reduceCtorEq, gt_iff_lt, ge_iff_le, RD.T, rdk]⟩
  have h2' : (k == 2) = false := by simp [h2]
  by_cases h3 : k = 3
  · subst h3
    have hp := fuse_call hok i
    have hm : modR d ⟨3, i, b, f, kl⟩ = (⟨d.s, d.p, (if d.off = true then d.l else if 0 > i then 0 else i), d.off⟩, 0) := rfl
    rw [hm]
    generalize (if d.off = true then d.l else if 0 > i then 0 else i) = l' at *
    (repeat (first | refine AWP.gseq X_ok cl20 [0, 1, 2, 3, 4, 5, 7, 8, 18, 24, 30] (by ((repeat (first | simp only [W, eqq, ↓reduceIte, Nat.reduceEqDiff, Nat.reduceLT, Nat.reduceLeDiff, Nat.reduceAdd, Nat.reduceMul, Nat.reduceSub, Nat.reduceBEq, Int.reduceLE, Int.reduceLT, Int.reduceNeg, Int.reduceToNat, Int.reduceEq, Int.reduceBEq, Int.reduceBNe, Nat.reduceBNe, bne_self_eq_false, reduceCtorEq, gt_iff_lt, ge_iff_le, RD.T, rdk, hp] | (rewrite [if_pos]; rotate_left; focus (first | omega | (simp only [LN, RD.T, rdk, hp]; omega) | (refine ⟨?_, ?_⟩ <;> (simp only [LN, RD.T, rdk, hp] <;> omega)))) | (rewrite [if_neg]; rotate_left; focus (first | omega | (simp only [LN, RD.T, rdk, hp]; omega) | (refine ⟨?_, ?_⟩ <;> (simp only [LN, RD.T, rdk, hp] <;> omega)))))); with_reducible rfl)) ?_ | refine AWP.seq ?_ | refine AWP.block ?_ | (refine AWP.condT ?_ ?_; focus (simp only [W, eqq, ↓reduceIte, Nat.reduceEqDiff, Nat.reduceLT, Nat.reduceLeDiff, Nat.reduceAdd, Nat.reduceMul, Nat.reduceSub, Nat.reduceBEq, Int.reduceLE, Int.reduceLT, Int.reduceNeg, Int.reduceToNat, Int.reduceEq, Int.reduceBEq, Int.reduceBNe, Nat.reduceBNe, bne_self_eq_false, reduceCtorEq, gt_iff_lt, ge_iff_le, RD.T, rdk, hp]; done)) | (refine AWP.condF ?_ ?_; focus (simp only [W, eqq, ↓reduceIte, Nat.reduceEqDiff, Nat.reduceLT, Nat.reduceLeDiff, Nat.reduceAdd, Nat.reduceMul, Nat.reduceSub, Nat.reduceBEq, Int.reduceLE, Int.reduceLT, Int.reduceNeg, Int.reduceToNat, Int.reduceEq, Int.reduceBEq, Int.reduceBNe, Nat.reduceBNe, bne_self_eq_false, reduceCtorEq, gt_iff_lt, ge_iff_le, RD.T, rdk, hp]; done)) | (refine AWP.skip ?_; try show AWP _ _ _ _ _ _) | (refine AWP.exit ?_; try show AWP _ _ _ _ _ _) | (refine AWP.greg X_ok cl20 [0, 1, 2, 3, 4, 5, 7, 8, 18, 24, 30] (by ((repeat (first | simp only [W, eqq, ↓reduceIte, Nat.reduceEqDiff, Nat.reduceLT, Nat.reduceLeDiff, Nat.reduceAdd, Nat.reduceMul, Nat.reduceSub, Nat.reduceBEq, Int.reduceLE, Int.reduceLT, Int.reduceNeg, Int.reduceToNat, Int.reduceEq, Int.reduceBEq, Int.reduceBNe, Nat.reduceBNe, bne_self_eq_false, reduceCtorEq, gt_iff_lt, ge_iff_le, RD.T, rdk, hp] | (rewrite [if_pos]; rotate_left; focus (first | omega | (simp only [LN, RD.T, rdk, hp]; omega) | (refine ⟨?_, ?_⟩ <;> (simp only [LN, RD.T, rdk, hp] <;> omega)))) | (rewrite [if_neg]; rotate_left; focus (first | omega | (simp only [LN, RD.T, rdk, hp]; omega) | (refine ⟨?_, ?_⟩ <;> (simp only [LN, RD.T, rdk, hp] <;> omega)))))); with_reducible rfl)) ?_; try show AWP _ _ _ _ _ _)))
    refine AWP.ret ?_; show cretQ _ _ _ _ _ _ _; exact ⟨.inr rfl, [], [], (by decide), by simp only [cres, resVals, RS.val, thawV, freezeOnes, freezeOne, renH, one, AV.ren, AV.renL, Blk.ren, W, eqq, ↓reduceIte, Nat.reduceEqDiff, Nat.reduceLT, Nat.reduceLeDiff, Nat.reduceAdd, Nat.reduceMul, Nat.reduceSub, Nat.reduceBEq, Int.reduceLE, Int.reduceLT, Int.reduceNeg, Int.reduceToNat, Int.reduceEq, Int.reduceBEq, Int.reduceBNe, Nat.reduceBNe, bne_self_eq_false, reduceCtorEq, gt_iff_lt, ge_iff_le, RD.T, rdk]⟩
  have h3' : (k == 3) = false := by simp [h3]
  by_cases h4 : k = 4
  · subst h4
    have hp := crash_call hok kl
    have hm : modR d ⟨4, i, b, f, kl⟩ = (⟨laidN d.s d.p kl false d.p.length, [], -1, false⟩, 0) := rfl
    rw [hm]
    generalize laidN d.s d.p kl false d.p.length = N at *
    (repeat (first | refine AWP.gseq X_ok cl20 [0, 1, 2, 3, 4, 5, 7, 8, 18, 24, 30] (by ((repeat (first | simp only [W, eqq, ↓reduceIte, Nat.reduceEqDiff, Nat.reduceLT, Nat.reduceLeDiff, Nat.reduceAdd, Nat.reduceMul, Nat.reduceSub, Nat.reduceBEq, Int.reduceLE, Int.reduceLT, Int.reduceNeg, Int.reduceToNat, Int.reduceEq, Int.reduceBEq, Int.reduceBNe, Nat.reduceBNe, bne_self_eq_false, reduceCtorEq, gt_iff_lt, ge_iff_le, RD.T, rdk, hp] | (rewrite [if_pos]; rotate_left; focus (first | omega | (simp only [LN, RD.T, rdk, hp]; omega) | (refine ⟨?_, ?_⟩ <;> (simp only [LN, RD.T, rdk, hp] <;> omega)))) | (rewrite [if_neg]; rotate_left; focus (first | omega | (simp only [LN, RD.T, rdk, hp]; omega) | (refine ⟨?_, ?_⟩ <;> (simp only [LN, RD.T, rdk, hp] <;> omega)))))); with_reducible rfl)) ?_ | refine AWP.seq ?_ | refine AWP.block ?_ | (refine AWP.condT ?_ ?_; focus (simp only [W, eqq, ↓reduceIte, Nat.reduceEqDiff, Nat.reduceLT, Nat.reduceLeDiff, Nat.reduceAdd, Nat.reduceMul, Nat.reduceSub, Nat.reduceBEq, Int.reduceLE, Int.reduceLT, Int.reduceNeg, Int.reduceToNat, Int.reduceEq, Int.reduceBEq, Int.reduceBNe, Nat.reduceBNe, bne_self_eq_false, reduceCtorEq, gt_iff_lt, ge_iff_le, RD.T, rdk, hp]; done)) | (refine AWP.condF ?_ ?_; focus (simp only [W, eqq, ↓reduceIte, Nat.reduceEqDiff, Nat.reduceLT, Nat.reduceLeDiff, Nat.reduceAdd, Nat.reduceMul, Nat.reduceSub, Nat.reduceBEq, Int.reduceLE, Int.reduceLT, Int.reduceNeg, Int.reduceToNat, Int.reduceEq, Int.reduceBEq, Int.reduceBNe, Nat.reduceBNe, bne_self_eq_false, reduceCtorEq, gt_iff_lt, ge_iff_le, RD.T, rdk, hp]; done)) | (refine AWP.skip ?_; try show AWP _ _ _ _ _ _) | (refine AWP.exit ?_; try show AWP _ _ _ _ _ _) | (refine AWP.greg X_ok cl20 [0, 1, 2, 3, 4, 5, 7, 8, 18, 24, 30] (by ((repeat (first | simp only [W, eqq, ↓reduceIte, Nat.reduceEqDiff, Nat.reduceLT, Nat.reduceLeDiff, Nat.reduceAdd, Nat.reduceMul, Nat.reduceSub, Nat.reduceBEq, Int.reduceLE, Int.reduceLT, Int.reduceNeg, Int.reduceToNat, Int.reduceEq, Int.reduceBEq, Int.reduceBNe, Nat.reduceBNe, bne_self_eq_false, reduceCtorEq, gt_iff_lt, ge_iff_le, RD.T, rdk, hp] | (rewrite [if_pos]; rotate_left; focus (first | omega | (simp only [LN, RD.T, rdk, hp]; omega) | (refine ⟨?_, ?_⟩ <;> (simp only [LN, RD.T, rdk, hp] <;> omega)))) | (rewrite [if_neg]; rotate_left; focus (first | omega | (simp only [LN, RD.T, rdk, hp]; omega) | (refine ⟨?_, ?_⟩ <;> (simp only [LN, RD.T, rdk, hp] <;> omega)))))); with_reducible rfl)) ?_; try show AWP _ _ _ _ _ _)))
    refine AWP.ret ?_; show cretQ _ _ _ _ _ _ _; exact ⟨.inr rfl, [], [], (by decide), by simp only [cres, resVals, RS.val, thawV, freezeOnes, freezeOne, renH, one, AV.ren, AV.renL, Blk.ren, W, eqq, ↓reduceIte, Nat.reduceEqDiff, Nat.reduceLT, Nat.reduceLeDiff, Nat.reduceAdd, Nat.reduceMul, Nat.reduceSub, Nat.reduceBEq, Int.reduceLE, Int.reduceLT, Int.reduceNeg, Int.reduceToNat, Int.reduceEq, Int.reduceBEq, Int.reduceBNe, Nat.reduceBNe, bne_self_eq_false, reduceCtorEq, gt_iff_lt, ge_iff_le, RD.T, rdk]⟩
  have h4' : (k == 4) = false := by simp [h4]
  have hm : modR d ⟨k, i, b, f, kl⟩ = (d, 0) := by simp [modR, h1, h2, h3, h4]
  rw [hm]
  (repeat (first | refine AWP.gseq X_ok cl20 [0, 1, 2, 3, 4, 5, 7, 8, 18, 24, 30] (by ((repeat (first | simp only [W, eqq, ↓reduceIte, Nat.reduceEqDiff, Nat.reduceLT, Nat.reduceLeDiff, Nat.reduceAdd, Nat.reduceMul, Nat.reduceSub, Nat.reduceBEq, Int.reduceLE, Int.reduceLT, Int.reduceNeg, Int.reduceToNat, Int.reduceEq, Int.reduceBEq, Int.reduceBNe, Nat.reduceBNe, bne_self_eq_false, reduceCtorEq, gt_iff_lt, ge_iff_le, RD.T, rdk, h1', h2', h3', h4'] | (rewrite [if_pos]; rotate_left; focus (first | omega | (simp only [LN, RD.T, rdk, h1', h2', h3', h4']; omega) | (refine ⟨?_, ?_⟩ <;> (simp only [LN, RD.T, rdk, h1', h2', h3', h4'] <;> omega)))) | (rewrite [if_neg]; rotate_left; focus (first | omega | (simp only [LN, RD.T, rdk, h1', h2', h3', h4']; omega) | (refine ⟨?_, ?_⟩ <;> (simp only [LN, RD.T, rdk, h1', h2', h3', h4'] <;> omega)))))); with_reducible rfl)) ?_ | refine AWP.seq ?_ | refine AWP.block ?_ | (refine AWP.condT ?_ ?_; focus (simp only [W, eqq, ↓reduceIte, Nat.reduceEqDiff, Nat.reduceLT, Nat.reduceLeDiff, Nat.reduceAdd, Nat.reduceMul, Nat.reduceSub, Nat.reduceBEq, Int.reduceLE, Int.reduceLT, Int.reduceNeg, Int.reduceToNat, Int.reduceEq, Int.reduceBEq, Int.reduceBNe, Nat.reduceBNe, bne_self_eq_false, reduceCtorEq, gt_iff_lt, ge_iff_le, RD.T, rdk, h1', h2', h3', h4']; done)) | (refine AWP.condF ?_ ?_; focus (simp only [W, eqq, ↓reduceIte, Nat.reduceEqDiff, Nat.reduceLT, Nat.reduceLeDiff, Nat.reduceAdd, Nat.reduceMul, Nat.reduceSub, Nat.reduceBEq, Int.reduceLE, Int.reduceLT, Int.reduceNeg, Int.reduceToNat, Int.reduceEq, Int.reduceBEq, Int.reduceBNe, Nat.reduceBNe, bne_self_eq_false, reduceCtorEq, gt_iff_lt, ge_iff_le, RD.T, rdk, h1', h2', h3', h4']; done)) | (refine AWP.skip ?_; try show AWP _ _ _ _ _ _) | (refine AWP.exit ?_; try show AWP _ _ _ _ _ _) | (refine AWP.greg X_ok cl20 [0, 1, 2, 3, 4, 5, 7, 8, 18, 24, 30] (by ((repeat (first | simp only [W, eqq, ↓reduceIte, Nat.reduceEqDiff, Nat.reduceLT, Nat.reduceLeDiff, Nat.reduceAdd, Nat.reduceMul, Nat.reduceSub, Nat.reduceBEq, Int.reduceLE, Int.reduceLT, Int.reduceNeg, Int.reduceToNat, Int.reduceEq, Int.reduceBEq, Int.reduceBNe, Nat.reduceBNe, bne_self_eq_false, reduceCtorEq, gt_iff_lt, ge_iff_le, RD.T, rdk, h1', h2', h3', h4'] | (rewrite [if_pos]; rotate_left; focus (first | omega | (simp only [LN, RD.T, rdk, h1', h2', h3', h4']; omega) | (refine ⟨?_, ?_⟩ <;> (simp only [LN, RD.T, rdk, h1', h2', h3', h4'] <;> omega)))) | (rewrite [if_neg]; rotate_left; focus (first | omega | (simp only [LN, RD.T, rdk, h1', h2', h3', h4']; omega) | (refine ⟨?_, ?_⟩ <;> (simp only [LN, RD.T, rdk, h1', h2', h3', h4'] <;> omega)))))); with_reducible rfl)) ?_; try show AWP _ _ _ _ _ _)))
  refine AWP.ret ?_; show cretQ _ _ _ _ _ _ _; exact ⟨.inr rfl, [], [], (by decide), by simp only [cres, resVals, RS.val, thawV, freezeOnes, freezeOne, renH, one, AV.ren, AV.renL, Blk.ren, W, eqq, ↓reduceIte, Nat.reduceEqDiff, Nat.reduceLT, Nat.reduceLeDiff, Nat.reduceAdd, Nat.reduceMul, Nat.reduceSub, Nat.reduceBEq, Int.reduceLE, Int.reduceLT, Int.reduceNeg, Int.reduceToNat, Int.reduceEq, Int.reduceBEq, Int.reduceBNe, Nat.reduceBNe, bne_self_eq_false, reduceCtorEq, gt_iff_lt, ge_iff_le, RD.T, rdk]⟩

end Go.Fw

end

section
/- Chapter 27: the disk and the document's disk go side by side. -/
namespace Go.Fw
open Go Go.Proofs
set_option linter.unusedVariables false
set_option linter.unusedSimpArgs false

theorem getD_of {α : Type} {l : List α} {i : Nat} {x d : α} (h : l[i]? = some x) : l.getD i d = x := by simp [List.getD_eq_getElem?_getD, h]

theorem set_getD_self {l : List (List UInt8)} {i : Nat} : l.set i (l.getD i []) = l := by
  apply List.ext_getElem?
  intro j
  rw [List.getElem?_set]
  split
  · rename_i e; subst e
    split
    · rename_i h; simp [List.getD_eq_getElem?_getD, h]
    · rename_i h; rw [List.getElem?_eq_none (by omega)]
  · rfl

theorem laid1_keep (X : List (List UInt8)) (w : Int × List UInt8) (k : Int) : laid1 X w (if 128 < k then 128 else k) = keep1 X (w, k) := by
  have e : ((if 128 < k then (128 : Int) else k)).toNat = keepN k := by
    unfold keepN
    by_cases h1 : 128 < k
    · rw [if_pos h1, if_neg (show ¬ 0 > k by omega), if_pos h1]
    · by_cases h2 : 0 > k
      · rw [if_neg h1, if_pos h2, if_neg (show ¬ (128 : Int) < 0 by omega)]; omega
      · rw [if_neg h1, if_neg h2, if_neg h1]
  generalize (if 128 < k then (128 : Int) else k) = m at e
  unfold laid1 keep1
  by_cases h : 0 < m
  · rw [if_pos h, e]
  · rw [if_neg h]
    have e0 : keepN k = 0 := by rw [← e]; omega
    simp only [e0, List.take_zero, List.drop_zero, List.nil_append]
    exact set_getD_self.symm

theorem set_self128 {o : List (List UInt8)} {w : Int × List UInt8} (ho : full128 o = true) (h1 : w.1.toNat < o.length) (h2 : w.2.length = 128) : laid1 o w 128 = o.set w.1.toNat w.2 := by
  have := full128_get ho h1
  unfold laid1
  rw [if_pos (by omega)]
  have e1 : w.2.take (128 : Int).toNat = w.2 := List.take_of_length_le (by omega)
  have e2 : (o.getD w.1.toNat []).drop (128 : Int).toNat = [] := List.drop_eq_nil_of_le (by omega)
  rw [e1, e2, List.append_nil]

theorem laidN_now {s : List (List UInt8)} {p : List (Int × List UInt8)} (h : full128 s = true) (hf : fitP s.length p = true) (hp : full128P p = true) (ks : List Int) : ∀ i, i ≤ p.length → laidN s p ks true i = layP s (p.take i)
  | 0, _ => rfl
  | i + 1, hi => by
    have hip : i < p.length := by omega
    obtain ⟨w, hw⟩ : ∃ w, p[i]? = some w := ⟨_, List.getElem?_eq_getElem hip⟩
    have ih := laidN_now h hf hp ks i (by omega)
    have h3 := laidN_full ks true h hf hp i (by omega)
    have h4 := laidN_len s p ks true i
    have h1 := fitP_get hf hw
    simp only [laidN, getD_of hw]
    have e : nAt ks true i = 128 := rfl
    rw [e, set_self128 h3 (by omega) (full128P_get hp hw), ih]
    have : p.take (i + 1) = p.take i ++ [w] := by rw [List.take_add_one, hw]; rfl
    rw [this, layP_snoc]

theorem nowR_lay {d : RD} (h : d.ok = true) : nowR d = layP d.s d.p := by
  obtain ⟨h1, h2, h3, h4, h5⟩ := RD.ok_iff.1 h
  rw [nowR, laidN_now h2 h1 h3 [] d.p.length (by omega), List.take_length]

theorem laidN_keep {s : List (List UInt8)} {p : List (Int × List UInt8)} (ks : List Int) : ∀ i, i ≤ p.length → laidN s p ks false i = layK s ((p.zip ks).take i)
  | 0, _ => rfl
  | i + 1, hi => by
    have hip : i < p.length := by omega
    obtain ⟨w, hw⟩ : ∃ w, p[i]? = some w := ⟨_, List.getElem?_eq_getElem hip⟩
    have ih := laidN_keep (s := s) (p := p) ks i (by omega)
    simp only [laidN, getD_of hw, ih]
    by_cases hk : i < ks.length
    · obtain ⟨k, hkk⟩ : ∃ k, ks[i]? = some k := ⟨_, List.getElem?_eq_getElem hk⟩
      have hz : (p.zip ks)[i]? = some (w, k) := by simp [List.getElem?_zip_eq_some, hw, hkk]
      rw [List.take_add_one, hz]
      simp only [Option.toList_some, layK, List.foldl_append, List.foldl_cons, List.foldl_nil]
      have : nAt ks false i = if 128 < k then 128 else k := by simp [nAt, List.getD_eq_getElem?_getD, hkk]
      rw [this]
      exact laid1_keep _ w k
    · have hz : (p.zip ks).length ≤ i := by simp; omega
      rw [List.take_of_length_le (Nat.le_trans hz (Nat.le_succ i)), List.take_of_length_le hz]
      have : nAt ks false i = 0 := by simp [nAt, List.getD_eq_getElem?_getD, List.getElem?_eq_none (show ks.length ≤ i by omega)]
      rw [this]
      simp [laid1]

theorem laidN_crash {s : List (List UInt8)} {p : List (Int × List UInt8)} (ks : List Int) : laidN s p ks false p.length = layK s (p.zip ks) := by
  rw [laidN_keep ks p.length (by omega), List.take_of_length_le (by simp; omega)]

/-- Behind a crash what is read is what is safe. -/
theorem layO_hit {t : List (List UInt8)} {q : Nat} (p : List (Int × List UInt8)) : ∀ n : List (List UInt8), t.length = n.length → ((∃ w ∈ p, w.1.toNat = q) ∨ n.getD q [] = t.getD q []) → (layO t n p).getD q [] = t.getD q [] := by
  induction p with
  | nil => intro n _ h; rcases h with ⟨w, hw, _⟩ | h; · simp at hw
           · exact h
  | cons w p ih =>
    intro n hl h
    simp only [layO, List.foldl_cons] at ih ⊢
    apply ih
    · simp [over1, hl]
    · by_cases hq : w.1.toNat = q
      · right
        subst hq
        unfold over1
        simp only [List.getD_eq_getElem?_getD, List.getElem?_set]
        by_cases hb : w.1.toNat < n.length
        · simp [hb]
        · simp [hb]; rw [List.getElem?_eq_none (by omega)]; rfl
      · rcases h with ⟨v, hv, hvq⟩ | h
        · rcases List.mem_cons.1 hv with rfl | hv
          · exact absurd hvq hq
          · exact .inl ⟨v, hv, hvq⟩
        · right
          unfold over1
          rw [getD_set_ne hq]; exact h

theorem layO_crash (s : List (List UInt8)) (p : List (Int × List UInt8)) (ks : List Int) : layO (layK s (p.zip ks)) (layP s p) p = layK s (p.zip ks) := by
  have hl : (layO (layK s (p.zip ks)) (layP s p) p).length = (layK s (p.zip ks)).length := by rw [layO_len, layP_len, layK_len]
  apply List.ext_getElem hl
  intro q h1 h2
  have key : (layO (layK s (p.zip ks)) (layP s p) p).getD q [] = (layK s (p.zip ks)).getD q [] := by
    apply layO_hit
    · rw [layK_len, layP_len]
    · by_cases hw : ∃ w ∈ p, w.1.toNat = q
      · exact .inl hw
      · right
        have hn : ∀ w ∈ p, w.1.toNat ≠ q := fun w hw' h => hw ⟨w, hw', h⟩
        rw [layP_at p s hn, layK_at (p.zip ks) s (fun w hw' => hn _ (zip_fst hw'))]
  rw [List.getD_eq_getElem?_getD, List.getD_eq_getElem?_getD, List.getElem?_eq_getElem h1, List.getElem?_eq_getElem h2] at key
  exact key

/-- What is read: the last one written there, else what is safe. -/
theorem readN_lay {s : List (List UInt8)} {p : List (Int × List UInt8)} {i : Int} (h0 : 0 ≤ i) (h1 : i < s.length) (hf : fitP s.length p = true) : ∀ k, k ≤ p.length → (readN p i k).getD (s.getD i.toNat []) = (layP s (p.take k)).getD i.toNat []
  | 0, _ => rfl
  | k + 1, hk => by
    obtain ⟨w, hw⟩ : ∃ w, p[k]? = some w := ⟨_, List.getElem?_eq_getElem (by omega)⟩
    have ih := readN_lay h0 h1 hf k (by omega)
    have hw1 := fitP_get hf hw
    have e : p.take (k + 1) = p.take k ++ [w] := by rw [List.take_add_one, hw]; rfl
    rw [e, layP_snoc]
    simp only [readN, getD_of hw]
    by_cases hq : w.1 = i
    · rw [if_pos hq, hq]
      have hl : i.toNat < (layP s (p.take k)).length := by rw [layP_len]; omega
      simp [List.getD_eq_getElem?_getD, hl]
    · rw [if_neg hq, getD_set_ne (by omega)]
      exact ih

theorem readR_lay {d : RD} {i : Int} (h : d.ok = true) (h0 : 0 ≤ i) (h1 : i < d.s.length) : readR d i = (layP d.s d.p).getD i.toNat [] := by
  have := readN_lay h0 h1 (RD.ok_iff.1 h).1 d.p.length (by omega)
  rw [List.take_length] at this
  exact this

theorem rsp_spL {l : Int} {off : Bool} (h : off = true → l = 0) : rsp l off = spL l off := by
  unfold rsp spL
  cases off
  · simp
  · have := h rfl; subst this; simp
theorem spL_off {l : Int} {off : Bool} (h : off = true → l = 0) : (spL l off).2.1 = true → (spL l off).1 = 0 := by
  unfold spL
  split
  · intro _; assumption
  · split
    · intro h2; exact h (by assumption)
    · split
      · intro h2; rename_i h3 _; exact absurd h2 h3
      · intro h2; rename_i h3 _; exact absurd h2 h3

/-- The disk behind so many acts, and the document's. -/
structure PlSt (w : Nat) where
  i : Nat
  l : Int
  off : Bool
  s : List (List UInt8)
  p : List (Int × List UInt8)
  hi : i ≤ 40
  hs : s.length = w
  fs : full128 s = true
  fit : fitP w p = true
  fp : full128P p = true
  hp : p.length ≤ i
  ho : off = true → l = 0

abbrev PlSt.n {w : Nat} (g : PlSt w) : List (List UInt8) := layP g.s g.p
abbrev PlSt.H {w : Nat} (g : PlSt w) : List Blk := [dk 1 2 3 g.l g.off, .sq 128 (sect g.s), .sq 128 (sect (layP g.s g.p)), .sq 129 (pnd g.p)]
def PlSt.rd {w : Nat} (g : PlSt w) : RD := ⟨g.s, g.p, g.l, g.off⟩
theorem PlSt.ok {w : Nat} (g : PlSt w) (hw : w ≤ 15) : g.rd.ok = true := by
  have := g.hs; have := g.hp; have := g.hi
  exact RD.ok_iff.2 ⟨by show fitP g.s.length g.p = true; rw [g.hs]; exact g.fit, g.fs, g.fp, by simp only [PlSt.rd]; omega, by simp only [PlSt.rd]; omega⟩

theorem play_sim {w : Nat} (hw : w ≤ 15) (g : PlSt w) (a : Act) (hi : g.i < 40) (hd : a.d.length ≤ 200) :
    ∃ (g' : PlSt w) (r : Int), g'.i = g.i + 1 ∧ modR g.rd a = (g'.rd, r) ∧ (G16 g.H [.ptr 0 0 [], .t (actT a)] = some (g'.H, .t (.int .i64 r)) ∨
      G16 g.H [.ptr 0 0 [], .t (actT a)] = some ([dk 1 2 4 g'.l g'.off, .sq 128 (sect g'.s), .sq 128 (sect (layP g'.s g'.p)), .no, .sq 129 (pnd g'.p)], .t (.int .i64 r)) ∨
      G16 g.H [.ptr 0 0 [], .t (actT a)] = some ([dk 1 2 4 g'.l g'.off, .sq 128 (sect g'.s), .sq 128 (sect (layP g'.s g'.p)), .sq 129 (pnd g.p), .sq 129 (pnd g'.p)], .t (.int .i64 r))) := by
  obtain ⟨i, l, off, s, p, h0, hs, fs, fit, fp, hp, ho⟩ := g
  obtain ⟨k, ai, d, f, ks⟩ := a
  simp only at hi hd
  have hok : (RD.mk s p l off).ok = true := RD.ok_iff.2 ⟨by simp only; rw [hs]; exact fit, fs, fp, by simp only; omega, by simp only; omega⟩
  have hnow := nowR_lay hok
  have hsp := rsp_spL ho
  have hso := spL_off ho
  have hnf : full128 (layP s p) = true := layP_full p s fs fp
  have hnl : (layP s p).length = w := by rw [layP_len]; exact hs
  have hck : T.cleanL (ks.map (T.int .i64)) = true := (cleanL_iff _).2 fun y hy => by simp only [List.mem_map] at hy; obtain ⟨z, _, rfl⟩ := hy; rfl
  have e0 : ∀ X, (if 200 < d.length then (none : Option (List Blk × AV)) else X) = X := fun X => if_neg (by omega)
  have e1 : ∀ n X, (if T.cleanL (sect s) = false ∨ T.cleanL (sect n) = false ∨ T.cleanL (pnd p) = false ∨ T.cleanL (ks.map (T.int .i64)) = false then (none : Option (List Blk × AV)) else X) = X := fun n X => if_neg (by rw [cleanL_sect, cleanL_sect, cleanL_pnd, hck]; simp)
  simp only [G16, e0, e1, PlSt.rd]
  by_cases h1 : k = 1
  · rw [if_pos h1]
    subst h1
    have hm : modR ⟨s, p, l, off⟩ ⟨1, ai, d, f, ks⟩ = putR ⟨s, p, l, off⟩ ai (actB f d) := rfl
    rw [hm]
    simp only [G11, putR, hsp]
    by_cases c1 : (decide (0 ≤ ai) && decide (ai < ((sect s).length : Int))) = false ∨ (actB f d).length ≠ 128
    · rw [if_pos c1, if_pos (by simp only [List.length_map] at c1; simp at c1; omega)]
      exact ⟨⟨i + 1, l, off, s, p, by omega, hs, fs, fit, fp, by omega, ho⟩, 1, rfl, rfl, .inl rfl⟩
    · rw [if_neg c1]
      have c2 : 0 ≤ ai ∧ ai < s.length ∧ (actB f d).length = 128 := by
        simp only [List.length_map] at c1
        simp at c1
        omega
      obtain ⟨c2, c3, c4⟩ := c2
      rw [if_neg (by omega)]
      generalize spL l off = sp at *
      obtain ⟨l', off', ok⟩ := sp
      simp only at hso
      cases ok
      · exact ⟨⟨i + 1, l', off', s, p, by omega, hs, fs, fit, fp, by omega, hso⟩, 7, rfl, rfl, .inl rfl⟩
      · simp only [Bool.true_eq_false, if_false]
        rw [if_pos ⟨by simp [hs, hnl], by simp only [List.length_map]; omega, by rw [sect_get (layP s p) ai.toNat (by omega)]; rfl⟩]
        refine ⟨⟨i + 1, l', off', s, p ++ [(ai, actB f d)], by omega, hs, fs, ?_, ?_, by simp; omega, hso⟩, 0, rfl, rfl, .inr (.inl ?_)⟩
        · exact List.all_eq_true.2 (fun y hy => (List.mem_append.1 hy).elim (fun h => List.all_eq_true.1 fit y h) (fun h => by simp at h; subst h; simp; omega))
        · exact List.all_eq_true.2 (fun y hy => (List.mem_append.1 hy).elim (fun h => List.all_eq_true.1 fp y h) (fun h => by simp at h; subst h; simp [c4]))
        · simp only [layP_snoc, sect, pnd, List.map_set, List.map_append, List.map_cons, List.map_nil]
  · rw [if_neg h1]
    by_cases h2 : k = 2
    · rw [if_pos h2]
      subst h2
      have hm : modR ⟨s, p, l, off⟩ ⟨2, ai, d, f, ks⟩ = syncR ⟨s, p, l, off⟩ := rfl
      rw [hm]
      simp only [G12, syncR, hsp, hnow]
      generalize spL l off = sp at *
      obtain ⟨l', off', ok⟩ := sp
      simp only at hso
      cases ok
      · exact ⟨⟨i + 1, l', off', s, p, by omega, hs, fs, fit, fp, by omega, hso⟩, 7, rfl, rfl, .inl rfl⟩
      · simp only [Bool.true_eq_false, if_false, asSect_map, asPnd_map]
        rw [if_pos ⟨by rw [hs]; exact fit, by omega⟩]
        exact ⟨⟨i + 1, l', off', layP s p, [], by omega, hnl, hnf, rfl, rfl, by simp, hso⟩, 0, rfl, rfl, .inr (.inr rfl)⟩
    · rw [if_neg h2]
      by_cases h3 : k = 3
      · rw [if_pos h3]
        subst h3
        refine ⟨⟨i + 1, (if off = true then l else if 0 > ai then 0 else ai), off, s, p, by omega, hs, fs, fit, fp, by omega, fun h => by rw [if_pos h]; exact ho h⟩, 0, rfl, rfl, .inl rfl⟩
      · rw [if_neg h3]
        by_cases h4 : k = 4
        · rw [if_pos h4]
          subst h4
          have hm : modR ⟨s, p, l, off⟩ ⟨4, ai, d, f, ks⟩ = (⟨laidN s p ks false p.length, [], -1, false⟩, 0) := rfl
          rw [hm, laidN_crash]
          simp only [G13, asSect_map, asPnd_map, asInts_map]
          rw [if_pos ⟨by rw [hs, fit, fs, fp]; rfl, by rw [hs, hnl], by omega⟩, layO_crash]
          have hkf : full128 (layK s (p.zip ks)) = true := layK_full _ _ fs fun x hx => by
            obtain ⟨j, hj⟩ := List.getElem?_of_mem (zip_fst hx)
            have := fitP_get fit hj
            exact ⟨full128P_get fp hj, by omega⟩
          exact ⟨⟨i + 1, -1, false, layK s (p.zip ks), [], by omega, by rw [layK_len]; exact hs, hkf, rfl, rfl, by simp, by simp⟩, 0, rfl, rfl, .inr (.inr rfl)⟩
        · rw [if_neg h4]
          have hm : modR ⟨s, p, l, off⟩ ⟨k, ai, d, f, ks⟩ = (⟨s, p, l, off⟩, 0) := by simp [modR, h1, h2, h3, h4]
          rw [hm]
          exact ⟨⟨i + 1, l, off, s, p, by omega, hs, fs, fit, fp, by omega, ho⟩, 0, rfl, rfl, .inl rfl⟩

end Go.Fw

end
