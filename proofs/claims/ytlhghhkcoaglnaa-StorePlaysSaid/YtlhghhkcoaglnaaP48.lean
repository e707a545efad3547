/- The abstract machine, and the contracts of the code: part 48. -/
import Derived.Test.YtlhghhkcoaglnaaFwCp

section
/- disk: a disk's calls. -/
namespace Go.Fw
open Go Go.Proofs
set_option linter.unusedVariables false
set_option linter.unusedSimpArgs false

def F14 : Fun
  | [.int .i64 k] => if k < 1 ∨ 8192 < k then some ([], .tup [.t .nilp, .t (.int .i64 1)])
    else some (dH (newD k.toNat), .tup [.ptr 0 0 [], .t (.int .i64 0)])
  | _ => none

theorem ct14 : CT [] [0, 2, 3, 9] [(3, [⟨0, [0], [], []⟩, ⟨1, [10], [], []⟩, ⟨0, [0], [], []⟩, ⟨1, [12], [], []⟩, ⟨1, [11, 13], [1, 3], []⟩, ⟨1, [14], [1, 3, 4], []⟩, ⟨0, [15], [1, 3, 4, 5], []⟩, ⟨0, [], [1, 3, 4, 5], []⟩])] := ⟨GClOk.nil _⟩

set_option maxHeartbeats 1000000 in
theorem c14 : ACon Try.prog 14 F14 := by
  refine aconc E_ok (rs := [.tmp 2 22, .tmp 3 28]) Try.func14 rfl Try.ntmps14 (by kernel_rfl) rfl (by decide) F14 (np := 1) ?_ ?_
  · intro ts h; unfold F14; split <;> first | rfl | (simp at h; done)
  intro ts H r hF hwf
  unfold F14 at hF
  split at hF <;> try (cases hF; done)
  rename_i k
  by_cases h1 : k < 1
  · rw [if_pos (Or.inl h1)] at hF
    cases hF
    repeat refine St h1 ct14 ?_
    exact AWP.ret (Fin trivial [] [])
  by_cases h2 : 8192 < k
  · rw [if_pos (Or.inr h2)] at hF
    cases hF
    repeat refine St (And.intro h1 <| h2) ct14 ?_
    exact AWP.ret (Fin trivial [] [])
  rw [if_neg (by omega)] at hF
  cases hF
  repeat refine St (And.intro h1 <| h2) ct14 ?_
  refine AWP.weak (Weak.ownBx (v' := _) 2 [2] 2 (.sq 129 []) rfl (by simp only [W, eqq, ↓reduceIte, Nat.reduceEqDiff, Nat.reduceLT, Nat.reduceLeDiff, Nat.reduceAdd, Nat.reduceMul, Nat.reduceSub, Nat.reduceBEq, Int.reduceLE, Int.reduceLT, Int.reduceNeg, Int.reduceToNat, Int.reduceEq, Int.reduceBEq, Int.reduceBNe, Nat.reduceBNe, bne_self_eq_false, reduceCtorEq, gt_iff_lt, ge_iff_le]) (by simp only [W, eqq, ↓reduceIte, Nat.reduceEqDiff, Nat.reduceLT, Nat.reduceLeDiff, Nat.reduceAdd, Nat.reduceMul, Nat.reduceSub, Nat.reduceBEq, Int.reduceLE, Int.reduceLT, Int.reduceNeg, Int.reduceToNat, Int.reduceEq, Int.reduceBEq, Int.reduceBNe, Nat.reduceBNe, bne_self_eq_false, reduceCtorEq, gt_iff_lt, ge_iff_le]) (by simp only [W, eqq, ↓reduceIte, Nat.reduceEqDiff, Nat.reduceLT, Nat.reduceLeDiff, Nat.reduceAdd, Nat.reduceMul, Nat.reduceSub, Nat.reduceBEq, Int.reduceLE, Int.reduceLT, Int.reduceNeg, Int.reduceToNat, Int.reduceEq, Int.reduceBEq, Int.reduceBNe, Nat.reduceBNe, bne_self_eq_false, reduceCtorEq, gt_iff_lt, ge_iff_le]; rfl) (.inr ⟨_, by decide, rfl⟩)) ?_
  exact AWP.ret (Fin @newD_H [] [2, 0, 1, 3])

noncomputable def G43 : GFun
  | HB, [.ptr 0 0 []] => match inv dH HB with
    | some d => @ite _ ((d.good = true)) (Classical.propDecidable _) ((some (dH (spR d).1, .t (.bool (spR d).2)))) none
    | none => none
  | _, _ => none

theorem ct43 : CT [] [0, 2, 7, 14, 19] [] := ⟨GClOk.nil _⟩

theorem g43 : GCon Try.prog 43 G43 := by
  refine gconc E_ok (rs := [.tmp 2 4]) Try.func43 rfl Try.ntmps43 (by kernel_rfl) rfl (by decide) G43 (np := 1) ?_ ?_
  · intro HB xs h; unfold G43; split <;> first | rfl | (simp at h; done)
  intro HB xs H r hG hwf hex
  unfold G43 at hG
  split at hG <;> try (cases hG; done)
  rename_i HB
  split at hG <;> try (cases hG; done)
  rename_i d hd
  split at hG
  case isFalse => cases hG
  rename_i hg
  cases hG
  obtain rfl := inv_inv hd
  obtain ⟨hok, ho, hl1, hl2⟩ := good_iff.1 hg
  clear hd hex hwf hg
  obtain ⟨s, p, l, off⟩ := d
  dsimp only at ho hl1 hl2
  simp only [dH, spR]
  cases off with
  | true =>
    obtain rfl := ho rfl
    rw [show rsp 0 true = (0, true, false) from rfl]
    repeat refine St (And.intro @gentry.eq_1 <| @gentry.eq_2) ct43 ?_
    exact AWP.ret (Fin trivial [] [0, 1, 2, 3])
  | false =>
    by_cases h0 : l = 0
    · subst h0
      rw [show rsp 0 false = (0, true, false) from rfl]
      repeat refine St (And.intro @gentry.eq_1 <| @gentry.eq_2) ct43 ?_
      exact AWP.ret (Fin trivial [] [0, 1, 2, 3])
    have h0b : (l == 0) = false := by simpa using h0
    by_cases h1 : 0 < l
    · have e : rsp l false = (l - 1, false, true) := by simp [rsp, h0, h1]
      have hw : IntKind.i64.wrap (l - 1) = l - 1 := wrap_i64 (by omega) (by omega)
      rw [e]
      repeat refine St (And.intro (And.intro @gentry.eq_1 <| @gentry.eq_2) <| And.intro h0b <| And.intro h1 <| hw) ct43 ?_
      exact AWP.ret (Fin trivial [] [0, 1, 2, 3])
    · have e : rsp l false = (l, false, true) := by simp [rsp, h0, h1]
      rw [e]
      repeat refine St (And.intro (And.intro @gentry.eq_1 <| @gentry.eq_2) <| And.intro h0b <| h1) ct43 ?_
      exact AWP.ret (Fin trivial [] [0, 1, 2, 3])

noncomputable def G42 : GFun
  | [], [.t .nilp, .t (.int .i64 i)] => some ([], .t (.bool false))
  | HB, [.ptr 0 0 [], .t (.int .i64 i)] => match inv dH HB with
    | some d => some (dH d, .t (.bool (decide (0 ≤ i) && decide (i < d.s.length))))
    | none => none
  | _, _ => none

theorem ct42 : CT [] [0, 1, 4] [] := ⟨GClOk.nil _⟩

theorem g42 : GCon Try.prog 42 G42 := by
  refine gconc E_ok (rs := [.tmp 4 4]) Try.func42 rfl Try.ntmps42 (by kernel_rfl) rfl (by decide) G42 (np := 2) ?_ ?_
  · intro HB xs h; unfold G42; split <;> first | rfl | (simp at h; done)
  intro HB xs H r hG hwf hex
  unfold G42 at hG
  split at hG <;> try (cases hG; done)
  · cases hG
    repeat refine St (And.intro @gentry.eq_1 <| @gentry.eq_2) ct42 ?_
    exact AWP.ret (Fin trivial [] [])
  · rename_i i
    split at hG <;> try (cases hG; done)
    rename_i d hd
    cases hG
    obtain rfl := inv_inv hd
    simp only [dH]
    have ml : (d.s.map (T.ba 128)).length = d.s.length := List.length_map ..
    by_cases h0 : 0 ≤ i
    · repeat refine St (And.intro (And.intro @gentry.eq_1 <| @gentry.eq_2) <| And.intro h0 <| ml) ct42 ?_
      exact AWP.ret (Fin (And.intro h0 <| ml) [] [0, 1, 2, 3])
    · repeat refine St (And.intro (And.intro @gentry.eq_1 <| @gentry.eq_2) <| And.intro h0 <| ml) ct42 ?_
      exact AWP.ret (Fin (And.intro h0 <| ml) [] [0, 1, 2, 3])

noncomputable def G37 : GFun
  | [], [.t .nilp] => some ([], .t (.int .i64 0))
  | HB, [.ptr 0 0 []] => match inv dH HB with
    | some d => some (dH d, .t (.int .i64 (d.s.length : Int)))
    | none => none
  | _, _ => none

theorem ct37 : CT [] [0, 2, 4] [] := ⟨GClOk.nil _⟩

theorem g37 : GCon Try.prog 37 G37 := by
  refine gconc E_ok (rs := [.tmp 2 3]) Try.func37 rfl Try.ntmps37 (by kernel_rfl) rfl (by decide) G37 (np := 1) ?_ ?_
  · intro HB xs h; unfold G37; split <;> first | rfl | (simp at h; done)
  intro HB xs H r hG hwf hex
  unfold G37 at hG
  split at hG <;> try (cases hG; done)
  · cases hG
    repeat refine St (And.intro @gentry.eq_1 <| @gentry.eq_2) ct37 ?_
    exact AWP.ret (Fin trivial [] [])
  · skip
    split at hG <;> try (cases hG; done)
    rename_i d hd
    cases hG
    obtain rfl := inv_inv hd
    simp only [dH]
    have ml : (d.s.map (T.ba 128)).length = d.s.length := List.length_map ..
    repeat refine St (And.intro (And.intro @gentry.eq_1 <| @gentry.eq_2) <| ml) ct37 ?_
    exact AWP.ret (Fin ml [] [0, 1, 2, 3])

noncomputable def G18 : GFun
  | HB, [.ptr 0 0 [], .t (.int .i64 k)] => match inv dH HB with
    | some d => some (dH (fuR d k), .tup [])
    | none => none
  | _, _ => none

theorem ct18 : CT [] [0, 1, 12] [] := ⟨GClOk.nil _⟩

theorem g18 : GCon Try.prog 18 G18 := by
  refine gconc E_ok (rs := []) Try.func18 rfl Try.ntmps18 (by kernel_rfl) rfl (by decide) G18 (np := 2) ?_ ?_
  · intro HB xs h; unfold G18; split <;> first | rfl | (simp at h; done)
  intro HB xs H r hG hwf hex
  unfold G18 at hG
  split at hG <;> try (cases hG; done)
  rename_i HB k
  split at hG <;> try (cases hG; done)
  rename_i d hd
  cases hG
  obtain rfl := inv_inv hd
  clear hd hex hwf
  obtain ⟨s, p, l, off⟩ := d
  simp only [dH]
  cases off with
  | true =>
    rw [show fuR ⟨s, p, l, true⟩ k = ⟨s, p, l, true⟩ from rfl]
    repeat refine St (And.intro @gentry.eq_1 <| @gentry.eq_2) ct18 ?_
    exact Fin trivial [] [0, 1, 2, 3]
  | false =>
    rw [show fuR ⟨s, p, l, false⟩ k = ⟨s, p, if 0 > k then 0 else k, false⟩ from rfl]
    repeat refine St (And.intro @gentry.eq_1 <| @gentry.eq_2) ct18 ?_
    exact Fin trivial [] [0, 1, 2, 3]

/-! ### As facts. -/
theorem spend_c (d : RD) (h : d.good = true) : G43 [.bx (.st [.own 1, .own 2, .own 3, .t (.int .i64 (d.l)), .t (.bool d.off)]), .sq 128 ((d.s).map (T.ba 128)), .sq 128 ((layP d.s d.p).map (T.ba 128)), .sq 129 ((d.p).map pnd1)] [.ptr 0 0 []] = some (dH (spR d).1, .t (.bool (spR d).2)) := by
  show G43 (dH d) _ = _
  simp only [G43, inv_of dH_inj]
  exact if_pos h
theorem has_dc (d : RD) (i : Int) : G42 [.bx (.st [.own 1, .own 2, .own 3, .t (.int .i64 (d.l)), .t (.bool d.off)]), .sq 128 ((d.s).map (T.ba 128)), .sq 128 ((layP d.s d.p).map (T.ba 128)), .sq 129 ((d.p).map pnd1)] [.ptr 0 0 [], .t (.int .i64 i)] = some (dH d, .t (.bool (decide (0 ≤ i) && decide (i < d.s.length)))) := by
  show G42 (dH d) _ = _
  simp only [G42, inv_of dH_inj]
theorem sectors_c (d : RD) : G37 [.bx (.st [.own 1, .own 2, .own 3, .t (.int .i64 (d.l)), .t (.bool d.off)]), .sq 128 ((d.s).map (T.ba 128)), .sq 128 ((layP d.s d.p).map (T.ba 128)), .sq 129 ((d.p).map pnd1)] [.ptr 0 0 []] = some (dH d, .t (.int .i64 (d.s.length : Int))) := by
  show G37 (dH d) _ = _
  simp only [G37, inv_of dH_inj]
theorem fuse_c (d : RD) (k : Int) : G18 [.bx (.st [.own 1, .own 2, .own 3, .t (.int .i64 (d.l)), .t (.bool d.off)]), .sq 128 ((d.s).map (T.ba 128)), .sq 128 ((layP d.s d.p).map (T.ba 128)), .sq 129 ((d.p).map pnd1)] [.ptr 0 0 [], .t (.int .i64 k)] = some (dH (fuR d k), .tup []) := by
  show G18 (dH d) _ = _
  simp only [G18, inv_of dH_inj]

end Go.Fw

end

section
/- disk: a sector written, read; all made safe. -/
namespace Go.Fw
open Go Go.Proofs
set_option linter.unusedVariables false
set_option linter.unusedSimpArgs false

noncomputable def G22 : GFun
  | HB, [.ptr 0 0 [], .t (.int .i64 i), .t (.by b)] => match inv dH HB with
    | some d => @ite _ ((d.good = true ∧ d.p.length ≤ 99999)) (Classical.propDecidable _) ((some (dN (putR d i b).1, .t (.int .i64 (putR d i b).2)))) none
    | none => none
  | _, _ => none

theorem ct22 : CT [(42, ⟨[true, false], G42⟩), (43, ⟨[true], G43⟩)] [0, 1, 2, 6, 7, 16, 19] [(6, [⟨0, [0], [], []⟩, ⟨0, [25], [], []⟩, ⟨0, [26], [], []⟩, ⟨1, [27], [], []⟩, ⟨0, [1], [], []⟩, ⟨0, [7], [], []⟩, ⟨1, [30], [], []⟩, ⟨1, [28, 29], [3, 6], []⟩, ⟨2, [31, 32], [3, 6, 7], []⟩]), (7, [⟨0, [0], [], []⟩, ⟨0, [0], [], []⟩, ⟨0, [34], [], []⟩, ⟨0, [35], [], []⟩, ⟨1, [36], [], []⟩, ⟨1, [7], [], []⟩, ⟨1, [38], [5], []⟩, ⟨2, [37, 39], [4, 5, 6], []⟩, ⟨0, [33], [4, 5, 6, 7], []⟩, ⟨0, [41], [4, 5, 6, 7], []⟩, ⟨2, [40, 42], [4, 5, 6, 7], []⟩])] := ⟨(.cons g42 (.cons g43 (.nil _)))⟩

set_option maxHeartbeats 2000000 in
theorem g22 : GCon Try.prog 22 G22 := by
  refine gconc E_ok (rs := [.tmp 6 28]) Try.func22 rfl Try.ntmps22 (by kernel_rfl) rfl (by decide) G22 (np := 3) ?_ ?_
  · intro HB xs h; unfold G22; split <;> first | rfl | (simp at h; done)
  intro HB xs H r hG hwf hex
  unfold G22 at hG
  split at hG <;> try (cases hG; done)
  rename_i HB i b
  split at hG <;> try (cases hG; done)
  rename_i d hd
  split at hG
  case isFalse => cases hG
  rename_i hg
  cases hG
  obtain rfl := inv_inv hd
  obtain ⟨hg, hpl⟩ := hg
  have hsp := spend_c d hg
  have hha := has_dc d i
  obtain ⟨hok, ho, hl1, hl2⟩ := good_iff.1 hg
  obtain ⟨hfit, hfs, hfp, hsl, _⟩ := RD.ok_iff.1 hok
  have hnl : (layP d.s d.p).length = d.s.length := layP_len d.p d.s
  clear hd hex hwf hg hok
  obtain ⟨s, p, l, off⟩ := d
  dsimp only at hsp hha ho hl1 hl2 hfit hfs hfp hsl hnl hpl
  simp only [dH, putR]
  simp only [dH] at hha hsp
  by_cases h1 : (decide (0 ≤ i) && decide (i < (s.length : Int))) = true
  case neg =>
    have h1 : (decide (0 ≤ i) && decide (i < (s.length : Int))) = false := by simpa using h1
    rw [if_pos (by simp at h1; omega)]
    rw [h1] at hha
    repeat refine St (And.intro (And.intro @gentry.eq_1 <| @gentry.eq_2) <| hha) ct22 ?_
    refine AWP.weak (Weak.moveBx (v' := _) 0 3 [2] 2 _ rfl rfl rfl (by decide) (by simp only [W, eqq, ↓reduceIte, Nat.reduceEqDiff, Nat.reduceLT, Nat.reduceLeDiff, Nat.reduceAdd, Nat.reduceMul, Nat.reduceSub, Nat.reduceBEq, Int.reduceLE, Int.reduceLT, Int.reduceNeg, Int.reduceToNat, Int.reduceEq, Int.reduceBEq, Int.reduceBNe, Nat.reduceBNe, bne_self_eq_false, reduceCtorEq, gt_iff_lt, ge_iff_le]) (by simp only [W, eqq, ↓reduceIte, Nat.reduceEqDiff, Nat.reduceLT, Nat.reduceLeDiff, Nat.reduceAdd, Nat.reduceMul, Nat.reduceSub, Nat.reduceBEq, Int.reduceLE, Int.reduceLT, Int.reduceNeg, Int.reduceToNat, Int.reduceEq, Int.reduceBEq, Int.reduceBNe, Nat.reduceBNe, bne_self_eq_false, reduceCtorEq, gt_iff_lt, ge_iff_le]) (by simp only [W, eqq, ↓reduceIte, Nat.reduceEqDiff, Nat.reduceLT, Nat.reduceLeDiff, Nat.reduceAdd, Nat.reduceMul, Nat.reduceSub, Nat.reduceBEq, Int.reduceLE, Int.reduceLT, Int.reduceNeg, Int.reduceToNat, Int.reduceEq, Int.reduceBEq, Int.reduceBNe, Nat.reduceBNe, bne_self_eq_false, reduceCtorEq, gt_iff_lt, ge_iff_le]; rfl)) ?_
    exact AWP.ret (Fin @dN.eq_def [] [0, 1, 2, 3, 4])
  have hi : 0 ≤ i ∧ i < (s.length : Int) := by simpa using h1
  rw [h1] at hha
  by_cases h2 : b.length = 128
  case neg =>
    have h2b : ((b.length : Int) != 128) = true := by rw [bne_iff_ne]; omega
    rw [if_pos (by omega)]
    repeat refine St (And.intro (And.intro @gentry.eq_1 <| @gentry.eq_2) <| And.intro hha <| h2b) ct22 ?_
    refine AWP.weak (Weak.moveBx (v' := _) 0 3 [2] 2 _ rfl rfl rfl (by decide) (by simp only [W, eqq, ↓reduceIte, Nat.reduceEqDiff, Nat.reduceLT, Nat.reduceLeDiff, Nat.reduceAdd, Nat.reduceMul, Nat.reduceSub, Nat.reduceBEq, Int.reduceLE, Int.reduceLT, Int.reduceNeg, Int.reduceToNat, Int.reduceEq, Int.reduceBEq, Int.reduceBNe, Nat.reduceBNe, bne_self_eq_false, reduceCtorEq, gt_iff_lt, ge_iff_le]) (by simp only [W, eqq, ↓reduceIte, Nat.reduceEqDiff, Nat.reduceLT, Nat.reduceLeDiff, Nat.reduceAdd, Nat.reduceMul, Nat.reduceSub, Nat.reduceBEq, Int.reduceLE, Int.reduceLT, Int.reduceNeg, Int.reduceToNat, Int.reduceEq, Int.reduceBEq, Int.reduceBNe, Nat.reduceBNe, bne_self_eq_false, reduceCtorEq, gt_iff_lt, ge_iff_le]) (by simp only [W, eqq, ↓reduceIte, Nat.reduceEqDiff, Nat.reduceLT, Nat.reduceLeDiff, Nat.reduceAdd, Nat.reduceMul, Nat.reduceSub, Nat.reduceBEq, Int.reduceLE, Int.reduceLT, Int.reduceNeg, Int.reduceToNat, Int.reduceEq, Int.reduceBEq, Int.reduceBNe, Nat.reduceBNe, bne_self_eq_false, reduceCtorEq, gt_iff_lt, ge_iff_le]; rfl)) ?_
    exact AWP.ret (Fin @dN.eq_def [] [0, 1, 2, 3, 4])
  have h2b : ((b.length : Int) != 128) = false := by rw [bne_eq_false_iff_eq]; omega
  rw [if_neg (by omega)]
  simp only [spR] at hsp
  generalize rsp l off = sp at *
  obtain ⟨l', off', ok⟩ := sp
  dsimp only at hsp ⊢
  cases ok with
  | false =>
    simp only [if_true]
    repeat refine St (And.intro (And.intro @gentry.eq_1 <| @gentry.eq_2) <| And.intro hha <| And.intro h2b <| hsp) ct22 ?_
    refine AWP.weak (Weak.moveBx (v' := _) 0 3 [2] 2 _ rfl rfl rfl (by decide) (by simp only [W, eqq, ↓reduceIte, Nat.reduceEqDiff, Nat.reduceLT, Nat.reduceLeDiff, Nat.reduceAdd, Nat.reduceMul, Nat.reduceSub, Nat.reduceBEq, Int.reduceLE, Int.reduceLT, Int.reduceNeg, Int.reduceToNat, Int.reduceEq, Int.reduceBEq, Int.reduceBNe, Nat.reduceBNe, bne_self_eq_false, reduceCtorEq, gt_iff_lt, ge_iff_le]) (by simp only [W, eqq, ↓reduceIte, Nat.reduceEqDiff, Nat.reduceLT, Nat.reduceLeDiff, Nat.reduceAdd, Nat.reduceMul, Nat.reduceSub, Nat.reduceBEq, Int.reduceLE, Int.reduceLT, Int.reduceNeg, Int.reduceToNat, Int.reduceEq, Int.reduceBEq, Int.reduceBNe, Nat.reduceBNe, bne_self_eq_false, reduceCtorEq, gt_iff_lt, ge_iff_le]) (by simp only [W, eqq, ↓reduceIte, Nat.reduceEqDiff, Nat.reduceLT, Nat.reduceLeDiff, Nat.reduceAdd, Nat.reduceMul, Nat.reduceSub, Nat.reduceBEq, Int.reduceLE, Int.reduceLT, Int.reduceNeg, Int.reduceToNat, Int.reduceEq, Int.reduceBEq, Int.reduceBNe, Nat.reduceBNe, bne_self_eq_false, reduceCtorEq, gt_iff_lt, ge_iff_le]; rfl)) ?_
    exact AWP.ret (Fin @dN.eq_def [] [0, 1, 2, 3, 4])
  | true =>
    simp only [Bool.true_eq_false, if_false]
    have hb : b.take 128 = b := List.take_of_length_le (by omega)
    have hn : i.toNat < (layP s p).length := by omega
    have hnn : (i.toNat : Int) = i := by omega
    have hns : i.toNat < s.length := by omega
    have hml : ((layP s p).map (T.ba 128)).length = s.length := by rw [List.length_map]; exact hnl
    have hmp : (p.map pnd1).length ≤ 100000 := by rw [List.length_map]; omega
    have hsg := sect_get (layP s p) i.toNat hn
    have hls := layP_snoc s p (i, b)
    repeat refine St (And.intro (And.intro @gentry.eq_1 <| @gentry.eq_2) <| And.intro hha <| And.intro h2b <| And.intro hsp <| And.intro hb <| And.intro hn <| And.intro hml <| And.intro hmp <| And.intro hsg <| And.intro hnn <| And.intro hns <| h2) ct22 ?_
    exact AWP.ret (Fin (And.intro @dN.eq_def <| And.intro hls <| And.intro @List.map_set.{0, 0} <| And.intro @List.map_append.{0, 0} <| And.intro @List.map_cons.{0, 0} <| And.intro @List.map_nil.{0, 0} <| @pnd1.eq_def) [] [0, 1, 2, 3, 6])

theorem write_c (d : RD) (i : Int) (b : List UInt8) (h : d.good = true) (hp : d.p.length ≤ 99999) : G22 [.bx (.st [.own 1, .own 2, .own 3, .t (.int .i64 (d.l)), .t (.bool d.off)]), .sq 128 ((d.s).map (T.ba 128)), .sq 128 ((layP d.s d.p).map (T.ba 128)), .sq 129 ((d.p).map pnd1)] [.ptr 0 0 [], .t (.int .i64 i), .t (.by b)] = some (dN (putR d i b).1, .t (.int .i64 (putR d i b).2)) := by
  show G22 (dH d) _ = _
  simp only [G22, inv_of dH_inj]
  exact if_pos ⟨h, hp⟩

noncomputable def G57 : GFun
  | HB, [.ptr 0 0 [], .t (.int .i64 i)] => match inv dH HB with
    | some d => @ite _ ((d.good = true)) (Classical.propDecidable _) ((some (dH d, .tup [.t (.by (getD d i).1), .t (.int .i64 (getD d i).2)]))) none
    | none => none
  | _, _ => none

theorem ct57 : CT [(42, ⟨[true, false], G42⟩)] [0, 1, 4, 5, 6, 7, 12] [] := ⟨(.cons g42 (.nil _))⟩

set_option maxHeartbeats 2000000 in
theorem g57 : GCon Try.prog 57 G57 := by
  refine gconc E_ok (rs := [.tmp 4 27, .tmp 5 28]) Try.func57 rfl Try.ntmps57 (by kernel_rfl) rfl (by decide) G57 (np := 2) ?_ ?_
  · intro HB xs h; unfold G57; split <;> first | rfl | (simp at h; done)
  intro HB xs H r hG hwf hex
  unfold G57 at hG
  split at hG <;> try (cases hG; done)
  rename_i HB i
  split at hG <;> try (cases hG; done)
  rename_i d hd
  split at hG
  case isFalse => cases hG
  rename_i hg
  cases hG
  obtain rfl := inv_inv hd
  have hha := has_dc d i
  obtain ⟨hok, ho, hl1, hl2⟩ := good_iff.1 hg
  obtain ⟨hfit, hfs, hfp, hsl, _⟩ := RD.ok_iff.1 hok
  have hnl : (layP d.s d.p).length = d.s.length := layP_len d.p d.s
  have hnf : full128 (layP d.s d.p) = true := layP_full d.p d.s hfs hfp
  clear hd hex hwf hg hok
  obtain ⟨s, p, l, off⟩ := d
  dsimp only at hha ho hl1 hl2 hfit hfs hfp hsl hnl hnf
  simp only [dH, getD]
  simp only [dH] at hha
  by_cases h1 : (decide (0 ≤ i) && decide (i < (s.length : Int))) = true
  case neg =>
    have h1 : (decide (0 ≤ i) && decide (i < (s.length : Int))) = false := by simpa using h1
    rw [if_pos (by simp at h1; omega)]
    rw [h1] at hha
    repeat refine St (And.intro (And.intro @gentry.eq_1 <| @gentry.eq_2) <| hha) ct57 ?_
    exact AWP.ret (Fin trivial [] [0, 1, 2, 3])
  have hi : 0 ≤ i ∧ i < (s.length : Int) := by simpa using h1
  rw [h1] at hha
  rw [if_neg (by omega)]
  cases off with
  | true =>
    simp only [if_true]
    repeat refine St (And.intro (And.intro @gentry.eq_1 <| @gentry.eq_2) <| hha) ct57 ?_
    exact AWP.ret (Fin trivial [] [0, 1, 2, 3])
  | false =>
    simp only [Bool.false_eq_true, if_false]
    have hn : i.toNat < (layP s p).length := by omega
    have hsg := sect_get (layP s p) i.toNat hn
    have hml : ((layP s p).map (T.ba 128)).length = s.length := by rw [List.length_map]; exact hnl
    have hx := full128_get hnf hn
    have hns : i.toNat < s.length := by omega
    have hnn : (i.toNat : Int) = i := by omega
    generalize (layP s p).getD i.toNat [] = x at *
    have e1 : 0 + 128 ≤ x.length := by omega
    have e2 : x.take 128 = x := List.take_of_length_le (by omega)
    repeat refine St (And.intro (And.intro @gentry.eq_1 <| @gentry.eq_2) <| And.intro hha <| And.intro hn <| And.intro hml <| And.intro hsg <| And.intro hx <| And.intro e2 <| And.intro hns <| hnn) ct57 ?_
    exact AWP.ret (Fin (And.intro e1 <| And.intro e2 <| hx) [4] [0, 1, 2, 3])

theorem read_dc (d : RD) (i : Int) (h : d.good = true) : G57 [.bx (.st [.own 1, .own 2, .own 3, .t (.int .i64 (d.l)), .t (.bool d.off)]), .sq 128 ((d.s).map (T.ba 128)), .sq 128 ((layP d.s d.p).map (T.ba 128)), .sq 129 ((d.p).map pnd1)] [.ptr 0 0 [], .t (.int .i64 i)] = some (dH d, .tup [.t (.by (getD d i).1), .t (.int .i64 (getD d i).2)]) := by
  show G57 (dH d) _ = _
  simp only [G57, inv_of dH_inj]
  exact if_pos h

end Go.Fw

end

section
/- disk: all that is pending made safe; a crash. -/
namespace Go.Fw
open Go Go.Proofs
set_option linter.unusedVariables false
set_option linter.unusedSimpArgs false

noncomputable def G72 : GFun
  | HB, [.ptr 0 0 []] => match inv dH HB with
    | some d => @ite _ ((d.good = true)) (Classical.propDecidable _) ((some (dN (syncR d).1, .t (.int .i64 (syncR d).2)))) none
    | none => none
  | _, _ => none

theorem ct72 : CT [(43, ⟨[true], G43⟩)] [0, 2, 4, 6, 9, 13, 14, 15, 16] [(8, [⟨0, [0], [], []⟩, ⟨0, [19], [], []⟩, ⟨0, [20], [], []⟩, ⟨1, [21], [], []⟩, ⟨0, [4], [], []⟩, ⟨1, [23], [], []⟩, ⟨0, [4], [], []⟩, ⟨1, [25], [], []⟩, ⟨1, [22, 24], [3, 5, 7], []⟩, ⟨2, [26, 27], [3, 5, 7, 8], []⟩])] := ⟨(.cons g43 (.nil _))⟩

set_option maxHeartbeats 2000000 in
theorem g72 : GCon Try.prog 72 G72 := by
  refine gconc E_ok (rs := [.tmp 2 28]) Try.func72 rfl Try.ntmps72 (by kernel_rfl) rfl (by decide) G72 (np := 1) ?_ ?_
  · intro HB xs h; unfold G72; split <;> first | rfl | (simp at h; done)
  intro HB xs H r hG hwf hex
  unfold G72 at hG
  split at hG <;> try (cases hG; done)
  rename_i HB
  split at hG <;> try (cases hG; done)
  rename_i d hd
  split at hG
  case isFalse => cases hG
  rename_i hg
  cases hG
  obtain rfl := inv_inv hd
  have hsp := spend_c d hg
  obtain ⟨hok, ho, hl1, hl2⟩ := good_iff.1 hg
  have hnow := nowR_lay hok
  obtain ⟨hfit, hfs, hfp, hsl, hpl⟩ := RD.ok_iff.1 hok
  clear hd hex hwf hg hok
  obtain ⟨s, p, l, off⟩ := d
  dsimp only at hsp ho hl1 hl2 hfit hfs hfp hsl hpl hnow
  simp only [dH, syncR, hnow]
  simp only [dH, spR] at hsp
  generalize rsp l off = sp at *
  obtain ⟨l', off', ok⟩ := sp
  dsimp only at hsp ⊢
  cases ok with
  | false =>
    simp only [if_true]
    repeat refine St (And.intro (And.intro @gentry.eq_1 <| @gentry.eq_2) <| hsp) ct72 ?_
    refine AWP.weak (Weak.moveBx (v' := _) 0 3 [2] 2 _ rfl rfl rfl (by decide) (by simp only [W, eqq, ↓reduceIte, Nat.reduceEqDiff, Nat.reduceLT, Nat.reduceLeDiff, Nat.reduceAdd, Nat.reduceMul, Nat.reduceSub, Nat.reduceBEq, Int.reduceLE, Int.reduceLT, Int.reduceNeg, Int.reduceToNat, Int.reduceEq, Int.reduceBEq, Int.reduceBNe, Nat.reduceBNe, bne_self_eq_false, reduceCtorEq, gt_iff_lt, ge_iff_le]) (by simp only [W, eqq, ↓reduceIte, Nat.reduceEqDiff, Nat.reduceLT, Nat.reduceLeDiff, Nat.reduceAdd, Nat.reduceMul, Nat.reduceSub, Nat.reduceBEq, Int.reduceLE, Int.reduceLT, Int.reduceNeg, Int.reduceToNat, Int.reduceEq, Int.reduceBEq, Int.reduceBNe, Nat.reduceBNe, bne_self_eq_false, reduceCtorEq, gt_iff_lt, ge_iff_le]) (by simp only [W, eqq, ↓reduceIte, Nat.reduceEqDiff, Nat.reduceLT, Nat.reduceLeDiff, Nat.reduceAdd, Nat.reduceMul, Nat.reduceSub, Nat.reduceBEq, Int.reduceLE, Int.reduceLT, Int.reduceNeg, Int.reduceToNat, Int.reduceEq, Int.reduceBEq, Int.reduceBNe, Nat.reduceBNe, bne_self_eq_false, reduceCtorEq, gt_iff_lt, ge_iff_le]; rfl)) ?_
    exact AWP.ret (Fin @dN.eq_def [] [0, 1, 2, 3, 4])
  | true =>
    simp only [Bool.true_eq_false, if_false]
    have hmp : (p.map pnd1).length = p.length := List.length_map ..
    repeat refine St (And.intro (And.intro @gentry.eq_1 <| @gentry.eq_2) <| And.intro hsp <| hmp) ct72 ?_
    refine AWP.loop (G := { k : Nat // k ≤ p.length }) (fun k => ⟨[(0, .ptr 0 0 []), (13, .own 3), (14, .t (.int .i64 (p.length : Int))), (15, .t (.int .i64 (k.1 : Int)))], [.bx (.st [.own 1, .own 2, .own 3, .t (.int .i64 l'), .t (.bool off')]), .sq 128 ((layP s (p.take k.1)).map (T.ba 128)), .sq 128 ((layP s p).map (T.ba 128)), .sq 129 (p.map pnd1)]⟩) (fun k => p.length - k.1) ⟨0, by omega⟩ (Wt (And.intro @layP_nil <| @List.take_zero.{0}) [0, 13, 14, 15] [0, 1, 2, 3]) ?_
    intro ⟨k, hk⟩
    dsimp only
    by_cases hlt : (k : Int) < (p.length : Int)
    · have hkl : k < p.length := by omega
      obtain ⟨w, hw⟩ : ∃ w, p[k]? = some w := ⟨p[k], List.getElem?_eq_getElem hkl⟩
      obtain ⟨w1, w2⟩ := w
      have hget := pnd_get p k _ hw
      obtain ⟨f1, f2⟩ := fitP_get hfit hw
      dsimp only at f1 f2 hget
      have hlen : (layP s (p.take k)).length = s.length := layP_len _ _
      have hml : ((layP s (p.take k)).map (T.ba 128)).length = s.length := by rw [List.length_map]; exact hlen
      have hn : w1.toNat < s.length := by omega
      have hnn : (w1.toNat : Int) = w1 := by omega
      have hsg := sect_get (layP s (p.take k)) w1.toNat (by rw [hlen]; omega)
      have hw2 := full128P_get hfp hw
      dsimp only at hw2
      have hk1 : IntKind.i64.wrap ((k : Int) + 1) = ((k + 1 : Nat) : Int) := by rw [wrap_i64 (by omega) (by omega)]; omega
      have hstep : List.map (T.ba 128) (layP s (p.take (k + 1))) = (List.map (T.ba 128) (layP s (p.take k))).set w1.toNat (.ba 128 w2) := by
        rw [List.take_add_one, hw]
        simp only [Option.toList, layP_snoc, List.map_set]
      repeat refine St (And.intro hlt <| And.intro hkl <| And.intro hmp <| And.intro hget <| And.intro hml <| And.intro hn <| And.intro hnn <| And.intro hsg <| And.intro hw2 <| hk1) ct72 ?_
      exact ⟨⟨k + 1, by omega⟩, (Wt hstep [0, 13, 14, 15] [0, 1, 2, 3]), by simp only; omega⟩
    · obtain rfl : k = p.length := by omega
      rw [List.take_length]
      repeat refine St hlt ct72 ?_
      refine AWP.weak (Weak.ownBx (v' := _) 0 [2] 2 (.sq 129 []) rfl (by simp only [W, eqq, ↓reduceIte, Nat.reduceEqDiff, Nat.reduceLT, Nat.reduceLeDiff, Nat.reduceAdd, Nat.reduceMul, Nat.reduceSub, Nat.reduceBEq, Int.reduceLE, Int.reduceLT, Int.reduceNeg, Int.reduceToNat, Int.reduceEq, Int.reduceBEq, Int.reduceBNe, Nat.reduceBNe, bne_self_eq_false, reduceCtorEq, gt_iff_lt, ge_iff_le]) (by simp only [W, eqq, ↓reduceIte, Nat.reduceEqDiff, Nat.reduceLT, Nat.reduceLeDiff, Nat.reduceAdd, Nat.reduceMul, Nat.reduceSub, Nat.reduceBEq, Int.reduceLE, Int.reduceLT, Int.reduceNeg, Int.reduceToNat, Int.reduceEq, Int.reduceBEq, Int.reduceBNe, Nat.reduceBNe, bne_self_eq_false, reduceCtorEq, gt_iff_lt, ge_iff_le]) (by simp only [W, eqq, ↓reduceIte, Nat.reduceEqDiff, Nat.reduceLT, Nat.reduceLeDiff, Nat.reduceAdd, Nat.reduceMul, Nat.reduceSub, Nat.reduceBEq, Int.reduceLE, Int.reduceLT, Int.reduceNeg, Int.reduceToNat, Int.reduceEq, Int.reduceBEq, Int.reduceBNe, Nat.reduceBNe, bne_self_eq_false, reduceCtorEq, gt_iff_lt, ge_iff_le]; rfl) (.inr ⟨_, by decide, rfl⟩)) ?_
      refine AWP.weak (Weak.drop 3 _ rfl rfl) ?_
      exact AWP.ret (Fin (And.intro @dN.eq_def <| And.intro @layP_nil <| @List.map_nil.{0, 0}) [] [0, 1, 2, 3, 4])

theorem sync_c (d : RD) (h : d.good = true) : G72 [.bx (.st [.own 1, .own 2, .own 3, .t (.int .i64 (d.l)), .t (.bool d.off)]), .sq 128 ((d.s).map (T.ba 128)), .sq 128 ((layP d.s d.p).map (T.ba 128)), .sq 129 ((d.p).map pnd1)] [.ptr 0 0 []] = some (dN (syncR d).1, .t (.int .i64 (syncR d).2)) := by
  show G72 (dH d) _ = _
  simp only [G72, inv_of dH_inj]
  exact if_pos h

end Go.Fw

end

section
/- store: where things stand. -/
namespace Go.Fw
open Go Go.Proofs
set_option linter.unusedVariables false
set_option linter.unusedSimpArgs false

/-- A layout. -/
def layT (n : Nat) : T := .st [.int .i64 (n : Int), .int .i64 (lstN n : Int)]
theorem lstN_le (n : Nat) : lstN n ≤ n + 1 := by unfold lstN; omega

noncomputable def F65 : Fun
  | [.int .i64 n] => @ite _ ((0 ≤ n ∧ n ≤ 1000000)) (Classical.propDecidable _) ((some ([], .t (.int .i64 (lstN n.toNat : Int))))) none
  | _ => none

theorem ct65 : CT [] [0, 2] [] := ⟨GClOk.nil _⟩

theorem c65 : ACon Try.prog 65 F65 := by
  refine aconc E_ok (rs := [.tmp 2 3]) Try.func65 rfl Try.ntmps65 (by kernel_rfl) rfl (by decide) F65 (np := 1) ?_ ?_
  · intro ts h; unfold F65; split <;> first | rfl | (simp at h; done)
  intro ts H r hF hwf
  unfold F65 at hF
  split at hF <;> try (cases hF; done)
  rename_i n
  split at hF
  case isFalse => cases hF
  rename_i hc
  obtain ⟨h0, h1⟩ := hc
  cases hF
  obtain ⟨k, rfl⟩ : ∃ k : Nat, n = (k : Int) := ⟨n.toNat, by omega⟩
  have w1 : IntKind.i64.wrap ((k : Int) + 1) = ((k + 1 : Nat) : Int) := by rw [wrap_i64 (by omega) (by omega)]; omega
  have w2 : IntKind.i64.wrap (4 * ((k + 1 : Nat) : Int)) = ((4 * (k + 1) : Nat) : Int) := by rw [wrap_i64 (by omega) (by omega)]; omega
  have w3 : IntKind.i64.wrap (((4 * (k + 1) : Nat) : Int) + 128) = ((4 * (k + 1) + 128 : Nat) : Int) := by rw [wrap_i64 (by omega) (by omega)]; omega
  have w4 : IntKind.i64.wrap (((4 * (k + 1) + 128 : Nat) : Int) - 1) = ((4 * (k + 1) + 127 : Nat) : Int) := by rw [wrap_i64 (by omega) (by omega)]; omega
  have w5 : IntKind.i64.wrap (Int.tdiv ((4 * (k + 1) + 127 : Nat) : Int) 128) = (lstN k : Int) := by
    rw [Int.tdiv_eq_ediv_of_nonneg (by omega), wrap_i64 (by omega) (by omega)]
    unfold lstN; omega
  rw [Int.toNat_natCast]
  generalize lstN k = L at *
  repeat refine St (And.intro w1 <| And.intro w2 <| And.intro w3 <| And.intro w4 <| w5) ct65 ?_
  exact AWP.ret (Fin trivial [] [])

theorem lists_c {n : Nat} (h : n ≤ 1000000) : F65 [.int .i64 (n : Int)] = some ([], .t (.int .i64 (lstN n : Int))) := by
  simp only [F65]
  rw [if_pos ⟨by omega, by omega⟩, Int.toNat_natCast]

noncomputable def F32 : Fun
  | [.st [.int .i64 n, .int .i64 m], .int .i64 i] => @ite _ (((0 ≤ m ∧ m ≤ 1000000) ∧ 0 ≤ i ∧ i ≤ 1000000)) (Classical.propDecidable _) ((some ([], .t (.int .i64 (1 + m + i))))) none
  | _ => none

theorem ct32 : CT [] [0, 1, 2, 4] [] := ⟨GClOk.nil _⟩

theorem c32 : ACon Try.prog 32 F32 := by
  refine aconc E_ok (rs := [.tmp 4 3]) Try.func32 rfl Try.ntmps32 (by kernel_rfl) rfl (by decide) F32 (np := 2) ?_ ?_
  · intro ts h; unfold F32; split <;> first | rfl | (simp at h; done)
  intro ts H r hF hwf
  unfold F32 at hF
  split at hF <;> try (cases hF; done)
  rename_i n m i
  split at hF
  case isFalse => cases hF
  rename_i hc
  obtain ⟨h0, h1⟩ := hc
  cases hF
  have w1 : IntKind.i64.wrap (1 + m) = 1 + m := wrap_i64 (by omega) (by omega)
  have w2 : IntKind.i64.wrap (1 + m + i) = 1 + m + i := wrap_i64 (by omega) (by omega)
  repeat refine St (And.intro w1 <| w2) ct32 ?_
  exact AWP.ret (Fin (And.intro w1 <| w2) [] [])

theorem slot_c {n m i : Nat} (h : m ≤ 1000000) (hi : i ≤ 1000000) : F32 [.st [.int .i64 (n : Int), .int .i64 (m : Int)], .int .i64 (i : Int)] = some ([], .t (.int .i64 ((1 + m + i : Nat) : Int))) := by
  simp only [F32]
  rw [if_pos ⟨⟨by omega, by omega⟩, by omega, by omega⟩, show (1 + (m : Int) + (i : Int)) = ((1 + m + i : Nat) : Int) by omega]

noncomputable def F62 : Fun
  | [.st [.int .i64 n, .int .i64 m], .int .i64 i] => @ite _ (((0 ≤ m ∧ m ≤ 1000000) ∧ (0 ≤ i ∧ i ≤ 1000000) ∧ 0 ≤ n ∧ n ≤ 1000000)) (Classical.propDecidable _) ((some ([], .t (.int .i64 (1 + m + n + i))))) none
  | _ => none

theorem ct62 : CT [(32, ⟨[false, false], treeG F32⟩)] [0, 1, 2, 4] [] := ⟨(.cons c32.g (.nil _))⟩

theorem c62 : ACon Try.prog 62 F62 := by
  refine aconc E_ok (rs := [.tmp 4 3]) Try.func62 rfl Try.ntmps62 (by kernel_rfl) rfl (by decide) F62 (np := 2) ?_ ?_
  · intro ts h; unfold F62; split <;> first | rfl | (simp at h; done)
  intro ts H r hF hwf
  unfold F62 at hF
  split at hF <;> try (cases hF; done)
  rename_i n m i
  split at hF
  case isFalse => cases hF
  rename_i hc
  obtain ⟨h0, h1, h2⟩ := hc
  cases hF
  have hs : F32 [.st [.int .i64 n, .int .i64 m], .int .i64 n] = some ([], .t (.int .i64 (1 + m + n))) := if_pos ⟨h0, h2⟩
  have w2 : IntKind.i64.wrap (1 + m + n + i) = 1 + m + n + i := wrap_i64 (by omega) (by omega)
  repeat refine St (And.intro hs <| w2) ct62 ?_
  exact AWP.ret (Fin w2 [] [])

theorem back_c {n m i : Nat} (h : m ≤ 1000000) (hi : i ≤ 1000000) (hn : n ≤ 1000000) : F62 [.st [.int .i64 (n : Int), .int .i64 (m : Int)], .int .i64 (i : Int)] = some ([], .t (.int .i64 ((1 + m + n + i : Nat) : Int))) := by
  simp only [F62]
  rw [if_pos ⟨⟨by omega, by omega⟩, ⟨by omega, by omega⟩, by omega, by omega⟩, show (1 + (m : Int) + (n : Int) + (i : Int)) = ((1 + m + n + i : Nat) : Int) by omega]

noncomputable def F30 : Fun
  | [.st [.int .i64 n, .int .i64 m]] => @ite _ ((0 ≤ n ∧ n ≤ 1000000)) (Classical.propDecidable _) ((some ([], .t (.int .i64 (n * 128 - 4))))) none
  | _ => none

theorem ct30 : CT [] [0, 1, 2] [] := ⟨GClOk.nil _⟩

theorem c30 : ACon Try.prog 30 F30 := by
  refine aconc E_ok (rs := [.tmp 2 3]) Try.func30 rfl Try.ntmps30 (by kernel_rfl) rfl (by decide) F30 (np := 1) ?_ ?_
  · intro ts h; unfold F30; split <;> first | rfl | (simp at h; done)
  intro ts H r hF hwf
  unfold F30 at hF
  split at hF <;> try (cases hF; done)
  rename_i n m
  split at hF
  case isFalse => cases hF
  rename_i hc
  obtain ⟨h0, h1⟩ := hc
  cases hF
  have w1 : IntKind.i64.wrap (n * 128) = n * 128 := wrap_i64 (by omega) (by omega)
  have w2 : IntKind.i64.wrap (n * 128 - 4) = n * 128 - 4 := wrap_i64 (by omega) (by omega)
  repeat refine St (And.intro w1 <| w2) ct30 ?_
  exact AWP.ret (Fin (And.intro w1 <| w2) [] [])

theorem room_c {n : Nat} {m : Int} (h : n ≤ 1000000) : F30 [.st [.int .i64 (n : Int), .int .i64 m]] = some ([], .t (.int .i64 (roomN n))) := if_pos ⟨by omega, by omega⟩

end Go.Fw

end

section
/- store: sectors written, up to the first error. -/
namespace Go.Fw
open Go Go.Proofs
set_option linter.unusedVariables false
set_option linter.unusedSimpArgs false

/-- A tape's blocks. -/
def tpH (t : TP) : List Blk := [.bx (.st [.ptr 1 0 [], .t (.int .i64 t.e)]), .bx (.st [.own 2, .own 3, .own 4, .t (.int .i64 t.d.l), .t (.bool t.d.off)]), .sq 128 (t.d.s.map (T.ba 128)), .sq 128 ((layP t.d.s t.d.p).map (T.ba 128)), .sq 129 (t.d.p.map pnd1)]
def tpN (t : TP) : List Blk := [.bx (.st [.ptr 1 0 [], .t (.int .i64 t.e)]), .bx (.st [.own 2, .own 3, .own 5, .t (.int .i64 t.d.l), .t (.bool t.d.off)]), .sq 128 (t.d.s.map (T.ba 128)), .sq 128 ((layP t.d.s t.d.p).map (T.ba 128)), .no, .sq 129 (t.d.p.map pnd1)]
theorem tpH_inj (a b : TP) (h : tpH a = tpH b) : a = b := by
  obtain ⟨⟨s, p, l, o⟩, e⟩ := a
  obtain ⟨⟨s', p', l', o'⟩, e'⟩ := b
  unfold tpH at h
  simp only [List.cons.injEq, Blk.bx.injEq, AV.st.injEq, AV.t.injEq, T.int.injEq, T.bool.injEq, Blk.sq.injEq, true_and, and_true] at h
  obtain ⟨h0, ⟨h1, h2⟩, h3, _, h4⟩ := h
  rw [h0, h1, h2, sect_inj h3, pnd_inj h4]

noncomputable def G61 : GFun
  | HB, [.ptr 0 0 [], .t (.int .i64 i), .t (.by b)] => match inv tpH HB with
    | some t => @ite _ ((t.d.good = true ∧ t.d.p.length ≤ 99999 ∧ b.length ≤ 128)) (Classical.propDecidable _) ((some (tpN (putT t i b), .tup []))) none
    | none => none
  | _, _ => none

theorem ct61 : CT [(22, ⟨[true, false, false], G22⟩)] [0, 1, 2, 6, 11] [] := ⟨(.cons g22 (.nil _))⟩

theorem pad_copy {b : List UInt8} (h : b.length ≤ 128) : b.take (Nat.min b.length 128) ++ (zby 128).drop (Nat.min b.length 128) = padS b := by
  have e : Nat.min b.length 128 = b.length := Nat.min_eq_left h
  rw [e, List.take_length]
  unfold padS zby
  rw [List.drop_replicate]

set_option maxHeartbeats 2000000 in
theorem g61 : GCon Try.prog 61 G61 := by
  refine gconc E_ok (rs := []) Try.func61 rfl Try.ntmps61 (by kernel_rfl) rfl (by decide) G61 (np := 3) ?_ ?_
  · intro HB xs h; unfold G61; split <;> first | rfl | (simp at h; done)
  intro HB xs H r hG hwf hex
  unfold G61 at hG
  split at hG <;> try (cases hG; done)
  rename_i HB i b
  split at hG <;> try (cases hG; done)
  rename_i t ht
  split at hG
  case isFalse => cases hG
  rename_i hc
  cases hG
  obtain rfl := inv_inv ht
  obtain ⟨hg, hp, hb⟩ := hc
  clear ht hex hwf
  obtain ⟨d, e⟩ := t
  dsimp only at hg hp
  simp only [tpH, putT]
  by_cases he : e = 0
  · subst he
    simp only [if_true]
    have hcp : b.take (Nat.min b.length 128) ++ List.drop (Nat.min b.length 128) [0, 0, 0, 0, 0, 0, 0, 0, 0, 0, 0, 0, 0, 0, 0, 0, 0, 0, 0, 0, 0, 0, 0, 0, 0, 0, 0, 0, 0, 0, 0, 0, 0, 0, 0, 0, 0, 0, 0, 0, 0, 0, 0, 0, 0, 0, 0, 0, 0, 0, 0, 0, 0, 0, 0, 0, 0, 0, 0, 0, 0, 0, 0, 0, 0, 0, 0, 0, 0, 0, 0, 0, 0, 0, 0, 0, 0, 0, 0, 0, 0, 0, 0, 0, 0, 0, 0, 0, 0, 0, 0, 0, 0, 0, 0, 0, 0, 0, 0, 0, 0, 0, 0, 0, 0, 0, 0, 0, 0, 0, 0, 0, 0, 0, 0, 0, 0, 0, 0, 0, 0, 0, 0, 0, 0, 0, 0, 0] = padS b := pad_copy hb
    have hpl := padS_len hb
    have h1 := write_c d i (padS b) hg hp
    generalize putR d i (padS b) = R at *
    generalize padS b = x at *
    obtain ⟨d', e'⟩ := R
    dsimp only at h1 ⊢
    repeat refine St (And.intro (And.intro @gentry.eq_1 <| @gentry.eq_2) <| And.intro hcp <| And.intro hpl <| And.intro h1 <| And.intro @dN.eq_def <| And.intro hb <| And.intro @cleanL_sect <| @cleanL_pnd) ct61 ?_
    exact Fin @tpN.eq_def [] [0, 1, 2, 3, 4, 6]
  · have he2 : (e == 0) = false := by simpa using he
    rw [if_neg he]
    refine AWP.weak (Weak.moveBx (v' := _) 1 4 [2] 2 _ rfl rfl rfl (by decide) (by simp only [W, eqq, ↓reduceIte, Nat.reduceEqDiff, Nat.reduceLT, Nat.reduceLeDiff, Nat.reduceAdd, Nat.reduceMul, Nat.reduceSub, Nat.reduceBEq, Int.reduceLE, Int.reduceLT, Int.reduceNeg, Int.reduceToNat, Int.reduceEq, Int.reduceBEq, Int.reduceBNe, Nat.reduceBNe, bne_self_eq_false, reduceCtorEq, gt_iff_lt, ge_iff_le]) (by simp only [W, eqq, ↓reduceIte, Nat.reduceEqDiff, Nat.reduceLT, Nat.reduceLeDiff, Nat.reduceAdd, Nat.reduceMul, Nat.reduceSub, Nat.reduceBEq, Int.reduceLE, Int.reduceLT, Int.reduceNeg, Int.reduceToNat, Int.reduceEq, Int.reduceBEq, Int.reduceBNe, Nat.reduceBNe, bne_self_eq_false, reduceCtorEq, gt_iff_lt, ge_iff_le]) (by simp only [W, eqq, ↓reduceIte, Nat.reduceEqDiff, Nat.reduceLT, Nat.reduceLeDiff, Nat.reduceAdd, Nat.reduceMul, Nat.reduceSub, Nat.reduceBEq, Int.reduceLE, Int.reduceLT, Int.reduceNeg, Int.reduceToNat, Int.reduceEq, Int.reduceBEq, Int.reduceBNe, Nat.reduceBNe, bne_self_eq_false, reduceCtorEq, gt_iff_lt, ge_iff_le]; rfl)) ?_
    repeat refine St (And.intro (And.intro @gentry.eq_1 <| @gentry.eq_2) <| he2) ct61 ?_
    exact Fin @tpN.eq_def [] [0, 1, 2, 3, 4, 5]

theorem put_tc (t : TP) (i : Int) (b : List UInt8) (hg : t.d.good = true) (hp : t.d.p.length ≤ 99999) (hb : b.length ≤ 128) : G61 [.bx (.st [.ptr 1 0 [], .t (.int .i64 (t.e))]), .bx (.st [.own 2, .own 3, .own 4, .t (.int .i64 (t.d.l)), .t (.bool t.d.off)]), .sq 128 ((t.d.s).map (T.ba 128)), .sq 128 ((layP t.d.s t.d.p).map (T.ba 128)), .sq 129 ((t.d.p).map pnd1)] [.ptr 0 0 [], .t (.int .i64 i), .t (.by b)] = some (tpN (putT t i b), .tup []) := by
  show G61 (tpH t) _ = _
  simp only [G61, inv_of tpH_inj]
  exact if_pos ⟨hg, hp, hb⟩

noncomputable def G63 : GFun
  | HB, [.ptr 0 0 []] => match inv tpH HB with
    | some t => @ite _ ((t.d.good = true)) (Classical.propDecidable _) ((some (tpN (syncT t), .tup []))) none
    | none => none
  | _, _ => none

theorem ct63 : CT [(72, ⟨[true], G72⟩)] [0, 6] [] := ⟨(.cons g72 (.nil _))⟩

set_option maxHeartbeats 2000000 in
theorem g63 : GCon Try.prog 63 G63 := by
  refine gconc E_ok (rs := []) Try.func63 rfl Try.ntmps63 (by kernel_rfl) rfl (by decide) G63 (np := 1) ?_ ?_
  · intro HB xs h; unfold G63; split <;> first | rfl | (simp at h; done)
  intro HB xs H r hG hwf hex
  unfold G63 at hG
  split at hG <;> try (cases hG; done)
  rename_i HB
  split at hG <;> try (cases hG; done)
  rename_i t ht
  split at hG
  case isFalse => cases hG
  rename_i hg
  cases hG
  obtain rfl := inv_inv ht
  clear ht hex hwf
  obtain ⟨d, e⟩ := t
  dsimp only at hg
  simp only [tpH, syncT]
  by_cases he : e = 0
  · subst he
    simp only [if_true]
    have h1 := sync_c d hg
    generalize syncR d = R at *
    obtain ⟨d', e'⟩ := R
    dsimp only at h1 ⊢
    repeat refine St (And.intro (And.intro @gentry.eq_1 <| @gentry.eq_2) <| And.intro h1 <| @dN.eq_def) ct63 ?_
    exact Fin @tpN.eq_def [] [0, 1, 2, 3, 4, 5]
  · have he2 : (e == 0) = false := by simpa using he
    rw [if_neg he]
    refine AWP.weak (Weak.moveBx (v' := _) 1 4 [2] 2 _ rfl rfl rfl (by decide) (by simp only [W, eqq, ↓reduceIte, Nat.reduceEqDiff, Nat.reduceLT, Nat.reduceLeDiff, Nat.reduceAdd, Nat.reduceMul, Nat.reduceSub, Nat.reduceBEq, Int.reduceLE, Int.reduceLT, Int.reduceNeg, Int.reduceToNat, Int.reduceEq, Int.reduceBEq, Int.reduceBNe, Nat.reduceBNe, bne_self_eq_false, reduceCtorEq, gt_iff_lt, ge_iff_le]) (by simp only [W, eqq, ↓reduceIte, Nat.reduceEqDiff, Nat.reduceLT, Nat.reduceLeDiff, Nat.reduceAdd, Nat.reduceMul, Nat.reduceSub, Nat.reduceBEq, Int.reduceLE, Int.reduceLT, Int.reduceNeg, Int.reduceToNat, Int.reduceEq, Int.reduceBEq, Int.reduceBNe, Nat.reduceBNe, bne_self_eq_false, reduceCtorEq, gt_iff_lt, ge_iff_le]) (by simp only [W, eqq, ↓reduceIte, Nat.reduceEqDiff, Nat.reduceLT, Nat.reduceLeDiff, Nat.reduceAdd, Nat.reduceMul, Nat.reduceSub, Nat.reduceBEq, Int.reduceLE, Int.reduceLT, Int.reduceNeg, Int.reduceToNat, Int.reduceEq, Int.reduceBEq, Int.reduceBNe, Nat.reduceBNe, bne_self_eq_false, reduceCtorEq, gt_iff_lt, ge_iff_le]; rfl)) ?_
    repeat refine St (And.intro (And.intro @gentry.eq_1 <| @gentry.eq_2) <| he2) ct63 ?_
    exact Fin @tpN.eq_def [] [0, 1, 2, 3, 4, 5]

theorem sync_tc (t : TP) (hg : t.d.good = true) : G63 [.bx (.st [.ptr 1 0 [], .t (.int .i64 (t.e))]), .bx (.st [.own 2, .own 3, .own 4, .t (.int .i64 (t.d.l)), .t (.bool t.d.off)]), .sq 128 ((t.d.s).map (T.ba 128)), .sq 128 ((layP t.d.s t.d.p).map (T.ba 128)), .sq 129 ((t.d.p).map pnd1)] [.ptr 0 0 []] = some (tpN (syncT t), .tup []) := by
  show G63 (tpH t) _ = _
  simp only [G63, inv_of tpH_inj]
  exact if_pos hg

noncomputable def G64 : GFun
  | HB, [.ptr 0 0 [], .t (.int .u8 c)] => match inv tpH HB with
    | some t => @ite _ ((t.d.good = true ∧ t.d.p.length ≤ 99998)) (Classical.propDecidable _) ((some (tpN (flagT t (UInt8.ofNat c.toNat)), .tup []))) none
    | none => none
  | _, _ => none

theorem ct64 : CT [(61, ⟨[true, false, false], G61⟩), (63, ⟨[true], G63⟩)] [0, 1] [] := ⟨(.cons g61 (.cons g63 (.nil _)))⟩

set_option maxHeartbeats 2000000 in
theorem g64 : GCon Try.prog 64 G64 := by
  refine gconc E_ok (rs := []) Try.func64 rfl Try.ntmps64 (by kernel_rfl) rfl (by decide) G64 (np := 2) ?_ ?_
  · intro HB xs h; unfold G64; split <;> first | rfl | (simp at h; done)
  intro HB xs H r hG hwf hex
  unfold G64 at hG
  split at hG <;> try (cases hG; done)
  rename_i HB c
  split at hG <;> try (cases hG; done)
  rename_i t ht
  split at hG
  case isFalse => cases hG
  rename_i hc
  cases hG
  obtain rfl := inv_inv ht
  obtain ⟨hg, hp⟩ := hc
  clear ht hex hwf
  have h1 := put_tc t 0 [UInt8.ofNat c.toNat] hg (by omega) (by simp)
  have hf := putT_few (t := t) (i := 0) (b := [UInt8.ofNat c.toNat]) ⟨hg, rfl, hp⟩ (by omega)
  simp only [flagT]
  generalize putT t 0 [UInt8.ofNat c.toNat] = t1 at *
  have h2 := sync_tc t1 hf.g
  generalize syncT t1 = t2 at *
  simp only [tpH]
  repeat refine St (And.intro (And.intro @gentry.eq_1 <| @gentry.eq_2) <| And.intro h1 <| And.intro h2 <| And.intro @tpN.eq_def <| And.intro @cleanL_sect <| @cleanL_pnd) ct64 ?_
  exact Fin @tpN.eq_def [] [0, 1, 2, 3, 4, 7]

theorem flag_tc (t : TP) (c : Int) (hg : t.d.good = true) (hp : t.d.p.length ≤ 99998) : G64 [.bx (.st [.ptr 1 0 [], .t (.int .i64 (t.e))]), .bx (.st [.own 2, .own 3, .own 4, .t (.int .i64 (t.d.l)), .t (.bool t.d.off)]), .sq 128 ((t.d.s).map (T.ba 128)), .sq 128 ((layP t.d.s t.d.p).map (T.ba 128)), .sq 129 ((t.d.p).map pnd1)] [.ptr 0 0 [], .t (.int .u8 c)] = some (tpN (flagT t (UInt8.ofNat c.toNat)), .tup []) := by
  show G64 (tpH t) _ = _
  simp only [G64, inv_of tpH_inj]
  exact if_pos ⟨hg, hp⟩

end Go.Fw

end

section
/- compact: bytes laid. -/
namespace Go.Fw
open Go Go.Proofs
set_option linter.unusedVariables false
set_option linter.unusedSimpArgs false

def F74 : Fun
  | [.by b] => if b.length ≤ 549755813888 then some ([.by b], .own 0) else none
  | _ => none

theorem ct74 : CT [] [0, 2] [] := ⟨GClOk.nil _⟩

theorem c74 : ACon Try.prog 74 F74 := by
  refine aconc E_ok (rs := [.tmp 2 27]) Try.func74 rfl Try.ntmps74 (by kernel_rfl) rfl (by decide) F74 (np := 1) ?_ ?_
  · intro ts h; unfold F74; split <;> first | rfl | (simp at h; done)
  intro ts H r hF hwf
  unfold F74 at hF
  split at hF <;> try (cases hF; done)
  rename_i b
  split at hF
  case isFalse => cases hF
  rename_i hc
  have hb := hc
  cases hF
  repeat refine St trivial ct74 ?_
  exact AWP.ret (Fin trivial [] [0])

def F71 : Fun
  | [.by b, .int .u32 n, .int .i64 m] => if b.length ≤ 549755813000 ∧ 0 ≤ m ∧ m ≤ 16 then some ([.by (b ++ le m.toNat n)], .own 0) else none
  | _ => none

theorem ct71 : CT [] [0, 1, 2, 6, 7, 8, 21, 22, 23] [] := ⟨GClOk.nil _⟩

theorem c71 : ACon Try.prog 71 F71 := by
  refine aconc E_ok (rs := [.tmp 6 27]) Try.func71 rfl Try.ntmps71 (by kernel_rfl) rfl (by decide) F71 (np := 3) ?_ ?_
  · intro ts h; unfold F71; split <;> first | rfl | (simp at h; done)
  intro ts H r hF hwf
  unfold F71 at hF
  split at hF <;> try (cases hF; done)
  rename_i b n m
  split at hF
  case isFalse => cases hF
  rename_i hc
  obtain ⟨hb, h0, h1⟩ := hc
  cases hF
  have hn := inK_u32 (hwf (.int .u32 n) (by simp))
  repeat refine St trivial ct71 ?_
  refine AWP.loop (G := { k : Nat // k ≤ m.toNat }) (fun k => ⟨[(7, .own 0), (8, .t (.int .u64 (shrB k.1 n))), (21, .t (.int .i64 m)), (22, .t (.int .i64 (k.1 : Int)))], [.by (b ++ le k.1 n)]⟩)
    (fun k => m.toNat - k.1) ⟨0, by omega⟩ (Wt (And.intro (And.intro @shrB.eq_1 <| @shrB.eq_2) <| (And.intro @le.eq_1 <| @le.eq_2)) [7, 8, 21, 22] [0]) ?_
  intro ⟨k, hk⟩
  dsimp only
  by_cases hlt : (k : Int) < m
  · have hl : (b ++ le k n).length ≤ 549755813100 := by simp [le_len]; omega
    have hr := shrB_range k n (by omega) (by omega)
    repeat refine St (And.intro @shr8 <| @le_len) ct71 ?_
    exact ⟨⟨k + 1, by omega⟩, (Wt (And.intro (And.intro @shrB.eq_1 <| @shrB.eq_2) <| And.intro (And.intro @le.eq_1 <| @le.eq_2) <| @List.append_assoc.{0}) [7, 8, 21, 22] [2]), by simp only; omega⟩
  · obtain rfl : k = m.toNat := by omega
    repeat refine St trivial ct71 ?_
    exact AWP.ret (Fin trivial [] [0])

def F60 : Fun
  | [.by b, .int .u32 n] => if b.length ≤ 549755812000 then some ([.by (b ++ le 4 n)], .own 0) else none
  | _ => none

theorem ct60 : CT [(71, ⟨[false, false, false], treeG F71⟩)] [0, 1, 4] [] := ⟨(.cons c71.g (.nil _))⟩

theorem c60 : ACon Try.prog 60 F60 := by
  refine aconc E_ok (rs := [.tmp 4 27]) Try.func60 rfl Try.ntmps60 (by kernel_rfl) rfl (by decide) F60 (np := 2) ?_ ?_
  · intro ts h; unfold F60; split <;> first | rfl | (simp at h; done)
  intro ts H r hF hwf
  unfold F60 at hF
  split at hF <;> try (cases hF; done)
  rename_i b n
  split at hF
  case isFalse => cases hF
  rename_i hc
  have hb := hc
  cases hF
  have h : F71 [.by b, .int .u32 n, .int .i64 4] = some ([.by (b ++ le 4 n)], .own 0) := if_pos (by omega)
  repeat refine St h ct60 ?_
  exact AWP.ret (Fin trivial [] [0])

theorem put32_c {b : List UInt8} (n : Int) (h : b.length ≤ 549755812000) : F60 [.by b, .int .u32 n] = some ([.by (b ++ le 4 n)], .own 0) := if_pos h
end Go.Fw

end

section
/- compact: bytes taken apart. -/
namespace Go.Fw
open Go Go.Proofs
set_option linter.unusedVariables false
set_option linter.unusedSimpArgs false

def F76 : Fun
  | [.by b, .int .i64 n] => some ([], .tup [.t (.by (spA b n)), .t (.by (spB b n)), .t (.int .i64 (spE b n))])
  | _ => none

theorem ct76 : CT [] [0, 1, 4, 5, 6, 7, 10] [(5, [⟨0, [0], [], []⟩, ⟨0, [1], [], []⟩, ⟨1, [15, 16], [], []⟩, ⟨0, [0], [], []⟩, ⟨0, [1], [], []⟩, ⟨1, [18, 19], [], []⟩, ⟨0, [17], [2], []⟩, ⟨0, [20], [2, 5], []⟩, ⟨0, [], [2, 5], []⟩])] := ⟨GClOk.nil _⟩

theorem c76 : ACon Try.prog 76 F76 := by
  refine aconc E_ok (rs := [.tmp 4 27, .tmp 5 27, .tmp 6 28]) Try.func76 rfl Try.ntmps76 (by kernel_rfl) rfl (by decide) F76 (np := 2) ?_ ?_
  · intro ts h; unfold F76; split <;> first | rfl | (simp at h; done)
  intro ts H r hF hwf
  unfold F76 at hF
  split at hF <;> try (cases hF; done)
  rename_i b n
  cases hF
  by_cases h1 : n < 0
  · repeat refine St trivial ct76 ?_
    exact AWP.ret (Fin (And.intro @spA.eq_def <| And.intro @spB.eq_def <| And.intro @spE.eq_def <| h1) [] [])
  by_cases h2 : (b.length : Int) < n
  · repeat refine St trivial ct76 ?_
    exact AWP.ret (Fin (And.intro @spA.eq_def <| And.intro @spB.eq_def <| And.intro @spE.eq_def <| And.intro h1 <| h2) [] [])
  repeat refine St trivial ct76 ?_
  exact AWP.ret (Fin (And.intro @spA.eq_def <| And.intro @spB.eq_def <| And.intro @spE.eq_def <| And.intro h1 <| h2) [] [])

def F73 : Fun
  | [.by b, .int .i64 n] => if n ≤ 8 then some ([], .tup [.t (.int .u64 (num (spA b n))), .t (.by (spB b n)), .t (.int .i64 (spE b n))]) else none
  | _ => none

theorem ct73 : CT [(76, ⟨[false, false], treeG F76⟩)] [0, 1, 4, 5, 6, 7, 8, 9, 10, 11, 20, 21, 22] [] := ⟨(.cons c76.g (.nil _))⟩

theorem c73 : ACon Try.prog 73 F73 := by
  refine aconc E_ok (rs := [.tmp 4 100, .tmp 5 27, .tmp 6 28]) Try.func73 rfl Try.ntmps73 (by kernel_rfl) rfl (by decide) F73 (np := 2) ?_ ?_
  · intro ts h; unfold F73; split <;> first | rfl | (simp at h; done)
  intro ts H r hF hwf
  unfold F73 at hF
  split at hF <;> try (cases hF; done)
  rename_i b n
  split at hF
  case isFalse => cases hF
  rename_i hc
  have hn := hc
  cases hF
  have h8 := spA_le b n 8 hn
  generalize hx : spA b n = x at h8
  repeat refine St (And.intro @F76.eq_def <| hx) ct73 ?_
  have hz : num (x.take 0) = 0 := by simp [num]
  refine AWP.loop (G := { k : Nat // k ≤ x.length }) (fun k => ⟨[(7, .t (.by x)), (8, .t (.by (spB b n))), (9, .t (.int .i64 (spE b n))), (10, .t (.int .u64 (num (x.take k.1)))), (20, .t (.int .i64 (x.length : Int))), (21, .t (.int .i64 (k.1 : Int)))], []⟩)
    (fun k => x.length - k.1) ⟨0, by omega⟩ (Wt (And.intro hz <| (And.intro @num.eq_1 <| @num.eq_2)) [7, 8, 9, 10, 20, 21] []) ?_
  intro ⟨k, hk⟩
  dsimp only
  by_cases hlt : (k : Int) < (x.length : Int)
  · have hd := num_take x k (by omega)
    have h88 := num_lt8 (x.take (k + 1)) (by simp; omega)
    have hp := num_lt (x.take k)
    have htl : (x.take k).length = k := by simp; omega
    rw [htl] at hp
    have hc := (x.getD k 0).toNat_lt
    have e1 : IntKind.i64.wrap (8 * (k : Int)) = ((8 * k : Nat) : Int) := by rw [wrap_i64 (by omega) (by omega)]; omega
    have e2 : IntKind.u64.wrap (((x.getD k 0).toNat : Int) * 2 ^ min (8 * k) IntKind.u64.bits) = (((x.getD k 0).toNat * 256 ^ k : Nat) : Int) := by
      have := shl_step (x.getD k 0).toNat k (by omega) (by omega)
      simp only [arith, Int.toNat_natCast] at this
      rw [if_neg (by omega)] at this
      have h1 : min (8 * k) IntKind.u64.bits = min (8 * k) 64 := rfl
      simpa using this
    have e3 : abits .or .u64 (num (x.take k) : Int) (((x.getD k 0).toNat * 256 ^ k : Nat) : Int) = ((num (x.take (k + 1)) : Nat) : Int) := by
      have := or_step (num (x.take k)) (x.getD k 0).toNat k hp (by omega)
      rw [← hd] at this
      simpa only [arith, Option.some.injEq, T.int.injEq, true_and] using this
    have e0 : ¬ ((8 * k : Nat) : Int) < 0 := by omega
    have hkx : k < x.length := by omega
    have e4 : IntKind.u64.wrap ((x.getD k 0).toNat : Int) = ((x.getD k 0).toNat : Int) := wrap_u64 (by omega) (by omega)
    repeat refine St (And.intro hkx <| And.intro e0 <| And.intro e1 <| And.intro e2 <| And.intro e3 <| e4) ct73 ?_
    exact ⟨⟨k + 1, by omega⟩, (Wt trivial [7, 8, 9, 10, 20, 21] []), by simp only; omega⟩
  · obtain rfl : k = x.length := by omega
    repeat refine St trivial ct73 ?_
    exact AWP.ret (Fin (@List.take_length.{0}) [] [])

theorem read_c (l : List UInt8) (n : Int) (h : n ≤ 8) : F73 [.by l, .int .i64 n] = some ([], .tup [.t (.int .u64 (num (spA l n))), .t (.by (spB l n)), .t (.int .i64 (spE l n))]) := if_pos h

def F67 : Fun
  | [.by b] => if b.length ≤ 549755813000 then some ([], .tup [.t (.int .u32 (num (spA b 4))), .t (.by (spB b 4)), .t (.int .i64 (spE b 4))]) else none
  | _ => none

theorem ct67 : CT [(73, ⟨[false, false], treeG F73⟩), (74, ⟨[false], treeG F74⟩)] [0, 2, 3, 4, 5, 6, 7] [] := ⟨(.cons c73.g (.cons c74.g (.nil _)))⟩

theorem c67 : ACon Try.prog 67 F67 := by
  refine aconc E_ok (rs := [.tmp 2 108, .tmp 3 27, .tmp 4 28]) Try.func67 rfl Try.ntmps67 (by kernel_rfl) rfl (by decide) F67 (np := 1) ?_ ?_
  · intro ts h; unfold F67; split <;> first | rfl | (simp at h; done)
  intro ts H r hF hwf
  unfold F67 at hF
  split at hF <;> try (cases hF; done)
  rename_i b
  split at hF
  case isFalse => cases hF
  rename_i hc
  have hb := hc
  cases hF
  have hl := spB_len b 4
  have h4 := num_lt4 (spA b 4) (spA_le b 4 4 (by omega))
  have hw : IntKind.u32.wrap (num (spA b 4) : Int) = num (spA b 4) := wrap_u32 (by omega) (by omega)
  have h1 := read_c b 4 (by omega)
  have h2 : F74 [.by (spB b 4)] = some ([.by (spB b 4)], .own 0) := if_pos (by omega)
  repeat refine St (And.intro h1 <| And.intro h2 <| hw) ct67 ?_
  exact AWP.ret (Fin trivial [0] [])

theorem take32_c {b : List UInt8} (h : b.length ≤ 549755813000) : F67 [.by b] = some ([], .tup [.t (.int .u32 (num (spA b 4))), .t (.by (spB b 4)), .t (.int .i64 (spE b 4))]) := if_pos h
end Go.Fw

end

section
/- compact: bounded things, lists. -/
namespace Go.Fw
open Go Go.Proofs
set_option linter.unusedVariables false
set_option linter.unusedSimpArgs false

end Go.Fw

end

section
/- store: sectors read; numbers; the layout. -/
namespace Go.Fw
open Go Go.Proofs
set_option linter.unusedVariables false
set_option linter.unusedSimpArgs false

noncomputable def G31 : GFun
  | HB, [.ptr 0 0 [], .t (.int .i64 i), .t (.int .i64 n)] => match inv tpH HB with
    | some t => @ite _ ((t.d.good = true ∧ (0 ≤ i ∧ i ≤ 1000000) ∧ 0 ≤ n ∧ n ≤ 1000000)) (Classical.propDecidable _) ((some (tpH ⟨t.d, (getT n.toNat i t.d t.e).2⟩, .t (.by (getT n.toNat i t.d t.e).1)))) none
    | none => none
  | _, _ => none

theorem ct31 : CT [(57, ⟨[true, false], G57⟩)] [0, 1, 2, 6, 7, 8, 9, 10, 23] [] := ⟨(.cons g57 (.nil _))⟩

/-- Behind an error nothing more is read. -/
theorem getT_more (d : RD) {k : Nat} {i e : Int} (h : (getT k i d e).2 ≠ 0) : ∀ j, getT (k + j) i d e = getT k i d e
  | 0 => rfl
  | j + 1 => by
    have ih := getT_more d h j
    rw [← Nat.add_assoc, getT_snoc, ih]
    rw [if_neg h, if_neg h, List.append_nil]

set_option maxHeartbeats 4000000 in
theorem g31 : GCon Try.prog 31 G31 := by
  refine gconc E_ok (rs := [.tmp 6 27]) Try.func31 rfl Try.ntmps31 (by kernel_rfl) rfl (by decide) G31 (np := 3) ?_ ?_
  · intro HB xs h; unfold G31; split <;> first | rfl | (simp at h; done)
  intro HB xs H r hG hwf hex
  unfold G31 at hG
  split at hG <;> try (cases hG; done)
  rename_i HB i n
  split at hG <;> try (cases hG; done)
  rename_i t ht
  split at hG
  case isFalse => cases hG
  rename_i hc
  cases hG
  obtain rfl := inv_inv ht
  obtain ⟨hg, ⟨hi0, hi1⟩, hn0, hn1⟩ := hc
  clear ht hex hwf
  obtain ⟨m, rfl⟩ : ∃ m : Nat, n = (m : Int) := ⟨n.toNat, by omega⟩
  rw [Int.toNat_natCast]
  obtain ⟨d, e⟩ := t
  dsimp only at hg ⊢
  simp only [tpH]
  have hw1 : IntKind.i64.wrap (i + (m : Int)) = i + (m : Int) := wrap_i64 (by omega) (by omega)
  repeat refine St (And.intro @gentry.eq_1 <| @gentry.eq_2) ct31 ?_
  refine AWP.weak (Wo 7 (.by [])) ?_
  refine AWP.loop (G := { k : Nat // k ≤ m }) (fun k => ⟨[(0, .ptr 0 0 []), (1, .t (.int .i64 i)), (2, .t (.int .i64 (m : Int))), (7, .own 5), (8, .t (.int .i64 (i + (k.1 : Int))))], [.bx (.st [.ptr 1 0 [], .t (.int .i64 (getT k.1 i d e).2)]), .bx (.st [.own 2, .own 3, .own 4, .t (.int .i64 d.l), .t (.bool d.off)]), .sq 128 (d.s.map (T.ba 128)), .sq 128 ((layP d.s d.p).map (T.ba 128)), .sq 129 (d.p.map pnd1), .by (getT k.1 i d e).1]⟩) (fun k => m - k.1) ⟨0, by omega⟩ (Wt (And.intro (And.intro @getT.eq_1 <| @getT.eq_2) <| And.intro @Int.add_zero <| @Int.natCast_zero) [0, 1, 2, 7, 8] [0, 1, 2, 3, 4, 5]) ?_
  rintro ⟨k, hk⟩
  dsimp only
  have hsn := getT_snoc d k i e
  have hln := (getT_len hg k i e).1
  have hmo := fun h => getT_more d (k := k) (i := i) (e := e) h (m - k)
  rw [show k + (m - k) = m by omega] at hmo
  by_cases hlt : k < m
  · have hlt2 : i + (k : Int) < i + (m : Int) := by omega
    by_cases he : (getT k i d e).2 = 0
    · have hr := read_dc d (i + (k : Int)) hg
      have hrl := (getD_len hg (i + (k : Int))).1
      rw [if_pos he, if_pos he] at hsn
      have hw2 : IntKind.i64.wrap (i + (k : Int) + 1) = i + ((k + 1 : Nat) : Int) := by rw [wrap_i64 (by omega) (by omega)]; omega
      generalize getD d (i + (k : Int)) = R at *
      generalize getT k i d e = X at *
      obtain ⟨x, e1⟩ := X
      obtain ⟨y, e2⟩ := R
      dsimp only at he hsn hln hr hrl ⊢
      subst he
      have hal : x.length ≤ 200000000 := by omega
      repeat refine St (And.intro hw1 <| And.intro hlt2 <| And.intro hr <| And.intro @dH.eq_def <| And.intro hal <| And.intro hw2 <| And.intro @cleanL_sect <| @cleanL_pnd) ct31 ?_
      exact ⟨⟨k + 1, by omega⟩, (Wt hsn [0, 1, 2, 7, 8] [0, 1, 2, 3, 4, 6]), by simp only; omega⟩
    · have he2 : ((getT k i d e).2 == 0) = false := by rw [beq_eq_false_iff_ne]; exact he
      have hq := hmo he
      rw [hq]
      generalize getT k i d e = X at *
      repeat refine St (And.intro hw1 <| And.intro hlt2 <| he2) ct31 ?_
      exact AWP.ret (Fin trivial [5] [0, 1, 2, 3, 4])
  · obtain rfl : k = m := by omega
    have hlt2 : ¬ i + (k : Int) < i + (k : Int) := by omega
    generalize getT k i d e = X at *
    repeat refine St (And.intro hw1 <| hlt2) ct31 ?_
    exact AWP.ret (Fin trivial [5] [0, 1, 2, 3, 4])

end Go.Fw

end

section
/- store: numbers, parts, the layout. -/
namespace Go.Fw
open Go Go.Proofs
set_option linter.unusedVariables false
set_option linter.unusedSimpArgs false

noncomputable def F39 : Fun
  | [.by b, .int .i64 a] => @ite _ ((0 ≤ a ∧ a + 4 ≤ (b.length : Int) ∧ b.length ≤ 200000000)) (Classical.propDecidable _) ((some ([], .t (.int .i64 (numAt b a.toNat : Int))))) none
  | _ => none

theorem ct39 : CT [(67, ⟨[false], treeG F67⟩)] [0, 1, 4, 5] [] := ⟨(.cons c67.g (.nil _))⟩

theorem numAt_lt (b : List UInt8) (a : Nat) : numAt b a < 4294967296 := Nat.lt_succ_of_le (num_lt4 _ (by rw [List.length_take]; omega))
theorem spA_full {x : List UInt8} (h : x.length = 4) : spA x 4 = x := by
  unfold spA
  rw [if_neg (by omega), if_neg (by omega)]
  exact List.take_of_length_le (by simp; omega)

set_option maxHeartbeats 1000000 in
theorem c39 : ACon Try.prog 39 F39 := by
  refine aconc E_ok (rs := [.tmp 4 3]) Try.func39 rfl Try.ntmps39 (by kernel_rfl) rfl (by decide) F39 (np := 2) ?_ ?_
  · intro ts h; unfold F39; split <;> first | rfl | (simp at h; done)
  intro ts H r hF hwf
  unfold F39 at hF
  split at hF <;> try (cases hF; done)
  rename_i b a
  split at hF
  case isFalse => cases hF
  rename_i hc
  obtain ⟨h0, h1, h2⟩ := hc
  cases hF
  obtain ⟨k, rfl⟩ : ∃ k : Nat, a = (k : Int) := ⟨a.toNat, by omega⟩
  have w1 : IntKind.i64.wrap ((k : Int) + 4) = ((k + 4 : Nat) : Int) := by rw [wrap_i64 (by omega) (by omega)]; omega
  have hl4 : ((b.drop k).take 4).length = 4 := by simp; omega
  have ht := take32_c (b := (b.drop k).take 4) (by omega)
  rw [spA_full hl4] at ht
  have hnl := numAt_lt b k
  have w2 : IntKind.i64.wrap (numAt b k : Int) = (numAt b k : Int) := wrap_i64 (by omega) (by omega)
  rw [Int.toNat_natCast]
  rw [show num ((b.drop k).take 4) = numAt b k from rfl] at ht
  have hk4 : k + 4 ≤ b.length := by omega
  have hk : k ≤ k + 4 := by omega
  have hsub : List.drop k (List.take (k + 4) b) = (b.drop k).take 4 := by rw [List.drop_take, show k + 4 - k = 4 by omega]
  repeat refine St (And.intro w1 <| And.intro ht <| And.intro w2 <| And.intro hk4 <| And.intro hk <| hsub) ct39 ?_
  exact AWP.ret (Fin trivial [] [])

theorem number_sc {b : List UInt8} {a : Nat} (h1 : a + 4 ≤ b.length) (h2 : b.length ≤ 200000000) : F39 [.by b, .int .i64 (a : Int)] = some ([], .t (.int .i64 (numAt b a : Int))) := by
  simp only [F39]
  rw [if_pos ⟨by omega, by omega, h2⟩, Int.toNat_natCast]

noncomputable def F59 : Fun
  | [.by b, .int .i64 i] => @ite _ ((0 ≤ i ∧ 128 * (i + 1) ≤ (b.length : Int) ∧ b.length ≤ 200000000)) (Classical.propDecidable _) ((some ([], .t (.by (partB b i.toNat))))) none
  | _ => none

theorem ct59 : CT [] [0, 1, 4] [] := ⟨GClOk.nil _⟩

set_option maxHeartbeats 1000000 in
theorem c59 : ACon Try.prog 59 F59 := by
  refine aconc E_ok (rs := [.tmp 4 27]) Try.func59 rfl Try.ntmps59 (by kernel_rfl) rfl (by decide) F59 (np := 2) ?_ ?_
  · intro ts h; unfold F59; split <;> first | rfl | (simp at h; done)
  intro ts H r hF hwf
  unfold F59 at hF
  split at hF <;> try (cases hF; done)
  rename_i b i
  split at hF
  case isFalse => cases hF
  rename_i hc
  obtain ⟨h0, h1, h2⟩ := hc
  cases hF
  obtain ⟨k, rfl⟩ : ∃ k : Nat, i = (k : Int) := ⟨i.toNat, by omega⟩
  have w1 : IntKind.i64.wrap ((k : Int) * 128) = ((128 * k : Nat) : Int) := by rw [wrap_i64 (by omega) (by omega)]; omega
  have w2 : IntKind.i64.wrap ((k : Int) + 1) = ((k + 1 : Nat) : Int) := by rw [wrap_i64 (by omega) (by omega)]; omega
  have w3 : IntKind.i64.wrap (((k + 1 : Nat) : Int) * 128) = ((128 * k + 128 : Nat) : Int) := by rw [wrap_i64 (by omega) (by omega)]; omega
  rw [Int.toNat_natCast]
  unfold partB
  have hk4 : 128 * k + 128 ≤ b.length := by omega
  have hk : 128 * k ≤ 128 * k + 128 := by omega
  have hsub : List.drop (128 * k) (List.take (128 * k + 128) b) = (b.drop (128 * k)).take 128 := by rw [List.drop_take, show 128 * k + 128 - 128 * k = 128 by omega]
  repeat refine St (And.intro w1 <| And.intro w2 <| And.intro w3 <| And.intro hk4 <| And.intro hk <| hsub) ct59 ?_
  exact AWP.ret (Fin trivial [] [])

theorem part_sc {b : List UInt8} {i : Nat} (h1 : 128 * (i + 1) ≤ b.length) (h2 : b.length ≤ 200000000) : F59 [.by b, .int .i64 (i : Int)] = some ([], .t (.by (partB b i))) := by
  simp only [F59]
  rw [if_pos ⟨by omega, by omega, h2⟩, Int.toNat_natCast]

noncomputable def F36 : Fun
  | [.int .i64 n] => @ite _ ((0 ≤ n ∧ n ≤ 100000)) (Classical.propDecidable _) ((some ([], .t (layT (slots n.toNat))))) none
  | _ => none

theorem ct36 : CT [(65, ⟨[false], treeG F65⟩)] [0, 2, 3, 13] [] := ⟨(.cons c65.g (.nil _))⟩

set_option maxHeartbeats 1000000 in
theorem c36 : ACon Try.prog 36 F36 := by
  refine aconc E_ok (rs := [.cell 2 67]) Try.func36 rfl Try.ntmps36 (by kernel_rfl) rfl (by decide) F36 (np := 1) ?_ ?_
  · intro ts h; unfold F36; split <;> first | rfl | (simp at h; done)
  intro ts H r hF hwf
  unfold F36 at hF
  split at hF <;> try (cases hF; done)
  rename_i n
  split at hF
  case isFalse => cases hF
  rename_i hc
  obtain ⟨h0, h1⟩ := hc
  cases hF
  obtain ⟨w, rfl⟩ : ∃ w : Nat, n = (w : Int) := ⟨n.toNat, by omega⟩
  rw [Int.toNat_natCast]
  repeat refine St trivial ct36 ?_
  refine AWP.loop (G := { k : Nat // k ≤ w ∧ slots w = sltN w (w - k) k }) (fun k => ⟨[(0, .t (.int .i64 (w : Int))), (2, .ptr 0 0 []), (3, .t (.int .i64 (k.1 : Int)))], [.bx (.t (.st [.int .i64 0, .int .i64 0]))]⟩) (fun k => w - k.1) ⟨0, by omega, rfl⟩ (Wt trivial [0, 2, 3] [0]) ?_
  rintro ⟨k, hk, hs⟩
  dsimp only
  have hll := lstN_le (k + 1)
  have w1 : IntKind.i64.wrap ((k : Int) + 1) = ((k + 1 : Nat) : Int) := by rw [wrap_i64 (by omega) (by omega)]; omega
  have w2 : IntKind.i64.wrap (1 + (lstN (k + 1) : Int)) = ((1 + lstN (k + 1) : Nat) : Int) := by rw [wrap_i64 (by omega) (by omega)]; omega
  have w3 : IntKind.i64.wrap (2 * ((k + 1 : Nat) : Int)) = ((2 * (k + 1) : Nat) : Int) := by rw [wrap_i64 (by omega) (by omega)]; omega
  have w4 : IntKind.i64.wrap (((1 + lstN (k + 1) : Nat) : Int) + ((2 * (k + 1) : Nat) : Int)) = ((1 + lstN (k + 1) + 2 * (k + 1) : Nat) : Int) := by rw [wrap_i64 (by omega) (by omega)]; omega
  have hl := lists_c (n := k + 1) (by omega)
  cases hf : fitsN w k with
  | true =>
    have hlt := fitsN_lt hf
    have hc : ((1 + lstN (k + 1) + 2 * (k + 1) : Nat) : Int) ≤ (w : Int) := by
      unfold fitsN at hf
      have := of_decide_eq_true hf
      omega
    have hs2 := slt_step hk hf
    generalize lstN (k + 1) = L at *
    repeat refine St (And.intro w1 <| And.intro w2 <| And.intro w3 <| And.intro w4 <| And.intro hl <| hc) ct36 ?_
    exact ⟨⟨k + 1, by omega, by rw [hs, hs2]⟩, (Wt trivial [0, 2, 3] [0]), by simp only; omega⟩
  | false =>
    have hc : ¬ ((1 + lstN (k + 1) + 2 * (k + 1) : Nat) : Int) ≤ (w : Int) := by
      unfold fitsN at hf
      have := of_decide_eq_false hf
      omega
    have hl2 := lists_c (n := k) (by omega)
    have hlay : layT (slots w) = .st [.int .i64 (k : Int), .int .i64 (lstN k : Int)] := by rw [hs, slt_stop hf]; rfl
    repeat refine St (And.intro w1 <| And.intro w2 <| And.intro w3 <| And.intro w4 <| And.intro hl <| And.intro hl2 <| hc) ct36 ?_
    exact AWP.ret (Fin hlay [] [])

theorem lay_c {w : Nat} (h : w ≤ 100000) : F36 [.int .i64 (w : Int)] = some ([], .t (layT (slots w))) := by
  simp only [F36]
  rw [if_pos ⟨by omega, by omega⟩, Int.toNat_natCast]

end Go.Fw

end

section
/- store: what the lists name; what slots had is given back. -/
namespace Go.Fw
open Go Go.Proofs
set_option linter.unusedVariables false
set_option linter.unusedSimpArgs false

def natT (n : Nat) : T := .int .i64 (n : Int)
/-- What named tells. -/
def namR (b : List UInt8) (n : Nat) : Option (List Blk × AV) := match named b n with
  | none => some ([], .tup [.t (.sq 1 []), .t (.bool false)])
  | some s => some ([], .tup [.t (.sq 1 (s.map natT)), .t (.bool true)])
noncomputable def F66 : Fun
  | [.st [.int .i64 n, .int .i64 m], .by b] => @ite _ (((0 ≤ n ∧ n ≤ 1000000) ∧ 4 * (n + 1) ≤ (b.length : Int) ∧ b.length ≤ 200000000)) (Classical.propDecidable _) ((namR b n.toNat)) none
  | _ => none

theorem ct66 : CT [(39, ⟨[false, false], treeG F39⟩)] [0, 1, 2, 4, 5, 6, 7, 8, 9, 15, 16, 17, 18, 28] [] := ⟨(.cons c39.g (.nil _))⟩

set_option maxHeartbeats 2000000 in
theorem c66 : ACon Try.prog 66 F66 := by
  refine aconc E_ok (rs := [.tmp 4 39, .tmp 5 4]) Try.func66 rfl Try.ntmps66 (by kernel_rfl) rfl (by decide) F66 (np := 2) ?_ ?_
  · intro ts h; unfold F66; split <;> first | rfl | (simp at h; done)
  intro ts H r hF hwf
  unfold F66 at hF
  split at hF <;> try (cases hF; done)
  rename_i n m b
  split at hF
  case isFalse => cases hF
  rename_i hc
  obtain ⟨⟨h0, h1⟩, h2, h3⟩ := hc
  obtain ⟨n, rfl⟩ : ∃ k : Nat, n = (k : Int) := ⟨n.toNat, by omega⟩
  rw [Int.toNat_natCast] at hF
  unfold namR at hF
  have hn0 := number_sc (b := b) (a := 0) (by omega) h3
  rw [show ((0 : Nat) : Int) = 0 from rfl] at hn0
  by_cases hgt : n < numAt b 0
  · have hg2 : (n : Int) < (numAt b 0 : Int) := by omega
    rw [show named b n = none from if_pos hgt] at hF
    cases hF
    repeat refine St (And.intro hn0 <| hg2) ct66 ?_
    exact AWP.ret (Fin trivial [] [])
  have hg2 : ¬ (n : Int) < (numAt b 0 : Int) := by omega
  rw [show named b n = namN b n (numAt b 0) 0 [] from if_neg hgt] at hF
  generalize numAt b 0 = c at *
  repeat refine St (And.intro hn0 <| hg2) ct66 ?_
  refine AWP.weak (Wo 7 (.sq 1 [])) ?_
  refine AWP.loop (G := { q : Nat × List Nat // q.1 ≤ c ∧ q.2.length = q.1 ∧ namN b n c 0 [] = namN b n (c - q.1) q.1 q.2 }) (fun q => ⟨[(1, .t (.by b)), (2, .ptr 0 0 []), (7, .own 1), (16, .t (.int .i64 (c : Int))), (17, .t (.int .i64 (q.1.1 : Int)))], [.bx (.t (.st [.int .i64 (n : Int), .int .i64 m])), .sq 1 (q.1.2.map natT)]⟩) (fun q => c - q.1.1) ⟨(0, []), Nat.zero_le _, rfl, rfl⟩ (Wt (@List.map_nil.{0, 0}) [1, 2, 7, 16, 17] [0, 1]) ?_
  rintro ⟨⟨k, acc⟩, hk, hl, hq⟩
  dsimp only at hk hl hq ⊢
  by_cases hlt : k < c
  · have hlt2 : (k : Int) < (c : Int) := by omega
    have hnk := number_sc (b := b) (a := 4 * (k + 1)) (by omega) h3
    have w1 : IntKind.i64.wrap ((k : Int) + 1) = ((k + 1 : Nat) : Int) := by rw [wrap_i64 (by omega) (by omega)]; omega
    have w2 : IntKind.i64.wrap (4 * ((k + 1 : Nat) : Int)) = ((4 * (k + 1) : Nat) : Int) := by rw [wrap_i64 (by omega) (by omega)]; omega
    rw [show c - k = (c - (k + 1)) + 1 by omega, namN] at hq
    by_cases hb : n ≤ numAt b (4 * (k + 1))
    · rw [if_pos hb] at hq
      rw [hq] at hF
      cases hF
      have hb2 : (n : Int) ≤ (numAt b (4 * (k + 1)) : Int) := by omega
      repeat refine St (And.intro hlt2 <| And.intro hnk <| And.intro w1 <| And.intro w2 <| hb2) ct66 ?_
      exact AWP.ret (Fin trivial [] [])
    · rw [if_neg hb] at hq
      have hb2 : ¬ (n : Int) ≤ (numAt b (4 * (k + 1)) : Int) := by omega
      generalize numAt b (4 * (k + 1)) = x at *
      have hal : (acc.map natT).length ≤ 1000000 := by rw [List.length_map]; omega
      have hmm : (acc ++ [x]).map natT = acc.map natT ++ [.int .i64 (x : Int)] := by rw [List.map_append]; rfl
      repeat refine St (And.intro hlt2 <| And.intro hnk <| And.intro w1 <| And.intro w2 <| And.intro hb2 <| hal) ct66 ?_
      exact ⟨⟨(k + 1, acc ++ [x]), by dsimp only; omega, by simp [hl], hq⟩, (Wt hmm [1, 2, 7, 16, 17] [0, 3]), by simp only; omega⟩
  · obtain rfl : k = c := by omega
    have hlt2 : ¬ (k : Int) < (k : Int) := by omega
    rw [Nat.sub_self, namN] at hq
    rw [hq] at hF
    cases hF
    repeat refine St hlt2 ct66 ?_
    exact AWP.ret (Fin trivial [1] [])

theorem named_sc {n : Nat} {m : Int} {b : List UInt8} (h0 : n ≤ 1000000) (h1 : 4 * (n + 1) ≤ b.length) (h2 : b.length ≤ 200000000) : F66 [.st [.int .i64 (n : Int), .int .i64 m], .by b] = namR b n := by
  simp only [F66]
  rw [if_pos ⟨⟨by omega, by omega⟩, by omega, h2⟩, Int.toNat_natCast]

theorem get_tc (t : TP) (i : Int) (n : Nat) (hg : t.d.good = true) (h0 : 0 ≤ i ∧ i ≤ 1000000) (h1 : n ≤ 1000000) : G31 [.bx (.st [.ptr 1 0 [], .t (.int .i64 (t.e))]), .bx (.st [.own 2, .own 3, .own 4, .t (.int .i64 (t.d.l)), .t (.bool (t.d.off))]), .sq 128 ((t.d.s).map (T.ba 128)), .sq 128 ((layP (t.d.s) (t.d.p)).map (T.ba 128)), .sq 129 ((t.d.p).map pnd1)] [.ptr 0 0 [], .t (.int .i64 i), .t (.int .i64 (n : Int))] = some (tpH ⟨t.d, (getT n i t.d t.e).2⟩, .t (.by (getT n i t.d t.e).1)) := by
  show G31 (tpH t) _ = _
  simp only [G31, inv_of tpH_inj]
  rw [if_pos ⟨hg, h0, by omega, by omega⟩, Int.toNat_natCast]

noncomputable def G38 : GFun
  | HB, [.t (.st [.int .i64 n, .int .i64 m]), .ptr 0 0 []] => match inv tpH HB with
    | some t => @ite _ (((0 ≤ n ∧ m = (lstN n.toNat : Int)) ∧ t.d.good = true ∧ t.d.p.length ≤ 90000 ∧ t.d.s.length ≤ 8192 ∧ 0 < n.toNat ∧ 1 + lstN n.toNat + 2 * n.toNat ≤ t.d.s.length)) (Classical.propDecidable _) ((some (tpN (undoT n.toNat t), .tup []))) none
    | none => none
  | _, _ => none

theorem ct38 : CT [(31, ⟨[true, false, false], G31⟩), (32, ⟨[false, false], treeG F32⟩), (61, ⟨[true, false, false], G61⟩), (62, ⟨[false, false], treeG F62⟩), (63, ⟨[true], G63⟩), (64, ⟨[true, false], G64⟩), (66, ⟨[false, false], treeG F66⟩)] [0, 1, 2, 4, 5, 6, 7, 8, 9, 22, 31, 39, 43, 44, 45, 46] [(11, [⟨0, [1], [], []⟩, ⟨1, [2], [], []⟩, ⟨0, [9], [], []⟩, ⟨1, [51, 52], [1], []⟩, ⟨0, [1], [], []⟩, ⟨1, [2], [], []⟩, ⟨0, [8], [], []⟩, ⟨1, [55, 56], [1, 3, 5], []⟩, ⟨2, [54, 57], [1, 3, 5, 7], []⟩, ⟨2, [50, 53, 58], [1, 3, 5, 7, 8], []⟩])] := ⟨(.cons g31 (.cons c32.g (.cons g61 (.cons c62.g (.cons g63 (.cons g64 (.cons c66.g (.nil _))))))))⟩

set_option maxRecDepth 4000 in
set_option maxHeartbeats 4000000 in
theorem g38 : GCon Try.prog 38 G38 := by
  refine gconc E_ok (rs := []) Try.func38 rfl Try.ntmps38 (by kernel_rfl) rfl (by decide) G38 (np := 2) ?_ ?_
  · intro HB xs h; unfold G38; split <;> first | rfl | (simp at h; done)
  intro HB xs H r hG hwf hex
  unfold G38 at hG
  split at hG <;> try (cases hG; done)
  rename_i n m
  split at hG <;> try (cases hG; done)
  rename_i t ht
  split at hG
  case isFalse => cases hG
  rename_i hc
  cases hG
  obtain rfl := inv_inv ht
  obtain ⟨⟨hn0, hm⟩, hg, hp, hs, hn1, hfit⟩ := hc
  clear ht hex hwf
  obtain ⟨n, rfl⟩ : ∃ k : Nat, n = (k : Int) := ⟨n.toNat, by omega⟩
  rw [Int.toNat_natCast] at hm hn1 hfit ⊢
  subst hm
  obtain ⟨d, e⟩ := t
  dsimp only at hg hp hs hfit
  have hf0 := get_tc ⟨d, e⟩ 0 1 hg ⟨by omega, by omega⟩ (by omega)
  rw [show ((1 : Nat) : Int) = 1 from rfl] at hf0
  have hfl := (getT_len hg 1 0 e).2
  unfold undoT
  dsimp only at hf0 ⊢
  simp only [tpH] at hf0 ⊢
  generalize getT 1 0 d e = X at *
  obtain ⟨f, e1⟩ := X
  dsimp only at hf0 hfl ⊢
  by_cases he1 : e1 = 0
  case neg =>
    have he1b : (e1 != 0) = true := by rw [bne_iff_ne]; exact he1
    rw [if_pos (.inl he1)]
    repeat refine St (And.intro (And.intro @gentry.eq_1 <| @gentry.eq_2) <| And.intro hf0 <| he1b) ct38 ?_
    refine AWP.weak (Weak.moveBx (v' := _) 1 4 [2] 2 _ rfl rfl rfl (by decide) (by simp only [W, eqq, ↓reduceIte, Nat.reduceEqDiff, Nat.reduceLT, Nat.reduceLeDiff, Nat.reduceAdd, Nat.reduceMul, Nat.reduceSub, Nat.reduceBEq, Int.reduceLE, Int.reduceLT, Int.reduceNeg, Int.reduceToNat, Int.reduceEq, Int.reduceBEq, Int.reduceBNe, Nat.reduceBNe, bne_self_eq_false, reduceCtorEq, gt_iff_lt, ge_iff_le]) (by simp only [W, eqq, ↓reduceIte, Nat.reduceEqDiff, Nat.reduceLT, Nat.reduceLeDiff, Nat.reduceAdd, Nat.reduceMul, Nat.reduceSub, Nat.reduceBEq, Int.reduceLE, Int.reduceLT, Int.reduceNeg, Int.reduceToNat, Int.reduceEq, Int.reduceBEq, Int.reduceBNe, Nat.reduceBNe, bne_self_eq_false, reduceCtorEq, gt_iff_lt, ge_iff_le]) (by simp only [W, eqq, ↓reduceIte, Nat.reduceEqDiff, Nat.reduceLT, Nat.reduceLeDiff, Nat.reduceAdd, Nat.reduceMul, Nat.reduceSub, Nat.reduceBEq, Int.reduceLE, Int.reduceLT, Int.reduceNeg, Int.reduceToNat, Int.reduceEq, Int.reduceBEq, Int.reduceBNe, Nat.reduceBNe, bne_self_eq_false, reduceCtorEq, gt_iff_lt, ge_iff_le]; rfl)) ?_
    exact AWP.ret (Fin @tpN.eq_def [] [0, 1, 2, 3, 4, 6])
  subst he1
  have hfl2 : f.length = 128 := hfl rfl
  have hi0 : (0 : Int) < (f.length : Int) := by omega
  have hi1 : 0 < f.length := by omega
  by_cases hz : f.getD 0 0 = 0
  · rw [if_pos (.inr hz)]
    have hz0 : (((0 : UInt8).toNat : Int) == 0) = true := rfl
    repeat refine St (And.intro (And.intro @gentry.eq_1 <| @gentry.eq_2) <| And.intro hf0 <| And.intro hfl2 <| And.intro hi0 <| And.intro hi1 <| And.intro hz <| hz0) ct38 ?_
    refine AWP.weak (Weak.moveBx (v' := _) 1 4 [2] 2 _ rfl rfl rfl (by decide) (by simp only [W, eqq, ↓reduceIte, Nat.reduceEqDiff, Nat.reduceLT, Nat.reduceLeDiff, Nat.reduceAdd, Nat.reduceMul, Nat.reduceSub, Nat.reduceBEq, Int.reduceLE, Int.reduceLT, Int.reduceNeg, Int.reduceToNat, Int.reduceEq, Int.reduceBEq, Int.reduceBNe, Nat.reduceBNe, bne_self_eq_false, reduceCtorEq, gt_iff_lt, ge_iff_le]) (by simp only [W, eqq, ↓reduceIte, Nat.reduceEqDiff, Nat.reduceLT, Nat.reduceLeDiff, Nat.reduceAdd, Nat.reduceMul, Nat.reduceSub, Nat.reduceBEq, Int.reduceLE, Int.reduceLT, Int.reduceNeg, Int.reduceToNat, Int.reduceEq, Int.reduceBEq, Int.reduceBNe, Nat.reduceBNe, bne_self_eq_false, reduceCtorEq, gt_iff_lt, ge_iff_le]) (by simp only [W, eqq, ↓reduceIte, Nat.reduceEqDiff, Nat.reduceLT, Nat.reduceLeDiff, Nat.reduceAdd, Nat.reduceMul, Nat.reduceSub, Nat.reduceBEq, Int.reduceLE, Int.reduceLT, Int.reduceNeg, Int.reduceToNat, Int.reduceEq, Int.reduceBEq, Int.reduceBNe, Nat.reduceBNe, bne_self_eq_false, reduceCtorEq, gt_iff_lt, ge_iff_le]; rfl)) ?_
    exact AWP.ret (Fin @tpN.eq_def [] [0, 1, 2, 3, 4, 6])
  rw [if_neg (by rintro (h | h); · exact h rfl
                 · exact hz h)]
  have hzb : (((f.getD 0 0).toNat : Int) == 0) = false := by
    rw [beq_eq_false_iff_ne]; exact fun h => hz (UInt8.toNat_inj.1 (by show (f.getD 0 0).toNat = 0; omega))
  have hll := lstN_le n
  have hf1 := get_tc ⟨d, 0⟩ 1 (lstN n) hg ⟨by omega, by omega⟩ (by omega)
  have hll1 := (getT_len hg (lstN n) 1 0).2
  dsimp only at hf1
  simp only [tpH] at hf1
  generalize getT (lstN n) 1 d 0 = Y at *
  obtain ⟨l, e2⟩ := Y
  dsimp only at hf1 hll1 ⊢
  by_cases he2 : e2 = 0
  case neg =>
    have he2b : (e2 != 0) = true := by rw [bne_iff_ne]; exact he2
    rw [if_pos he2]
    repeat refine St (And.intro (And.intro @gentry.eq_1 <| @gentry.eq_2) <| And.intro hf0 <| And.intro hfl2 <| And.intro hi0 <| And.intro hi1 <| And.intro hzb <| And.intro hf1 <| he2b) ct38 ?_
    refine AWP.weak (Weak.moveBx (v' := _) 1 4 [2] 2 _ rfl rfl rfl (by decide) (by simp only [W, eqq, ↓reduceIte, Nat.reduceEqDiff, Nat.reduceLT, Nat.reduceLeDiff, Nat.reduceAdd, Nat.reduceMul, Nat.reduceSub, Nat.reduceBEq, Int.reduceLE, Int.reduceLT, Int.reduceNeg, Int.reduceToNat, Int.reduceEq, Int.reduceBEq, Int.reduceBNe, Nat.reduceBNe, bne_self_eq_false, reduceCtorEq, gt_iff_lt, ge_iff_le]) (by simp only [W, eqq, ↓reduceIte, Nat.reduceEqDiff, Nat.reduceLT, Nat.reduceLeDiff, Nat.reduceAdd, Nat.reduceMul, Nat.reduceSub, Nat.reduceBEq, Int.reduceLE, Int.reduceLT, Int.reduceNeg, Int.reduceToNat, Int.reduceEq, Int.reduceBEq, Int.reduceBNe, Nat.reduceBNe, bne_self_eq_false, reduceCtorEq, gt_iff_lt, ge_iff_le]) (by simp only [W, eqq, ↓reduceIte, Nat.reduceEqDiff, Nat.reduceLT, Nat.reduceLeDiff, Nat.reduceAdd, Nat.reduceMul, Nat.reduceSub, Nat.reduceBEq, Int.reduceLE, Int.reduceLT, Int.reduceNeg, Int.reduceToNat, Int.reduceEq, Int.reduceBEq, Int.reduceBNe, Nat.reduceBNe, bne_self_eq_false, reduceCtorEq, gt_iff_lt, ge_iff_le]; rfl)) ?_
    exact AWP.ret (Fin @tpN.eq_def [] [0, 1, 2, 3, 4, 6])
  subst he2
  rw [if_neg (by simp)]
  have hll2 : l.length = 128 * lstN n := hll1 rfl
  have hnm := named_sc (n := n) (m := (lstN n : Int)) (b := l) (by omega) (by rw [hll2]; unfold lstN; omega) (by omega)
  unfold namR at hnm
  cases hn : named l n with
  | none =>
    rw [hn] at hnm
    dsimp only at hnm
    repeat refine St (And.intro (And.intro @gentry.eq_1 <| @gentry.eq_2) <| And.intro hf0 <| And.intro hfl2 <| And.intro hi0 <| And.intro hi1 <| And.intro hzb <| And.intro hf1 <| hnm) ct38 ?_
    refine AWP.weak (Weak.moveBx (v' := _) 1 4 [2] 2 _ rfl rfl rfl (by decide) (by simp only [W, eqq, ↓reduceIte, Nat.reduceEqDiff, Nat.reduceLT, Nat.reduceLeDiff, Nat.reduceAdd, Nat.reduceMul, Nat.reduceSub, Nat.reduceBEq, Int.reduceLE, Int.reduceLT, Int.reduceNeg, Int.reduceToNat, Int.reduceEq, Int.reduceBEq, Int.reduceBNe, Nat.reduceBNe, bne_self_eq_false, reduceCtorEq, gt_iff_lt, ge_iff_le]) (by simp only [W, eqq, ↓reduceIte, Nat.reduceEqDiff, Nat.reduceLT, Nat.reduceLeDiff, Nat.reduceAdd, Nat.reduceMul, Nat.reduceSub, Nat.reduceBEq, Int.reduceLE, Int.reduceLT, Int.reduceNeg, Int.reduceToNat, Int.reduceEq, Int.reduceBEq, Int.reduceBNe, Nat.reduceBNe, bne_self_eq_false, reduceCtorEq, gt_iff_lt, ge_iff_le]) (by simp only [W, eqq, ↓reduceIte, Nat.reduceEqDiff, Nat.reduceLT, Nat.reduceLeDiff, Nat.reduceAdd, Nat.reduceMul, Nat.reduceSub, Nat.reduceBEq, Int.reduceLE, Int.reduceLT, Int.reduceNeg, Int.reduceToNat, Int.reduceEq, Int.reduceBEq, Int.reduceBNe, Nat.reduceBNe, bne_self_eq_false, reduceCtorEq, gt_iff_lt, ge_iff_le]; rfl)) ?_
    exact AWP.ret (Fin @tpN.eq_def [] [0, 1, 2, 3, 4, 6])
  | some s =>
    rw [hn] at hnm
    dsimp only at hnm
    have hsl := named_len hn
    have hslt := named_lt hn
    have hfew : (⟨d, 0⟩ : TP).d.few d.s.length d.p.length := ⟨hg, rfl, Nat.le_refl _⟩
    have hml : (s.map natT).length = s.length := List.length_map ..
    repeat refine St (And.intro (And.intro @gentry.eq_1 <| @gentry.eq_2) <| And.intro hf0 <| And.intro hfl2 <| And.intro hi0 <| And.intro hi1 <| And.intro hzb <| And.intro hf1 <| And.intro hnm <| hml) ct38 ?_
    refine AWP.weak (Weak.moveBx (v' := _) 1 4 [2] 2 _ rfl rfl rfl (by decide) (by simp only [W, eqq, ↓reduceIte, Nat.reduceEqDiff, Nat.reduceLT, Nat.reduceLeDiff, Nat.reduceAdd, Nat.reduceMul, Nat.reduceSub, Nat.reduceBEq, Int.reduceLE, Int.reduceLT, Int.reduceNeg, Int.reduceToNat, Int.reduceEq, Int.reduceBEq, Int.reduceBNe, Nat.reduceBNe, bne_self_eq_false, reduceCtorEq, gt_iff_lt, ge_iff_le]) (by simp only [W, eqq, ↓reduceIte, Nat.reduceEqDiff, Nat.reduceLT, Nat.reduceLeDiff, Nat.reduceAdd, Nat.reduceMul, Nat.reduceSub, Nat.reduceBEq, Int.reduceLE, Int.reduceLT, Int.reduceNeg, Int.reduceToNat, Int.reduceEq, Int.reduceBEq, Int.reduceBNe, Nat.reduceBNe, bne_self_eq_false, reduceCtorEq, gt_iff_lt, ge_iff_le]) (by simp only [W, eqq, ↓reduceIte, Nat.reduceEqDiff, Nat.reduceLT, Nat.reduceLeDiff, Nat.reduceAdd, Nat.reduceMul, Nat.reduceSub, Nat.reduceBEq, Int.reduceLE, Int.reduceLT, Int.reduceNeg, Int.reduceToNat, Int.reduceEq, Int.reduceBEq, Int.reduceBNe, Nat.reduceBNe, bne_self_eq_false, reduceCtorEq, gt_iff_lt, ge_iff_le]; rfl)) ?_
    refine AWP.loop (G := { k : Nat // k ≤ s.length }) (fun k => ⟨[(1, .ptr 0 0 []), (2, .ptr 5 0 []), (43, .t (.sq 1 (s.map natT))), (44, .t (.int .i64 (s.length : Int))), (45, .t (.int .i64 (k.1 : Int)))], [.bx (.st [.ptr 1 0 [], .t (.int .i64 ((backN n 0 (s.take k.1) ⟨d, 0⟩).e))]), .bx (.st [.own 2, .own 3, .own 6, .t (.int .i64 ((backN n 0 (s.take k.1) ⟨d, 0⟩).d.l)), .t (.bool ((backN n 0 (s.take k.1) ⟨d, 0⟩).d.off))]), .sq 128 (((backN n 0 (s.take k.1) ⟨d, 0⟩).d.s).map (T.ba 128)), .sq 128 ((layP ((backN n 0 (s.take k.1) ⟨d, 0⟩).d.s) ((backN n 0 (s.take k.1) ⟨d, 0⟩).d.p)).map (T.ba 128)), .no, .bx (.t (.st [.int .i64 (n : Int), .int .i64 (lstN n : Int)])), .sq 129 (((backN n 0 (s.take k.1) ⟨d, 0⟩).d.p).map pnd1)]⟩) (fun k => s.length - k.1) ⟨0, by omega⟩ (Wt (And.intro @List.take_zero.{0} <| (And.intro @backN.eq_1 <| @backN.eq_2)) [1, 2, 43, 44, 45] [0, 1, 2, 3, 4, 5, 6]) ?_
    rintro ⟨k, hk⟩
    dsimp only
    have hfk := backN_few (n := n) (s.take k) 0 d.p.length ⟨d, 0⟩ hfew (by rw [List.length_take]; omega)
    rw [List.length_take] at hfk
    by_cases hlt : k < s.length
    · have hlt2 : (k : Int) < (s.length : Int) := by omega
      have hxn := hslt (s.getD k 0) (by rw [List.getD_eq_getElem?_getD]; simp [hlt])
      have hget : (s.map natT).getD k default = .int .i64 ((s.getD k 0 : Nat) : Int) := by simp [hlt, natT]
      have htk : s.take (k + 1) = s.take k ++ [s.getD k 0] := by
        rw [List.take_succ_eq_append_getElem hlt, List.getD_eq_getElem?_getD]; simp [hlt]
      have hsn := backN_snoc n (s.getD k 0) (s.take k) 0 ⟨d, 0⟩
      rw [← htk, List.length_take, show 0 + min k s.length = k by omega] at hsn
      generalize hT1 : backN n 0 (s.take (k + 1)) ⟨d, 0⟩ = T1 at *
      generalize backN n 0 (s.take k) ⟨d, 0⟩ = T0 at *
      generalize s.getD k 0 = x at *
      have h1 := slot_c (n := n) (m := lstN n) (i := x) (by omega) (by omega)
      have h2 := back_c (n := n) (m := lstN n) (i := k) (by omega) (by omega) (by omega)
      have h3 := get_tc T0 ((1 + lstN n + n + k : Nat) : Int) 1 hfk.g ⟨by omega, by omega⟩ (by omega)
      rw [show ((1 : Nat) : Int) = 1 from rfl] at h3
      have hgl := (getT_len hfk.g 1 ((1 + lstN n + n + k : Nat) : Int) T0.e).1
      dsimp only at hsn
      simp only [tpH] at h3
      generalize getT 1 ((1 + lstN n + n + k : Nat) : Int) T0.d T0.e = Z at *
      obtain ⟨z, e3⟩ := Z
      dsimp only at h3 hgl hsn
      have h4 := put_tc ⟨T0.d, e3⟩ ((1 + lstN n + x : Nat) : Int) z hfk.g (by have := hfk.p; dsimp only; omega) (by omega)
      rw [← hsn] at h4
      dsimp only at h4
      have w1 : IntKind.i64.wrap ((k : Int) + 1) = ((k + 1 : Nat) : Int) := by rw [wrap_i64 (by omega) (by omega)]; omega
      generalize ((1 + lstN n + n + k : Nat) : Int) = I1 at *
      generalize ((1 + lstN n + x : Nat) : Int) = I2 at *
      repeat refine St (And.intro hlt <| And.intro hlt2 <| And.intro hml <| And.intro hget <| And.intro h1 <| And.intro h2 <| And.intro h3 <| And.intro h4 <| And.intro @tpN.eq_def <| And.intro w1 <| And.intro @cleanL_sect <| @cleanL_pnd) ct38 ?_
      exact ⟨⟨k + 1, by omega⟩, (Wt hT1 [1, 2, 43, 44, 45] [0, 1, 2, 3, 4, 5, 7]), by simp only; omega⟩
    · obtain rfl : k = s.length := by omega
      have hlt2 : ¬ (s.length : Int) < (s.length : Int) := by omega
      rw [List.take_length] at hfk ⊢
      generalize backN n 0 s ⟨d, 0⟩ = T0 at *
      have h1 := sync_tc T0 hfk.g
      have hf2 := syncT_few (t := T0) hfk
      generalize syncT T0 = T1 at *
      have h2 := flag_tc T1 0 hf2.g (by have := hf2.p; omega)
      rw [show UInt8.ofNat (0 : Int).toNat = 0 from rfl] at h2
      generalize flagT T1 0 = T2 at *
      repeat refine St (And.intro hlt2 <| And.intro h1 <| And.intro h2 <| And.intro @tpN.eq_def <| And.intro @cleanL_sect <| @cleanL_pnd) ct38 ?_
      exact Fin @tpN.eq_def [] [0, 1, 2, 3, 4, 8]

theorem undo_sc (t : TP) (n : Nat) (hg : t.d.good = true) (hp : t.d.p.length ≤ 90000) (hs : t.d.s.length ≤ 8192) (hn : 0 < n) (hw : 1 + lstN n + 2 * n ≤ t.d.s.length) : G38 [.bx (.st [.ptr 1 0 [], .t (.int .i64 (t.e))]), .bx (.st [.own 2, .own 3, .own 4, .t (.int .i64 (t.d.l)), .t (.bool (t.d.off))]), .sq 128 ((t.d.s).map (T.ba 128)), .sq 128 ((layP (t.d.s) (t.d.p)).map (T.ba 128)), .sq 129 ((t.d.p).map pnd1)] [.t (.st [.int .i64 (n : Int), .int .i64 (lstN n : Int)]), .ptr 0 0 []] = some (tpN (undoT n t), .tup []) := by
  show G38 (tpH t) _ = _
  simp only [G38, inv_of tpH_inj]
  rw [if_pos ⟨⟨by omega, by rw [Int.toNat_natCast]⟩, hg, hp, hs, by rw [Int.toNat_natCast]; exact hn, by rw [Int.toNat_natCast]; exact hw⟩, Int.toNat_natCast]

end Go.Fw

end

section
/- store: a store opened. -/
namespace Go.Fw
open Go Go.Proofs
set_option linter.unusedVariables false
set_option linter.unusedSimpArgs false

/-- A store's box. -/
def stB (s : SS) (k : Nat) : Blk := .bx (.st [.t (.st [.int .i64 (s.n : Int), .int .i64 (lstN s.n : Int)]), .ptr k 0 [], .t (.by s.img), .t (.bool s.broken)])
def openB : Option SS × RD × Int → Option (List Blk × AV)
  | (some s, d, e) => some (dN d ++ [stB s 0], .tup [.ptr 5 0 [], .t (.int .i64 e)])
  | (none, d, e) => some (dN d, .tup [.t .nilp, .t (.int .i64 e)])
noncomputable def G11 : GFun
  | [], [.t .nilp] => some ([], .tup [.t .nilp, .t (.int .i64 1)])
  | HB, [.ptr 0 0 []] => match inv dH HB with
    | some d => @ite _ ((d.good = true ∧ d.p.length ≤ 90000 ∧ d.s.length ≤ 8192)) (Classical.propDecidable _) ((openB (openS d))) none
    | none => none
  | _, _ => none

theorem ct11 : CT [(30, ⟨[false], treeG F30⟩), (31, ⟨[true, false, false], G31⟩), (32, ⟨[false, false], treeG F32⟩), (36, ⟨[false], treeG F36⟩), (37, ⟨[true], G37⟩), (38, ⟨[false, true], G38⟩), (39, ⟨[false, false], treeG F39⟩)] [0, 2, 3, 4, 5, 6, 7, 19, 45, 58] [(6, [⟨0, [5], [], []⟩, ⟨0, [4], [], []⟩, ⟨0, [30], [], []⟩, ⟨0, [31], [], []⟩, ⟨1, [32], [], []⟩, ⟨1, [33], [4], []⟩, ⟨0, [4], [], []⟩, ⟨0, [35], [], []⟩, ⟨0, [36], [], []⟩, ⟨0, [37], [], []⟩, ⟨1, [38], [], []⟩, ⟨2, [29, 34, 39], [4, 5, 10], []⟩, ⟨0, [40], [4, 5, 10, 11], []⟩]), (8, [⟨0, [5], [], []⟩, ⟨0, [46], [], []⟩, ⟨0, [47], [], []⟩, ⟨1, [48], [], []⟩, ⟨0, [], [], []⟩, ⟨0, [49], [3], []⟩])] := ⟨(.cons c30.g (.cons g31 (.cons c32.g (.cons c36.g (.cons g37 (.cons g38 (.cons c39.g (.nil _))))))))⟩

theorem undo_few {t : TP} {n w m : Nat} (h : t.d.few w m) (hn : m + n + 1 ≤ 99999) : (undoT n t).d.few w (m + n + 1) := by
  have hw : t.d.few w (m + n + 1) := ⟨h.g, h.w, Nat.le_trans h.p (by omega)⟩
  unfold undoT
  dsimp only
  split
  · exact hw
  · split
    · exact hw
    · split
      · exact hw
      · rename_i s hs
        have hl := named_len hs
        have h1 := backN_few (n := n) s 0 m ⟨t.d, (getT (lstN n) 1 t.d (getT 1 0 t.d t.e).2).2⟩ h (by omega)
        have h2 := flagT_few (syncT_few h1) (by omega) (on := 0)
        exact ⟨h2.g, h2.w, Nat.le_trans h2.p (by omega)⟩

set_option maxRecDepth 4000 in
set_option maxHeartbeats 4000000 in
theorem g11 : GCon Try.prog 11 G11 := by
  refine gconc E_ok (rs := [.tmp 2 23, .tmp 3 28]) Try.func11 rfl Try.ntmps11 (by kernel_rfl) rfl (by decide) G11 (np := 1) ?_ ?_
  · intro HB xs h; unfold G11; split <;> first | rfl | (simp at h; done)
  intro HB xs H r hG hwf hex
  unfold G11 at hG
  split at hG <;> try (cases hG; done)
  · cases hG
    have hs : G37 [] [.t .nilp] = some ([], .t (.int .i64 0)) := rfl
    have hl := lay_c (w := 0) (by omega)
    rw [show ((0 : Nat) : Int) = 0 from rfl, show layT (slots 0) = .st [.int .i64 0, .int .i64 (lstN 0 : Int)] from rfl] at hl
    repeat refine St (And.intro (And.intro @gentry.eq_1 <| @gentry.eq_2) <| And.intro hs <| hl) ct11 ?_
    exact AWP.ret (Fin trivial [] [])
  split at hG <;> try (cases hG; done)
  rename_i d hd
  split at hG
  case isFalse => cases hG
  rename_i hc
  obtain rfl := inv_inv hd
  obtain ⟨hg, hp, hw⟩ := hc
  clear hd hex hwf
  have hsl := slots_fit (sec := d.s.length)
  have hle := sltN_le d.s.length d.s.length 0
  have hs := sectors_c d
  have hl := lay_c (w := d.s.length) (by omega)
  have hsn : slots d.s.length = sltN d.s.length d.s.length 0 := rfl
  have hle2 : slots d.s.length ≤ d.s.length := by omega
  clear hle hsn
  unfold openS at hG
  dsimp only at hG
  generalize slots d.s.length = n at *
  have hlay : layT n = .st [.int .i64 (n : Int), .int .i64 (lstN n : Int)] := rfl
  rw [hlay] at hl
  simp only [dH] at hs ⊢
  by_cases hn : n = 0
  · rw [if_pos hn] at hG
    cases hG
    have hnb : ((n : Int) == 0) = true := by rw [beq_iff_eq]; omega
    repeat refine St (And.intro (And.intro @gentry.eq_1 <| @gentry.eq_2) <| And.intro hs <| And.intro hl <| hnb) ct11 ?_
    refine AWP.weak (Weak.moveBx (v' := _) 0 3 [2] 2 _ rfl rfl rfl (by decide) (by simp only [W, eqq, ↓reduceIte, Nat.reduceEqDiff, Nat.reduceLT, Nat.reduceLeDiff, Nat.reduceAdd, Nat.reduceMul, Nat.reduceSub, Nat.reduceBEq, Int.reduceLE, Int.reduceLT, Int.reduceNeg, Int.reduceToNat, Int.reduceEq, Int.reduceBEq, Int.reduceBNe, Nat.reduceBNe, bne_self_eq_false, reduceCtorEq, gt_iff_lt, ge_iff_le]) (by simp only [W, eqq, ↓reduceIte, Nat.reduceEqDiff, Nat.reduceLT, Nat.reduceLeDiff, Nat.reduceAdd, Nat.reduceMul, Nat.reduceSub, Nat.reduceBEq, Int.reduceLE, Int.reduceLT, Int.reduceNeg, Int.reduceToNat, Int.reduceEq, Int.reduceBEq, Int.reduceBNe, Nat.reduceBNe, bne_self_eq_false, reduceCtorEq, gt_iff_lt, ge_iff_le]) (by simp only [W, eqq, ↓reduceIte, Nat.reduceEqDiff, Nat.reduceLT, Nat.reduceLeDiff, Nat.reduceAdd, Nat.reduceMul, Nat.reduceSub, Nat.reduceBEq, Int.reduceLE, Int.reduceLT, Int.reduceNeg, Int.reduceToNat, Int.reduceEq, Int.reduceBEq, Int.reduceBNe, Nat.reduceBNe, bne_self_eq_false, reduceCtorEq, gt_iff_lt, ge_iff_le]; rfl)) ?_
    exact AWP.ret (Fin @dN.eq_def [] [0, 1, 2, 3, 5])
  have hnb : ((n : Int) == 0) = false := by rw [beq_eq_false_iff_ne]; omega
  rw [if_neg hn] at hG
  have hfit := hsl (by omega)
  have hll := lstN_le n
  have hu := undo_sc ⟨d, 0⟩ n hg hp hw (by omega) hfit
  have hfu := undo_few (t := ⟨d, 0⟩) (n := n) ⟨hg, rfl, hp⟩ (by omega)
  dsimp only at hu
  generalize undoT n ⟨d, 0⟩ = T0 at *
  have h1 := slot_c (n := n) (m := lstN n) (i := 0) (by omega) (by omega)
  rw [show ((0 : Nat) : Int) = 0 from rfl, show ((1 + lstN n + 0 : Nat) : Int) = ((1 + lstN n : Nat) : Int) from rfl] at h1
  have h2 := get_tc T0 ((1 + lstN n : Nat) : Int) n hfu.g ⟨by omega, by omega⟩ (by omega)
  have hbl := (getT_len hfu.g n ((1 + lstN n : Nat) : Int) T0.e).2
  simp only [tpH] at h2
  generalize getT n ((1 + lstN n : Nat) : Int) T0.d T0.e = Y at *
  obtain ⟨b, e2⟩ := Y
  dsimp only at h2 hbl hG
  generalize ((1 + lstN n : Nat) : Int) = I1 at *
  by_cases he2 : e2 = 0
  case neg =>
    have he2b : (e2 != 0) = true := by rw [bne_iff_ne]; exact he2
    rw [if_pos he2] at hG
    cases hG
    repeat refine St (And.intro (And.intro @gentry.eq_1 <| @gentry.eq_2) <| And.intro hs <| And.intro hl <| And.intro hnb <| And.intro hu <| And.intro @tpN.eq_def <| And.intro h1 <| And.intro h2 <| And.intro he2b <| And.intro @cleanL_sect <| @cleanL_pnd) ct11 ?_
    exact AWP.ret (Fin @dN.eq_def [] [0, 1, 2, 3, 6])
  subst he2
  rw [if_neg (by simp)] at hG
  have hbl2 : b.length = 128 * n := hbl rfl
  have h3 := number_sc (b := b) (a := 0) (by omega) (by omega)
  rw [show ((0 : Nat) : Int) = 0 from rfl] at h3
  have h4 := room_c (n := n) (m := (lstN n : Int)) (by omega)
  have hrn : roomN n = (n : Int) * 128 - 4 := rfl
  generalize numAt b 0 = x at *
  by_cases hr : roomN n < (x : Int)
  · rw [if_pos hr] at hG
    cases hG
    generalize roomN n = R at *
    repeat refine St (And.intro (And.intro @gentry.eq_1 <| @gentry.eq_2) <| And.intro hs <| And.intro hl <| And.intro hnb <| And.intro hu <| And.intro @tpN.eq_def <| And.intro h1 <| And.intro h2 <| And.intro h3 <| And.intro h4 <| And.intro hr <| And.intro @cleanL_sect <| @cleanL_pnd) ct11 ?_
    exact AWP.ret (Fin @dN.eq_def [] [0, 1, 2, 3, 6])
  · rw [if_neg hr] at hG
    cases hG
    have hx : 4 + x ≤ b.length := by omega
    have hx2 : 4 ≤ 4 + x := by omega
    have w1 : IntKind.i64.wrap (4 + (x : Int)) = ((4 + x : Nat) : Int) := by rw [wrap_i64 (by omega) (by omega)]; omega
    have hdt : List.drop 4 (List.take (4 + x) b) = (b.drop 4).take x := by rw [List.drop_take, show 4 + x - 4 = x by omega]
    generalize roomN n = R at *
    repeat refine St (And.intro (And.intro @gentry.eq_1 <| @gentry.eq_2) <| And.intro hs <| And.intro hl <| And.intro hnb <| And.intro hu <| And.intro @tpN.eq_def <| And.intro h1 <| And.intro h2 <| And.intro h3 <| And.intro h4 <| And.intro hr <| And.intro hx <| And.intro hx2 <| And.intro w1 <| And.intro hdt <| And.intro @cleanL_sect <| @cleanL_pnd) ct11 ?_
    exact AWP.ret (Fin (And.intro @dN.eq_def <| And.intro @stB.eq_def <| And.intro @List.cons_append.{0} <| @List.nil_append.{0}) [] [0, 1, 2, 3, 6, 4])

end Go.Fw

end

section
/- disk: a crash; what lies there. -/
namespace Go.Fw
open Go Go.Proofs
set_option linter.unusedVariables false
set_option linter.unusedSimpArgs false

/-- A disk behind a crash. -/
def crR (d : RD) (ks : List Int) : RD := ⟨laidN d.s d.p ks false d.p.length, [], -1, false⟩
noncomputable def G17 : GFun
  | HB, [.ptr 0 0 [], .t (.sq 1 ks)] => match inv dH HB, asInts ks with
    | some d, some k => @ite _ ((d.good = true ∧ k.length ≤ 1000000)) (Classical.propDecidable _) ((some (dN (crR d k), .tup []))) none
    | _, _ => none
  | _, _ => none

theorem ct17 : CT [] [0, 1, 4, 5, 6, 8, 10, 18, 19, 20, 52, 53, 54, 55] [(6, [⟨0, [0], [], []⟩, ⟨0, [35], [], []⟩, ⟨0, [36], [], []⟩, ⟨1, [37], [], []⟩, ⟨0, [5], [], []⟩, ⟨1, [39], [], []⟩, ⟨1, [38, 40], [3, 5], []⟩, ⟨0, [6], [], []⟩, ⟨1, [41, 42], [3, 5, 6], []⟩, ⟨0, [5], [], []⟩, ⟨0, [6], [], []⟩, ⟨1, [44, 45], [], []⟩, ⟨2, [43, 46], [3, 5, 6, 8, 11], []⟩]), (11, [⟨0, [0], [], []⟩, ⟨0, [58], [], []⟩, ⟨0, [59], [], []⟩, ⟨1, [60], [], []⟩, ⟨0, [8], [], []⟩, ⟨1, [62], [], []⟩, ⟨0, [0], [], []⟩, ⟨0, [64], [], []⟩, ⟨0, [65], [], []⟩, ⟨1, [66], [], []⟩, ⟨0, [8], [], []⟩, ⟨1, [68], [], []⟩, ⟨1, [67, 69], [9, 11], []⟩, ⟨1, [70], [9, 11, 12], []⟩, ⟨1, [61, 63], [3, 5, 9, 11, 12, 13], []⟩, ⟨2, [71, 72], [3, 5, 9, 11, 12, 13, 14], []⟩])] := ⟨GClOk.nil _⟩

set_option maxRecDepth 4000 in
set_option maxHeartbeats 4000000 in
theorem g17 : GCon Try.prog 17 G17 := by
  refine gconc E_ok (rs := []) Try.func17 rfl Try.ntmps17 (by kernel_rfl) rfl (by decide) G17 (np := 2) ?_ ?_
  · intro HB xs h; unfold G17; split <;> first | rfl | (simp at h; done)
  intro HB xs H r hG hwf hex
  unfold G17 at hG
  split at hG <;> try (cases hG; done)
  rename_i ks
  split at hG <;> try (cases hG; done)
  rename_i d ks' hd hks
  split at hG
  case isFalse => cases hG
  rename_i hc
  cases hG
  obtain rfl := inv_inv hd
  obtain rfl := asInts_inv hks
  obtain ⟨hg, hkl⟩ := hc
  obtain ⟨hok, ho, hl1, hl2⟩ := good_iff.1 hg
  obtain ⟨hfit, hfs, hfp, hsl, hpl⟩ := RD.ok_iff.1 hok
  clear hd hex hwf hg hok hks
  obtain ⟨s, p, l, off⟩ := d
  dsimp only at hfit hfs hfp hsl hpl
  simp only [dH, crR, laidN_crash]
  have hM : (if (p.length : Int) < (ks'.length : Int) then (p.length : Int) else (ks'.length : Int)) = ((min ks'.length p.length : Nat) : Int) := by split <;> omega
  have hzl : (p.zip ks').length = min ks'.length p.length := by rw [List.length_zip]; omega
  have hmk : (ks'.map (T.int .i64)).length = ks'.length := List.length_map ..
  have hmp : (p.map pnd1).length = p.length := List.length_map ..
  repeat refine St (And.intro (And.intro @gentry.eq_1 <| @gentry.eq_2) <| And.intro hM <| And.intro hmk <| hmp) ct17 ?_
  refine AWP.loop (G := { k : Nat // k ≤ min ks'.length p.length }) (fun k => ⟨[(0, .ptr 0 0 []), (1, .t (.sq 1 (ks'.map (T.int .i64)))), (18, .t (.int .i64 ((min ks'.length p.length : Nat) : Int))), (19, .t (.int .i64 (k.1 : Int)))], [.bx (.st [.own 1, .own 2, .own 3, .t (.int .i64 l), .t (.bool off)]), .sq 128 ((layK s ((p.zip ks').take k.1)).map (T.ba 128)), .sq 128 ((layP s p).map (T.ba 128)), .sq 129 (p.map pnd1)]⟩) (fun k => min ks'.length p.length - k.1) ⟨0, by omega⟩ (Wt (And.intro @layK_nil <| @List.take_zero.{0}) [0, 1, 18, 19] [0, 1, 2, 3]) ?_
  rintro ⟨k, hk⟩
  dsimp only
  have hk1 : k < min ks'.length p.length → IntKind.i64.wrap ((k : Int) + 1) = ((k + 1 : Nat) : Int) := fun _ => by rw [wrap_i64 (by omega) (by omega)]; omega
  by_cases hlt : (k : Int) < ((min ks'.length p.length : Nat) : Int)
  · have hk1 := hk1 (by omega)
    have hkl : k < p.length := by omega
    have hkl2 : k < ks'.length := by omega
    obtain ⟨w, hw⟩ : ∃ w, p[k]? = some w := ⟨p[k], List.getElem?_eq_getElem hkl⟩
    obtain ⟨w1, w2⟩ := w
    have hget := pnd_get p k _ hw
    obtain ⟨f1, f2⟩ := fitP_get hfit hw
    have hw2 := full128P_get hfp hw
    dsimp only at f1 f2 hget hw2
    have hlen : (layK s ((p.zip ks').take k)).length = s.length := layK_len _ _
    have hgk : (ks'.map (T.int .i64)).getD k default = .int .i64 (ks'.getD k 0) := by simp [hkl2]
    have hke := keepN_eq (ks'.getD k 0)
    have hkle := keepN_le (ks'.getD k 0)
    generalize hkd : keepN (ks'.getD k 0) = kk at hke hkle
    have hn : w1.toNat < s.length := by omega
    have hnn : (w1.toNat : Int) = w1 := by omega
    have hsg := sect_get (layK s ((p.zip ks').take k)) w1.toNat (by rw [hlen]; omega)
    have hml : ((layK s ((p.zip ks').take k)).map (T.ba 128)).length = s.length := by rw [List.length_map]; exact hlen
    have hold : ((layK s ((p.zip ks').take k)).getD w1.toNat []).length = 128 := by
      refine full128_get (layK_full _ _ hfs fun x hx => ?_) (by rw [hlen]; omega)
      have hx' := List.mem_of_mem_take hx
      obtain ⟨j, hj⟩ := List.getElem?_of_mem hx'
      rw [List.getElem?_zip_eq_some] at hj
      have a1 := full128P_get hfp hj.1
      have a2 := fitP_get hfit hj.1
      exact ⟨a1, by omega⟩
    have hstep : ∀ old, (layK s ((p.zip ks').take k)).getD w1.toNat [] = old → List.map (T.ba 128) (layK s ((p.zip ks').take (k + 1))) = (List.map (T.ba 128) (layK s ((p.zip ks').take k))).set w1.toNat (.ba 128 (w2.take kk ++ old.drop kk)) := by
      intro old hol
      have hz : (p.zip ks')[k]? = some ((w1, w2), ks'.getD k 0) := by
        rw [List.getElem?_zip_eq_some]; exact ⟨hw, by simp [hkl2]⟩
      rw [List.take_add_one, hz]
      simp only [Option.toList, layK_snoc, keep1, List.map_set, hkd, hol]
    generalize hol : (layK s ((p.zip ks').take k)).getD w1.toNat [] = old at hsg hold
    have hstep := hstep old hol
    have hlaid : laid old (List.take kk w2) 0 (Nat.min (List.take kk w2).length kk) = w2.take kk ++ old.drop kk := by
      have e : Nat.min (List.take kk w2).length kk = kk := by rw [List.length_take]; show min _ _ = kk; omega
      rw [e]
      simp only [laid, List.take_zero, List.nil_append, Nat.zero_add]
      rw [List.take_of_length_le (l := List.take kk w2) (by rw [List.length_take]; omega)]
    have hkk1 : kk ≤ 128 := hkle
    have hkk2 : kk ≤ w2.length := by omega
    repeat refine St (And.intro hlt <| And.intro hkl <| And.intro hkl2 <| And.intro hmk <| And.intro hmp <| And.intro hget <| And.intro hgk <| And.intro hke <| And.intro hn <| And.intro hnn <| And.intro hsg <| And.intro hml <| And.intro hold <| And.intro hlaid <| And.intro hw2 <| And.intro hk1 <| And.intro hkk1 <| hkk2) ct17 ?_
    exact ⟨⟨k + 1, by omega⟩, (Wt hstep [0, 1, 18, 19] [0, 1, 2, 3]), by simp only; omega⟩
  · obtain rfl : k = min ks'.length p.length := by omega
    have e : (p.zip ks').take (min ks'.length p.length) = p.zip ks' := List.take_of_length_le (by omega)
    rw [e]
    have hcr := layO_crash s p ks'
    generalize hS : layK s (p.zip ks') = S at *
    have hSl : S.length = s.length := by rw [← hS]; exact layK_len _ _
    repeat refine St (And.intro hlt <| hmp) ct17 ?_
    refine AWP.loop (G := { k : Nat // k ≤ p.length }) (fun k => ⟨[(0, .ptr 0 0 []), (52, .own 3), (53, .t (.int .i64 (p.length : Int))), (54, .t (.int .i64 (k.1 : Int)))], [.bx (.st [.own 1, .own 2, .own 3, .t (.int .i64 l), .t (.bool off)]), .sq 128 (S.map (T.ba 128)), .sq 128 ((layO S (layP s p) (p.take k.1)).map (T.ba 128)), .sq 129 (p.map pnd1)]⟩) (fun k => p.length - k.1) ⟨0, by omega⟩ (Wt (And.intro @layO_nil <| @List.take_zero.{0}) [0, 52, 53, 54] [0, 1, 2, 3]) ?_
    rintro ⟨k, hk⟩
    dsimp only
    by_cases hlt : (k : Int) < (p.length : Int)
    · have hkl : k < p.length := by omega
      obtain ⟨w, hw⟩ : ∃ w, p[k]? = some w := ⟨p[k], List.getElem?_eq_getElem hkl⟩
      obtain ⟨w1, w2⟩ := w
      have hget := pnd_get p k _ hw
      obtain ⟨f1, f2⟩ := fitP_get hfit hw
      dsimp only at f1 f2 hget
      have hlen : (layO S (layP s p) (p.take k)).length = s.length := by rw [layO_len]; exact layP_len _ _
      have hml1 : (S.map (T.ba 128)).length = s.length := by rw [List.length_map]; exact hSl
      have hml2 : ((layO S (layP s p) (p.take k)).map (T.ba 128)).length = s.length := by rw [List.length_map]; exact hlen
      have hn : w1.toNat < s.length := by omega
      have hnn : (w1.toNat : Int) = w1 := by omega
      have hsg := sect_get S w1.toNat (by omega)
      have hsg2 := sect_get (layO S (layP s p) (p.take k)) w1.toNat (by omega)
      have hk1 : IntKind.i64.wrap ((k : Int) + 1) = ((k + 1 : Nat) : Int) := by rw [wrap_i64 (by omega) (by omega)]; omega
      have hstep : List.map (T.ba 128) (layO S (layP s p) (p.take (k + 1))) = (List.map (T.ba 128) (layO S (layP s p) (p.take k))).set w1.toNat (.ba 128 (S.getD w1.toNat [])) := by
        rw [List.take_add_one, hw]
        simp only [Option.toList, layO_snoc, over1, List.map_set]
      have hsf : full128 S = true := by
        rw [← hS]
        exact layK_full _ _ hfs fun x hx => by
          obtain ⟨j, hj⟩ := List.getElem?_of_mem (zip_fst hx)
          have := fitP_get hfit hj
          exact ⟨full128P_get hfp hj, by omega⟩
      have hs128 := full128_get hsf (show w1.toNat < S.length by omega)
      repeat refine St (And.intro hlt <| And.intro hkl <| And.intro hmp <| And.intro hget <| And.intro hn <| And.intro hnn <| And.intro hsg <| And.intro hsg2 <| And.intro hml1 <| And.intro hml2 <| And.intro hk1 <| hs128) ct17 ?_
      exact ⟨⟨k + 1, by omega⟩, (Wt hstep [0, 52, 53, 54] [0, 1, 2, 3]), by simp only; omega⟩
    · obtain rfl : k = p.length := by omega
      rw [List.take_length, hcr]
      iterate 5 (try refine St (And.intro hlt <| hmp) ct17 ?_)
      refine AWP.weak (Weak.drop 3 _ rfl rfl) ?_
      refine AWP.gregW X_ok ct17.cl [0, 1, 4, 5, 6, 8, 10, 18, 19, 20, 52, 53, 54, 55] (Ev hlt) (Weak.ownBx (v' := _) 0 [2] 2 (.sq 129 []) rfl (by simp only [W, eqq, ↓reduceIte, Nat.reduceEqDiff, Nat.reduceLT, Nat.reduceLeDiff, Nat.reduceAdd, Nat.reduceMul, Nat.reduceSub, Nat.reduceBEq, Int.reduceLE, Int.reduceLT, Int.reduceNeg, Int.reduceToNat, Int.reduceEq, Int.reduceBEq, Int.reduceBNe, Nat.reduceBNe, bne_self_eq_false, reduceCtorEq, gt_iff_lt, ge_iff_le]) (by simp only [W, eqq, ↓reduceIte, Nat.reduceEqDiff, Nat.reduceLT, Nat.reduceLeDiff, Nat.reduceAdd, Nat.reduceMul, Nat.reduceSub, Nat.reduceBEq, Int.reduceLE, Int.reduceLT, Int.reduceNeg, Int.reduceToNat, Int.reduceEq, Int.reduceBEq, Int.reduceBNe, Nat.reduceBNe, bne_self_eq_false, reduceCtorEq, gt_iff_lt, ge_iff_le]) (by simp only [W, eqq, ↓reduceIte, Nat.reduceEqDiff, Nat.reduceLT, Nat.reduceLeDiff, Nat.reduceAdd, Nat.reduceMul, Nat.reduceSub, Nat.reduceBEq, Int.reduceLE, Int.reduceLT, Int.reduceNeg, Int.reduceToNat, Int.reduceEq, Int.reduceBEq, Int.reduceBNe, Nat.reduceBNe, bne_self_eq_false, reduceCtorEq, gt_iff_lt, ge_iff_le]; rfl) (.inr ⟨_, by decide, rfl⟩)) ?_
      exact Fin (And.intro @dN.eq_def <| And.intro @layP_nil <| @List.map_nil.{0, 0}) [] [0, 1, 2, 3, 4]

end Go.Fw

end

section
/- Drawn regions with two stores. -/
namespace Go.Fw
open Go Go.Proofs
set_option linter.unusedVariables false

theorem AWP.dK2 {gl : GCalls} {keep : List Nat} {ds : List (Nat × List Info)} {kp N id : Nat} {l : List Oper} {Q : Exit → AS → Prop} {S S' : AS} (ct : CT gl keep ds) {fs : List Info} (hl : lkD id ds = some fs) (hdep : dOk2 l fs = true) (h : drunP E eqq gl N keep l fs S = some S') (hQ : Q .normal S') : AWP kp Try.prog N (.region id l.toArray true) Q S :=
  AWP.gdraw2 X_ok ct.cl keep mix fs hdep h hQ

/-- One step. -/
theorem St2 {F : Prop} (hF : F) {gl : GCalls} {keep : List Nat} {ds : List (Nat × List Info)} (ct : CT gl keep ds) {A B : Prop} (k : B) (h : F → CT gl keep ds → KB B → A := by
  (intro hF ct hk; (first
    | refine AWP.seq ?_
    | refine AWP.block ?_
    | (refine AWP.rK ct (Ev hF) ?_; try show AWP _ _ _ _ _ _)
    | (refine AWP.condT ?_ ?_; focus (simp only [W, eqq, ↓reduceIte, Nat.reduceEqDiff, Nat.reduceLT, Nat.reduceLeDiff, Nat.reduceAdd, Nat.reduceMul, Nat.reduceSub, Nat.reduceBEq, Int.reduceLE, Int.reduceLT, Int.reduceNeg, Int.reduceToNat, Int.reduceEq, Int.reduceBEq, Int.reduceBNe, Nat.reduceBNe, bne_self_eq_false, reduceCtorEq, gt_iff_lt, ge_iff_le, hF]; done))
    | (refine AWP.condF ?_ ?_; focus (simp only [W, eqq, ↓reduceIte, Nat.reduceEqDiff, Nat.reduceLT, Nat.reduceLeDiff, Nat.reduceAdd, Nat.reduceMul, Nat.reduceSub, Nat.reduceBEq, Int.reduceLE, Int.reduceLT, Int.reduceNeg, Int.reduceToNat, Int.reduceEq, Int.reduceBEq, Int.reduceBNe, Nat.reduceBNe, bne_self_eq_false, reduceCtorEq, gt_iff_lt, ge_iff_le, hF]; done))
    | (refine AWP.cT (by simp only [W, eqq, ↓reduceIte, Nat.reduceEqDiff, Nat.reduceLT, Nat.reduceLeDiff, Nat.reduceAdd, Nat.reduceMul, Nat.reduceSub, Nat.reduceBEq, Int.reduceLE, Int.reduceLT, Int.reduceNeg, Int.reduceToNat, Int.reduceEq, Int.reduceBEq, Int.reduceBNe, Nat.reduceBNe, bne_self_eq_false, reduceCtorEq, gt_iff_lt, ge_iff_le, hF]; with_reducible rfl) (by simp only [BL, beq_iff_eq, bne_iff_ne, beq_eq_false_iff_ne, bne_eq_false_iff_eq]; omega) ?_)
    | (refine AWP.cF (by simp only [W, eqq, ↓reduceIte, Nat.reduceEqDiff, Nat.reduceLT, Nat.reduceLeDiff, Nat.reduceAdd, Nat.reduceMul, Nat.reduceSub, Nat.reduceBEq, Int.reduceLE, Int.reduceLT, Int.reduceNeg, Int.reduceToNat, Int.reduceEq, Int.reduceBEq, Int.reduceBNe, Nat.reduceBNe, bne_self_eq_false, reduceCtorEq, gt_iff_lt, ge_iff_le, hF]; with_reducible rfl) (by simp only [BL, beq_iff_eq, bne_iff_ne, beq_eq_false_iff_ne, bne_eq_false_iff_eq]; omega) ?_)
    | (refine AWP.skip ?_; try show AWP _ _ _ _ _ _)
    | (refine AWP.exit ?_; try show AWP _ _ _ _ _ _)
    | (refine AWP.dK2 ct (by rfl) (by kernel_rfl) (Ev hF) ?_; try show AWP _ _ _ _ _ _)); exact hk.out)) : A := h hF ct ⟨k⟩


end Go.Fw

end

section
/- store: its image, its room; bytes compared, copied. -/
namespace Go.Fw
open Go Go.Proofs
set_option linter.unusedVariables false
set_option linter.unusedSimpArgs false

def F58 : Fun
  | [.by a, .by b] => some ([], .t (.bool (a == b)))
  | _ => none

theorem ct58 : CT [] [0, 1, 4] [] := ⟨GClOk.nil _⟩

theorem c58 : ACon Try.prog 58 F58 := by
  refine aconc E_ok (rs := [.tmp 4 4]) Try.func58 rfl Try.ntmps58 (by kernel_rfl) rfl (by decide) F58 (np := 2) ?_ ?_
  · intro ts h; unfold F58; split <;> first | rfl | (simp at h; done)
  intro ts H r hF hwf
  unfold F58 at hF
  split at hF <;> try (cases hF; done)
  rename_i a b
  cases hF
  repeat refine St2 trivial ct58 ?_
  exact AWP.ret (Fin trivial [] [])

noncomputable def F40 : Fun
  | [.by b] => @ite _ ((b.length ≤ 549755813000)) (Classical.propDecidable _) ((some ([], .t (.by b)))) none
  | _ => none

theorem ct40 : CT [] [0, 2, 4] [] := ⟨GClOk.nil _⟩

theorem c40 : ACon Try.prog 40 F40 := by
  refine aconc E_ok (rs := [.tmp 2 27]) Try.func40 rfl Try.ntmps40 (by kernel_rfl) rfl (by decide) F40 (np := 1) ?_ ?_
  · intro ts h; unfold F40; split <;> first | rfl | (simp at h; done)
  intro ts H r hF hwf
  unfold F40 at hF
  split at hF <;> try (cases hF; done)
  rename_i b
  split at hF
  case isFalse => cases hF
  rename_i hc
  have hb := hc
  cases hF
  iterate 3 (refine St2 trivial ct40 ?_)
  refine AWP.seq ?_
  refine AWP.nK (l := [_]) trivial ct40 (fun r hr => ?_)
  show AWP _ _ _ _ _ _
  cases r
  · repeat refine St2 hb ct40 ?_
    exact AWP.ret (Fin trivial [1] [])
  · obtain rfl := hr rfl
    repeat refine St2 trivial ct40 ?_
    exact AWP.ret (Fin trivial [] [])

noncomputable def F35 : Fun
  | [.by b] => @ite _ ((b.length ≤ 549755813000)) (Classical.propDecidable _) ((some ([], .t (.by b)))) none
  | _ => none

theorem ct35 : CT [] [0, 2, 4] [] := ⟨GClOk.nil _⟩

theorem c35 : ACon Try.prog 35 F35 := by
  refine aconc E_ok (rs := [.tmp 2 27]) Try.func35 rfl Try.ntmps35 (by kernel_rfl) rfl (by decide) F35 (np := 1) ?_ ?_
  · intro ts h; unfold F35; split <;> first | rfl | (simp at h; done)
  intro ts H r hF hwf
  unfold F35 at hF
  split at hF <;> try (cases hF; done)
  rename_i b
  split at hF
  case isFalse => cases hF
  rename_i hc
  have hb := hc
  cases hF
  iterate 3 (refine St2 trivial ct35 ?_)
  refine AWP.seq ?_
  refine AWP.nK (l := [_]) trivial ct35 (fun r hr => ?_)
  show AWP _ _ _ _ _ _
  cases r
  · repeat refine St2 hb ct35 ?_
    exact AWP.ret (Fin trivial [1] [])
  · obtain rfl := hr rfl
    repeat refine St2 trivial ct35 ?_
    exact AWP.ret (Fin trivial [] [])


theorem bclone_c {b : List UInt8} (h : b.length ≤ 549755813000) : F40 [.by b] = some ([], .t (.by b)) := if_pos h
theorem sclone_c {b : List UInt8} (h : b.length ≤ 549755813000) : F35 [.by b] = some ([], .t (.by b)) := if_pos h

/-! ### A store. -/
def stH (x : SS × RD) : List Blk := [stB x.1 1, .bx (.st [.own 2, .own 3, .own 4, .t (.int .i64 x.2.l), .t (.bool x.2.off)]), .sq 128 (x.2.s.map (T.ba 128)), .sq 128 ((layP x.2.s x.2.p).map (T.ba 128)), .sq 129 (x.2.p.map pnd1)]
theorem stH_inj (a b : SS × RD) (h : stH a = stH b) : a = b := by
  obtain ⟨⟨n, i, r⟩, ⟨s, p, l, o⟩⟩ := a
  obtain ⟨⟨n', i', r'⟩, ⟨s', p', l', o'⟩⟩ := b
  unfold stH stB at h
  simp only [List.cons.injEq, Blk.bx.injEq, AV.st.injEq, AV.t.injEq, T.st.injEq, T.int.injEq, T.by.injEq, T.bool.injEq, Blk.sq.injEq, true_and, and_true] at h
  obtain ⟨⟨⟨h1, _⟩, h2, h3⟩, ⟨h4, h5⟩, h6, _, h7⟩ := h
  have h1' : n = n' := by omega
  rw [h1', h2, h3, h4, h5, sect_inj h6, pnd_inj h7]

noncomputable def G9 : GFun
  | [], [.t .nilp] => some ([], .t (.int .i64 0))
  | HB, [.ptr 0 0 []] => match inv stH HB with
    | some x => @ite _ ((x.1.n ≤ 1000000)) (Classical.propDecidable _) ((some (stH x, .t (.int .i64 (roomN x.1.n))))) none
    | none => none
  | _, _ => none

theorem ct9 : CT [(30, ⟨[false], treeG F30⟩)] [0, 2, 4] [] := ⟨(.cons c30.g (.nil _))⟩

theorem g9 : GCon Try.prog 9 G9 := by
  refine gconc E_ok (rs := [.tmp 2 3]) Try.func9 rfl Try.ntmps9 (by kernel_rfl) rfl (by decide) G9 (np := 1) ?_ ?_
  · intro HB xs h; unfold G9; split <;> first | rfl | (simp at h; done)
  intro HB xs H r hG hwf hex
  unfold G9 at hG
  split at hG <;> try (cases hG; done)
  · cases hG
    repeat refine St2 (And.intro @gentry.eq_1 <| @gentry.eq_2) ct9 ?_
    exact AWP.ret (Fin trivial [] [])
  split at hG <;> try (cases hG; done)
  rename_i x hx
  split at hG
  case isFalse => cases hG
  rename_i hc
  cases hG
  obtain rfl := inv_inv hx
  obtain ⟨s, d⟩ := x
  have h1 := room_c (n := s.n) (m := (lstN s.n : Int)) hc
  simp only [stH, stB]
  repeat refine St2 (And.intro (And.intro @gentry.eq_1 <| @gentry.eq_2) <| h1) ct9 ?_
  exact AWP.ret (Fin trivial [] [0, 1, 2, 3, 4])

noncomputable def G13 : GFun
  | [], [.t .nilp] => some ([], .t (.by []))
  | HB, [.ptr 0 0 []] => match inv stH HB with
    | some x => @ite _ ((x.1.img.length ≤ 549755813000)) (Classical.propDecidable _) ((some (stH x, .t (.by x.1.img)))) none
    | none => none
  | _, _ => none

theorem ct13 : CT [(40, ⟨[false], treeG F40⟩)] [0, 2, 4] [] := ⟨(.cons c40.g (.nil _))⟩

theorem g13 : GCon Try.prog 13 G13 := by
  refine gconc E_ok (rs := [.tmp 2 27]) Try.func13 rfl Try.ntmps13 (by kernel_rfl) rfl (by decide) G13 (np := 1) ?_ ?_
  · intro HB xs h; unfold G13; split <;> first | rfl | (simp at h; done)
  intro HB xs H r hG hwf hex
  unfold G13 at hG
  split at hG <;> try (cases hG; done)
  · cases hG
    repeat refine St2 (And.intro @gentry.eq_1 <| @gentry.eq_2) ct13 ?_
    exact AWP.ret (Fin trivial [] [])
  split at hG <;> try (cases hG; done)
  rename_i x hx
  split at hG
  case isFalse => cases hG
  rename_i hc
  cases hG
  obtain rfl := inv_inv hx
  obtain ⟨s, d⟩ := x
  have h1 := bclone_c hc
  simp only [stH, stB]
  dsimp only at h1 ⊢
  repeat refine St2 (And.intro (And.intro @gentry.eq_1 <| @gentry.eq_2) <| h1) ct13 ?_
  exact AWP.ret (Fin trivial [] [0, 1, 2, 3, 4])

theorem crash_c (d : RD) (ks : List Int) (hg : d.good = true) (hk : ks.length ≤ 1000000) : G17 [.bx (.st [.own 1, .own 2, .own 3, .t (.int .i64 (d.l)), .t (.bool d.off)]), .sq 128 ((d.s).map (T.ba 128)), .sq 128 ((layP d.s d.p).map (T.ba 128)), .sq 129 ((d.p).map pnd1)] [.ptr 0 0 [], .t (.sq 1 (ks.map (T.int .i64)))] = some (dN (crR d ks), .tup []) := by
  show G17 (dH d) _ = _
  simp only [G17, inv_of dH_inj, asInts_map]
  exact if_pos ⟨hg, hk⟩
theorem open_c (d : RD) (hg : d.good = true) (hp : d.p.length ≤ 90000) (hs : d.s.length ≤ 8192) : G11 [.bx (.st [.own 1, .own 2, .own 3, .t (.int .i64 (d.l)), .t (.bool d.off)]), .sq 128 ((d.s).map (T.ba 128)), .sq 128 ((layP d.s d.p).map (T.ba 128)), .sq 129 ((d.p).map pnd1)] [.ptr 0 0 []] = openB (openS d) := by
  show G11 (dH d) _ = _
  simp only [G11, inv_of dH_inj]
  exact if_pos ⟨hg, hp, hs⟩

end Go.Fw

end

section
/- store: an image saved. -/
namespace Go.Fw
open Go Go.Proofs
set_option linter.unusedVariables false
set_option linter.unusedSimpArgs false

noncomputable def G34 : GFun
  | HB, [.ptr 0 0 [], .t (.by b)] => match inv stH HB with
    | some x => @ite _ ((x.1.n ≤ 8192 ∧ b.length + 4 ≤ x.1.n * 128)) (Classical.propDecidable _) ((some (stH x, .t (.by (spreadB x.1.n b))))) none
    | none => none
  | _, _ => none

theorem ct34 : CT [(60, ⟨[false, false], treeG F60⟩)] [0, 1, 4, 5] [] := ⟨(.cons c60.g (.nil _))⟩

set_option maxHeartbeats 2000000 in
theorem g34 : GCon Try.prog 34 G34 := by
  refine gconc E_ok (rs := [.tmp 4 27]) Try.func34 rfl Try.ntmps34 (by kernel_rfl) rfl (by decide) G34 (np := 2) ?_ ?_
  · intro HB xs h; unfold G34; split <;> first | rfl | (simp at h; done)
  intro HB xs H r hG hwf hex
  unfold G34 at hG
  split at hG <;> try (cases hG; done)
  rename_i b
  split at hG <;> try (cases hG; done)
  rename_i x hx
  split at hG
  case isFalse => cases hG
  rename_i hc
  cases hG
  obtain rfl := inv_inv hx
  obtain ⟨s, d⟩ := x
  obtain ⟨hn, hb⟩ := hc
  dsimp only at hn hb
  simp only [stH, stB]
  generalize hsn : s.n = n at *
  have w1 : IntKind.i64.wrap ((n : Int) * 128) = ((n * 128 : Nat) : Int) := by rw [wrap_i64 (by omega) (by omega)]; omega
  have w2 : IntKind.u32.wrap (b.length : Int) = (b.length : Int) := wrap_u32 (by omega) (by omega)
  have h1 := put32_c (b := []) (b.length : Int) (by simp)
  rw [List.nil_append] at h1
  have h4 := le_len 4 (b.length : Int)
  unfold spreadB
  generalize le 4 (b.length : Int) = L at *
  have hx4 : (List.take (Nat.min 4 (n * 128)) L ++ List.replicate (n * 128 - Nat.min 4 (n * 128)) (0 : UInt8)) = L ++ List.replicate (n * 128 - 4) 0 := by
    have e : Nat.min 4 (n * 128) = 4 := Nat.min_eq_left (by omega)
    rw [e, List.take_of_length_le (by omega)]
  have hmb : Nat.min b.length ((L ++ List.replicate (n * 128 - 4) (0 : UInt8)).length - 4) = b.length := Nat.min_eq_left (by simp; omega)
  have hsp : laid (L ++ List.replicate (n * 128 - 4) (0 : UInt8)) b 4 b.length = L ++ b ++ List.replicate (n * 128 - 4 - b.length) 0 := by
    unfold laid
    rw [List.take_append_of_le_length (by omega), List.take_of_length_le (by omega), List.take_length]
    have hd : (L ++ List.replicate (n * 128 - 4) (0 : UInt8)).drop 4 = List.replicate (n * 128 - 4) 0 := by
      rw [List.drop_append_of_le_length (by omega), List.drop_of_length_le (by omega)]; rfl
    congr 1
    rw [← List.drop_drop, hd, List.drop_replicate]
  repeat refine St (And.intro (And.intro @gentry.eq_1 <| @gentry.eq_2) <| And.intro w1 <| And.intro w2 <| And.intro h1 <| h4) ct34 ?_
  exact AWP.ret (Fin (And.intro hx4 <| And.intro hmb <| hsp) [5] [0, 1, 2, 3, 4])

theorem spread_c (s : SS) (d : RD) (b : List UInt8) (hn : s.n ≤ 8192) (hb : b.length + 4 ≤ s.n * 128) : G34 [.bx (.st [.t (.st [.int .i64 (s.n : Int), .int .i64 (lstN s.n : Int)]), .ptr 1 0 [], .t (.by s.img), .t (.bool s.broken)]), .bx (.st [.own 2, .own 3, .own 4, .t (.int .i64 (d.l)), .t (.bool (d.off))]), .sq 128 ((d.s).map (T.ba 128)), .sq 128 ((layP d.s d.p).map (T.ba 128)), .sq 129 ((d.p).map pnd1)] [.ptr 0 0 [], .t (.by b)] = some (stH (s, d), .t (.by (spreadB s.n b))) := by
  show G34 (stH (s, d)) _ = _
  simp only [G34, inv_of stH_inj]
  exact if_pos ⟨hn, hb⟩

end Go.Fw

end

section
/- store: the slots whose bytes are other ones are turned. -/
namespace Go.Fw
open Go Go.Proofs
set_option linter.unusedVariables false
set_option linter.unusedSimpArgs false

/-- A store and a tape. -/
def tuH (x : SS × TP) : List Blk := [stB x.1 1, .bx (.st [.own 2, .own 3, .own 4, .t (.int .i64 (x.2.d.l)), .t (.bool (x.2.d.off))]), .sq 128 ((x.2.d.s).map (T.ba 128)), .sq 128 ((layP (x.2.d.s) (x.2.d.p)).map (T.ba 128)), .sq 129 ((x.2.d.p).map pnd1), .bx (.st [.ptr 1 0 [], .t (.int .i64 (x.2.e))])]
def tuN (x : SS × TP) : List Blk := [stB x.1 1, .bx (.st [.own 2, .own 3, .own 6, .t (.int .i64 (x.2.d.l)), .t (.bool (x.2.d.off))]), .sq 128 ((x.2.d.s).map (T.ba 128)), .sq 128 ((layP (x.2.d.s) (x.2.d.p)).map (T.ba 128)), .no, .bx (.st [.ptr 1 0 [], .t (.int .i64 (x.2.e))]), .sq 129 ((x.2.d.p).map pnd1)]
theorem tuH_inj (a b : SS × TP) (h : tuH a = tuH b) : a = b := by
  obtain ⟨⟨n, i, r⟩, ⟨⟨s, p, l, o⟩, e⟩⟩ := a
  obtain ⟨⟨n', i', r'⟩, ⟨⟨s', p', l', o'⟩, e'⟩⟩ := b
  unfold tuH stB at h
  simp only [List.cons.injEq, Blk.bx.injEq, AV.st.injEq, AV.t.injEq, T.st.injEq, T.int.injEq, T.by.injEq, T.bool.injEq, Blk.sq.injEq, true_and, and_true] at h
  obtain ⟨⟨⟨h1, _⟩, h2, h3⟩, ⟨h4, h5⟩, h6, _, h7, h8⟩ := h
  have h1' : n = n' := by omega
  rw [h1', h2, h3, h4, h5, sect_inj h6, pnd_inj h7, h8]

theorem chgN_0 (was want : List UInt8) : chgN was want 0 = [] := rfl
def flN (c : List Nat) : List UInt8 := (c.map fun i : Nat => le 4 (i : Int)).flatten
theorem flN_nil : flN [] = [] := rfl
theorem flN_snoc (c : List Nat) (x : Nat) : flN (c ++ [x]) = flN c ++ le 4 (x : Int) := by unfold flN; rw [List.map_append, List.flatten_append]; simp
theorem flN_len (c : List Nat) : (flN c).length = 4 * c.length := by
  induction c with
  | nil => rfl
  | cons x c ih =>
    unfold flN at ih ⊢
    rw [List.map_cons, List.flatten_cons, List.length_append, ih, le_len, List.length_cons]; omega
noncomputable def G33 : GFun
  | HB, [.ptr 0 0 [], .ptr 5 0 [], .t (.by was), .t (.by want)] => match inv tuH HB with
    | some x => @ite _ (((x.1.n ≤ 8192 ∧ was.length = x.1.n * 128 ∧ want.length = x.1.n * 128) ∧ x.2.d.good = true ∧ x.2.d.p.length ≤ 60000)) (Classical.propDecidable _) ((some (tuN (x.1, turnT x.1.n was want x.2), .tup []))) none
    | none => none
  | _, _ => none

theorem ct33 : CT [(32, ⟨[false, false], treeG F32⟩), (58, ⟨[false, false], treeG F58⟩), (59, ⟨[false, false], treeG F59⟩), (60, ⟨[false, false], treeG F60⟩), (61, ⟨[true, false, false], G61⟩), (62, ⟨[false, false], treeG F62⟩), (63, ⟨[true], G63⟩), (64, ⟨[true, false], G64⟩)] [0, 1, 2, 3, 8, 9, 10, 11, 12, 13, 15, 20, 21, 22, 31, 39, 44, 45, 46, 47, 82, 83, 84, 98, 99, 100, 101] [] := ⟨(.cons c32.g (.cons c58.g (.cons c59.g (.cons c60.g (.cons g61 (.cons c62.g (.cons g63 (.cons g64 (.nil _)))))))))⟩

set_option maxRecDepth 4000 in
set_option maxHeartbeats 8000000 in
theorem g33 : GCon Try.prog 33 G33 := by
  refine gconc E_ok (rs := []) Try.func33 rfl Try.ntmps33 (by kernel_rfl) rfl (by decide) G33 (np := 4) ?_ ?_
  · intro HB xs h; unfold G33; split <;> first | rfl | (simp at h; done)
  intro HB xs H r hG hwf hex
  unfold G33 at hG
  split at hG <;> try (cases hG; done)
  rename_i was want
  split at hG <;> try (cases hG; done)
  rename_i x hx
  split at hG
  case isFalse => cases hG
  rename_i hc
  cases hG
  obtain rfl := inv_inv hx
  clear hx hex hwf
  obtain ⟨⟨n, img, br⟩, t⟩ := x
  obtain ⟨⟨hn, hl1, hl2⟩, hg, hp⟩ := hc
  dsimp only at hn hl1 hl2 hg hp ⊢
  have hll := lstN_le n
  simp only [tuH, stB]
  have hts : ∀ k : Nat, k < n → IntKind.i64.wrap ((k : Int) + 1) = ((k + 1 : Nat) : Int) := fun k hk => by rw [wrap_i64 (by omega) (by omega)]; omega
  repeat refine St (And.intro @gentry.eq_1 <| @gentry.eq_2) ct33 ?_
  refine AWP.weak (Wo 8 (.sq 1 [])) ?_
  refine AWP.loop (G := { k : Nat // k ≤ n }) (fun k => ⟨[(0, .ptr 0 0 []), (1, .ptr 5 0 []), (2, .t (.by was)), (3, .t (.by want)), (8, .own 6), (20, .t (.int .i64 (n : Int))), (21, .t (.int .i64 (k.1 : Int)))], [.bx (.st [.t (.st [.int .i64 (n : Int), .int .i64 (lstN n : Int)]), .ptr 1 0 [], .t (.by img), .t (.bool br)]), .bx (.st [.own 2, .own 3, .own 4, .t (.int .i64 (t.d.l)), .t (.bool (t.d.off))]), .sq 128 ((t.d.s).map (T.ba 128)), .sq 128 ((layP (t.d.s) (t.d.p)).map (T.ba 128)), .sq 129 ((t.d.p).map pnd1), .bx (.st [.ptr 1 0 [], .t (.int .i64 (t.e))]), .sq 1 ((chgN was want k.1).map natT)]⟩) (fun k => n - k.1) ⟨0, by omega⟩ (Wt (And.intro @chgN_0 <| @List.map_nil.{0, 0}) [0, 1, 2, 3, 8, 20, 21] [0, 1, 2, 3, 4, 5, 6]) ?_
  rintro ⟨k, hk⟩
  dsimp only
  have hcs := chgN_succ was want k
  have hcl := chgN_le was want k
  by_cases hlt : k < n
  · have hlt2 : (k : Int) < (n : Int) := by omega
    have h1 := part_sc (b := was) (i := k) (by omega) (by omega)
    have h2 := part_sc (b := want) (i := k) (by omega) (by omega)
    have w1 := hts k hlt
    generalize hC1 : chgN was want (k + 1) = C1 at *
    generalize chgN was want k = C0 at *
    generalize partB was k = a at *
    generalize partB want k = b at *
    have heq : F58 [.by a, .by b] = some ([], .t (.bool (a == b))) := rfl
    have hal : (C0.map natT).length ≤ 1000000 := by rw [List.length_map]; omega
    cases hab : (a == b) with
    | true =>
      have hbn : (a != b) = false := by unfold bne; rw [hab]; rfl
      rw [hbn] at hcs
      simp only [Bool.false_eq_true, if_false, List.append_nil] at hcs
      rw [hab] at heq
      repeat refine St (And.intro hlt2 <| And.intro h1 <| And.intro h2 <| And.intro w1 <| heq) ct33 ?_
      exact ⟨⟨k + 1, by omega⟩, (Wt (And.intro hC1 <| hcs) [0, 1, 2, 3, 8, 20, 21] [0, 1, 2, 3, 4, 5, 6]), by simp only; omega⟩
    | false =>
      have hbn : (a != b) = true := by unfold bne; rw [hab]; rfl
      rw [hbn] at hcs
      simp only [if_true] at hcs
      rw [hab] at heq
      have hmm : (C0 ++ [k]).map natT = C0.map natT ++ [.int .i64 (k : Int)] := by rw [List.map_append]; rfl
      repeat refine St (And.intro hlt2 <| And.intro h1 <| And.intro h2 <| And.intro w1 <| And.intro heq <| hal) ct33 ?_
      exact ⟨⟨k + 1, by omega⟩, (Wt (And.intro hC1 <| And.intro hcs <| hmm) [0, 1, 2, 3, 8, 20, 21] [0, 1, 2, 3, 4, 5, 8]), by simp only; omega⟩
  obtain rfl : k = n := by omega
  have hlt2 : ¬ (k : Int) < (k : Int) := by omega
  have hcm : ∀ i ∈ chgN was want k, i < k := fun i hi => chgN_lt hi
  have hlb := listB_len hcl
  have hml : ((chgN was want k).map natT).length = (chgN was want k).length := List.length_map ..
  unfold turnT
  dsimp only
  generalize chgN was want k = c at *
  by_cases hc0 : c = []
  · subst hc0
    rw [if_pos rfl]
    repeat refine St hlt2 ct33 ?_
    refine AWP.weak (Weak.moveBx (v' := _) 1 4 [2] 2 _ rfl rfl rfl (by decide) (by simp only [W, eqq, ↓reduceIte, Nat.reduceEqDiff, Nat.reduceLT, Nat.reduceLeDiff, Nat.reduceAdd, Nat.reduceMul, Nat.reduceSub, Nat.reduceBEq, Int.reduceLE, Int.reduceLT, Int.reduceNeg, Int.reduceToNat, Int.reduceEq, Int.reduceBEq, Int.reduceBNe, Nat.reduceBNe, bne_self_eq_false, reduceCtorEq, gt_iff_lt, ge_iff_le]) (by simp only [W, eqq, ↓reduceIte, Nat.reduceEqDiff, Nat.reduceLT, Nat.reduceLeDiff, Nat.reduceAdd, Nat.reduceMul, Nat.reduceSub, Nat.reduceBEq, Int.reduceLE, Int.reduceLT, Int.reduceNeg, Int.reduceToNat, Int.reduceEq, Int.reduceBEq, Int.reduceBNe, Nat.reduceBNe, bne_self_eq_false, reduceCtorEq, gt_iff_lt, ge_iff_le]) (by simp only [W, eqq, ↓reduceIte, Nat.reduceEqDiff, Nat.reduceLT, Nat.reduceLeDiff, Nat.reduceAdd, Nat.reduceMul, Nat.reduceSub, Nat.reduceBEq, Int.reduceLE, Int.reduceLT, Int.reduceNeg, Int.reduceToNat, Int.reduceEq, Int.reduceBEq, Int.reduceBNe, Nat.reduceBNe, bne_self_eq_false, reduceCtorEq, gt_iff_lt, ge_iff_le]; rfl)) ?_
    exact AWP.ret (Fin (And.intro @tuN.eq_def <| @stB.eq_def) [] [0, 1, 2, 3, 4, 5, 7])
  rw [if_neg hc0]
  have hc0b : ((c.length : Int) == 0) = false := by
    rw [beq_eq_false_iff_ne]
    have : c.length ≠ 0 := fun h => hc0 (List.length_eq_zero_iff.1 h)
    omega
  have w2 : IntKind.u32.wrap (c.length : Int) = (c.length : Int) := wrap_u32 (by omega) (by omega)
  have h1 := put32_c (b := []) (c.length : Int) (by simp)
  rw [List.nil_append] at h1
  repeat refine St (And.intro hlt2 <| And.intro hml <| And.intro hc0b <| And.intro w2 <| h1) ct33 ?_
  have hfew : t.d.few t.d.s.length t.d.p.length := ⟨hg, rfl, Nat.le_refl _⟩
  refine AWP.weak (Weak.moveBx (v' := _) 1 4 [2] 2 _ rfl rfl rfl (by decide) (by simp only [W, eqq, ↓reduceIte, Nat.reduceEqDiff, Nat.reduceLT, Nat.reduceLeDiff, Nat.reduceAdd, Nat.reduceMul, Nat.reduceSub, Nat.reduceBEq, Int.reduceLE, Int.reduceLT, Int.reduceNeg, Int.reduceToNat, Int.reduceEq, Int.reduceBEq, Int.reduceBNe, Nat.reduceBNe, bne_self_eq_false, reduceCtorEq, gt_iff_lt, ge_iff_le]) (by simp only [W, eqq, ↓reduceIte, Nat.reduceEqDiff, Nat.reduceLT, Nat.reduceLeDiff, Nat.reduceAdd, Nat.reduceMul, Nat.reduceSub, Nat.reduceBEq, Int.reduceLE, Int.reduceLT, Int.reduceNeg, Int.reduceToNat, Int.reduceEq, Int.reduceBEq, Int.reduceBNe, Nat.reduceBNe, bne_self_eq_false, reduceCtorEq, gt_iff_lt, ge_iff_le]) (by simp only [W, eqq, ↓reduceIte, Nat.reduceEqDiff, Nat.reduceLT, Nat.reduceLeDiff, Nat.reduceAdd, Nat.reduceMul, Nat.reduceSub, Nat.reduceBEq, Int.reduceLE, Int.reduceLT, Int.reduceNeg, Int.reduceToNat, Int.reduceEq, Int.reduceBEq, Int.reduceBNe, Nat.reduceBNe, bne_self_eq_false, reduceCtorEq, gt_iff_lt, ge_iff_le]; rfl)) ?_
  refine AWP.loop (G := { j : Nat // j ≤ c.length }) (fun j => ⟨[(0, .ptr 0 0 []), (1, .ptr 5 0 []), (2, .t (.by was)), (3, .t (.by want)), (8, .own 6), (10, .own 7), (44, .own 6), (45, .t (.int .i64 (c.length : Int))), (46, .t (.int .i64 (j.1 : Int)))], [.bx (.st [.t (.st [.int .i64 (k : Int), .int .i64 (lstN k : Int)]), .ptr 1 0 [], .t (.by img), .t (.bool br)]), .bx (.st [.own 2, .own 3, .own 8, .t (.int .i64 ((oldN k was 0 (c.take j.1) t).d.l)), .t (.bool ((oldN k was 0 (c.take j.1) t).d.off))]), .sq 128 (((oldN k was 0 (c.take j.1) t).d.s).map (T.ba 128)), .sq 128 ((layP ((oldN k was 0 (c.take j.1) t).d.s) ((oldN k was 0 (c.take j.1) t).d.p)).map (T.ba 128)), .no, .bx (.st [.ptr 1 0 [], .t (.int .i64 ((oldN k was 0 (c.take j.1) t).e))]), .sq 1 (c.map natT), .by (le 4 (c.length : Int) ++ flN (c.take j.1)), .sq 129 (((oldN k was 0 (c.take j.1) t).d.p).map pnd1)]⟩) (fun j => c.length - j.1) ⟨0, by omega⟩ (Wt (And.intro @List.take_zero.{0} <| And.intro (And.intro @oldN.eq_1 <| @oldN.eq_2) <| And.intro @flN_nil <| @List.append_nil.{0}) [0, 1, 2, 3, 8, 10, 44, 45, 46] [0, 1, 2, 3, 4, 5, 6, 7, 8]) ?_
  rintro ⟨j, hj⟩
  dsimp only
  have hfk := oldN_few (n := k) (was := was) (c.take j) 0 t.d.p.length t hfew (by rw [List.length_take]; omega)
  rw [List.length_take] at hfk
  have hfl := flN_len (c.take j)
  rw [List.length_take] at hfl
  by_cases hlj : j < c.length
  · have hlj2 : (j : Int) < (c.length : Int) := by omega
    have hxn := hcm (c.getD j 0) (by rw [List.getD_eq_getElem?_getD]; simp [hlj])
    have hget : (c.map natT).getD j default = .int .i64 ((c.getD j 0 : Nat) : Int) := by simp [hlj, natT]
    have htk : c.take (j + 1) = c.take j ++ [c.getD j 0] := by
      rw [List.take_succ_eq_append_getElem hlj, List.getD_eq_getElem?_getD]; simp [hlj]
    have hsn := oldN_snoc k was (c.getD j 0) (c.take j) 0 t
    have hfs := flN_snoc (c.take j) (c.getD j 0)
    rw [← htk, List.length_take, show 0 + min j c.length = j by omega] at hsn
    rw [← htk] at hfs
    generalize hT1 : oldN k was 0 (c.take (j + 1)) t = T1 at *
    generalize oldN k was 0 (c.take j) t = T0 at *
    generalize c.getD j 0 = x at *
    have g2 := back_c (n := k) (m := lstN k) (i := j) (by omega) (by omega) (by omega)
    have g3 := part_sc (b := was) (i := x) (by omega) (by omega)
    have hpl : (partB was x).length = 128 := partB_len (by omega)
    have g4 := put_tc T0 ((1 + lstN k + k + j : Nat) : Int) (partB was x) hfk.g (by have := hfk.p; omega) (by omega)
    have g5 := put32_c (b := le 4 (c.length : Int) ++ flN (c.take j)) (x : Int) (by simp [le_len]; omega)
    have w3 : IntKind.u32.wrap (x : Int) = (x : Int) := wrap_u32 (by omega) (by omega)
    have w4 : IntKind.i64.wrap ((j : Int) + 1) = ((j + 1 : Nat) : Int) := by rw [wrap_i64 (by omega) (by omega)]; omega
    rw [← hsn] at g4
    generalize ((1 + lstN k + k + j : Nat) : Int) = I1 at *
    generalize partB was x = P at *
    repeat refine St (And.intro hlj <| And.intro hlj2 <| And.intro hml <| And.intro hget <| And.intro g2 <| And.intro g3 <| And.intro g4 <| And.intro g5 <| And.intro w3 <| And.intro w4 <| And.intro @tpN.eq_def <| And.intro @cleanL_sect <| @cleanL_pnd) ct33 ?_
    exact ⟨⟨j + 1, by omega⟩, (Wt (And.intro hT1 <| And.intro hfs <| @List.append_assoc.{0}) [0, 1, 2, 3, 8, 10, 44, 45, 46] [0, 1, 2, 3, 4, 5, 6, 10, 9]), by simp only; omega⟩
  obtain rfl : j = c.length := by omega
  have hlj2 : ¬ (c.length : Int) < (c.length : Int) := by omega
  rw [List.take_length] at hfk hfl ⊢
  have hLB : listB k c = (le 4 (c.length : Int) ++ flN c) ++ List.replicate (lstN k * 128 - (le 4 (c.length : Int) ++ flN c).length) 0 := rfl
  have hl4 := le_len 4 (c.length : Int)
  have hLl : (le 4 (c.length : Int) ++ flN c).length = 4 + 4 * c.length := by rw [List.length_append, hl4]; omega
  have hfit : 4 + 4 * c.length ≤ lstN k * 128 := by unfold lstN; omega
  generalize oldN k was 0 c t = T0 at *
  generalize le 4 (c.length : Int) ++ flN c = LB at *
  have w5 : IntKind.i64.wrap ((lstN k : Int) * 128) = ((lstN k * 128 : Nat) : Int) := by rw [wrap_i64 (by omega) (by omega)]; omega
  have w6 : IntKind.i64.wrap (((lstN k * 128 : Nat) : Int) - (LB.length : Int)) = ((lstN k * 128 - LB.length : Nat) : Int) := by rw [wrap_i64 (by omega) (by omega)]; omega
  repeat refine St (And.intro hlj2 <| And.intro w5 <| And.intro w6 <| And.intro @aAppendZ.eq_def <| hLl) ct33 ?_
  have hLB2 : LB ++ List.replicate (((lstN k * 128 : Nat) : Int) - ((4 + 4 * c.length : Nat) : Int)).toNat (0 : UInt8) = listB k c := by
    rw [hLB, hLl]
    congr 2
    omega
  generalize listB k c = B at *
  refine AWP.weak (S' := ⟨[(0, .ptr 0 0 []), (1, .ptr 5 0 []), (2, .t (.by was)), (3, .t (.by want)), (8, .own 6), (10, .own 8), (82, .t (.int .i64 (lstN k : Int))), (83, .t (.int .i64 0))], [.bx (.st [.t (.st [.int .i64 (k : Int), .int .i64 (lstN k : Int)]), .ptr 1 0 [], .t (.by img), .t (.bool br)]), .bx (.st [.own 2, .own 3, .own 7, .t (.int .i64 (T0.d.l)), .t (.bool (T0.d.off))]), .sq 128 ((T0.d.s).map (T.ba 128)), .sq 128 ((layP (T0.d.s) (T0.d.p)).map (T.ba 128)), .no, .bx (.st [.ptr 1 0 [], .t (.int .i64 (T0.e))]), .sq 1 (c.map natT), .sq 129 ((T0.d.p).map pnd1), .by B]⟩) (Wt hLB2 [0, 1, 2, 3, 8, 10, 82, 83] [0, 1, 2, 3, 4, 5, 6, 8, 9]) ?_
  refine AWP.weak (Weak.freeze 8) ?_
  refine AWP.weak (Weak.thawS (y := .by B) 10 rfl) ?_
  have hf0 : T0.d.few t.d.s.length (t.d.p.length + min c.length c.length) := hfk
  rw [Nat.min_self] at hf0
  clear hLB hLB2 hlj2 hfl hLl w6 hfk
  refine AWP.loop (G := { i : Nat // i ≤ lstN k }) (fun i => ⟨[(0, .ptr 0 0 []), (1, .ptr 5 0 []), (2, .t (.by was)), (3, .t (.by want)), (8, .own 6), (10, .t (.by B)), (82, .t (.int .i64 (lstN k : Int))), (83, .t (.int .i64 (i.1 : Int)))], [.bx (.st [.t (.st [.int .i64 (k : Int), .int .i64 (lstN k : Int)]), .ptr 1 0 [], .t (.by img), .t (.bool br)]), .bx (.st [.own 2, .own 3, .own 7, .t (.int .i64 ((lsN B i.1 0 T0).d.l)), .t (.bool ((lsN B i.1 0 T0).d.off))]), .sq 128 (((lsN B i.1 0 T0).d.s).map (T.ba 128)), .sq 128 ((layP ((lsN B i.1 0 T0).d.s) ((lsN B i.1 0 T0).d.p)).map (T.ba 128)), .no, .bx (.st [.ptr 1 0 [], .t (.int .i64 ((lsN B i.1 0 T0).e))]), .sq 1 (c.map natT), .sq 129 (((lsN B i.1 0 T0).d.p).map pnd1)]⟩) (fun i => lstN k - i.1) ⟨0, by omega⟩ (Wt (And.intro @freezeOne.eq_def <| (And.intro @lsN.eq_1 <| @lsN.eq_2)) [0, 1, 2, 3, 8, 10, 82, 83] [0, 1, 2, 3, 4, 5, 6, 7]) ?_
  rintro ⟨i, hi⟩
  dsimp only
  have hfk := lsN_few (b := B) i 0 (t.d.p.length + c.length) T0 hf0 (by omega)
  by_cases hli : i < lstN k
  · have hli2 : (i : Int) < (lstN k : Int) := by omega
    have hsn := lsN_snoc B i 0 T0
    rw [Nat.zero_add] at hsn
    generalize hT1 : lsN B (i + 1) 0 T0 = T1 at *
    generalize lsN B i 0 T0 = T2 at *
    have g3 := part_sc (b := B) (i := i) (by omega) (by omega)
    have hpl : (partB B i).length = 128 := partB_len (by omega)
    have g4 := put_tc T2 ((1 + i : Nat) : Int) (partB B i) hfk.g (by have := hfk.p; omega) (by omega)
    have w3 : IntKind.i64.wrap (1 + (i : Int)) = ((1 + i : Nat) : Int) := by rw [wrap_i64 (by omega) (by omega)]; omega
    have w4 : IntKind.i64.wrap ((i : Int) + 1) = ((i + 1 : Nat) : Int) := by rw [wrap_i64 (by omega) (by omega)]; omega
    rw [← hsn] at g4
    generalize ((1 + i : Nat) : Int) = I1 at *
    generalize partB B i = P at *
    repeat refine St (And.intro hli2 <| And.intro g3 <| And.intro g4 <| And.intro w3 <| And.intro w4 <| And.intro @tpN.eq_def <| And.intro @cleanL_sect <| @cleanL_pnd) ct33 ?_
    exact ⟨⟨i + 1, by omega⟩, (Wt hT1 [0, 1, 2, 3, 8, 10, 82, 83] [0, 1, 2, 3, 4, 5, 6, 8]), by simp only; omega⟩
  obtain rfl : i = lstN k := by omega
  have hli2 : ¬ (lstN k : Int) < (lstN k : Int) := by omega
  generalize lsN B (lstN k) 0 T0 = T3 at *
  have g1 := sync_tc T3 hfk.g
  have hf4 := syncT_few (t := T3) hfk
  generalize syncT T3 = T4 at *
  have g2 := flag_tc T4 1 hf4.g (by have := hf4.p; omega)
  rw [show UInt8.ofNat (1 : Int).toNat = 1 from rfl] at g2
  have hf5 := flagT_few (t := T4) (on := 1) hf4 (by omega)
  generalize flagT T4 1 = T5 at *
  repeat refine St (And.intro hli2 <| And.intro g1 <| And.intro g2 <| And.intro hml <| And.intro @tpN.eq_def <| And.intro @cleanL_sect <| @cleanL_pnd) ct33 ?_
  clear g1 g2 hf4 hfk hf0
  refine AWP.loop (G := { j : Nat // j ≤ c.length }) (fun j => ⟨[(0, .ptr 0 0 []), (1, .ptr 5 0 []), (2, .t (.by was)), (3, .t (.by want)), (8, .own 6), (98, .own 6), (99, .t (.int .i64 (c.length : Int))), (100, .t (.int .i64 (j.1 : Int)))], [.bx (.st [.t (.st [.int .i64 (k : Int), .int .i64 (lstN k : Int)]), .ptr 1 0 [], .t (.by img), .t (.bool br)]), .bx (.st [.own 2, .own 3, .own 7, .t (.int .i64 ((newN k want (c.take j.1) T5).d.l)), .t (.bool ((newN k want (c.take j.1) T5).d.off))]), .sq 128 (((newN k want (c.take j.1) T5).d.s).map (T.ba 128)), .sq 128 ((layP ((newN k want (c.take j.1) T5).d.s) ((newN k want (c.take j.1) T5).d.p)).map (T.ba 128)), .no, .bx (.st [.ptr 1 0 [], .t (.int .i64 ((newN k want (c.take j.1) T5).e))]), .sq 1 (c.map natT), .sq 129 (((newN k want (c.take j.1) T5).d.p).map pnd1)]⟩) (fun j => c.length - j.1) ⟨0, by omega⟩ (Wt (And.intro @List.take_zero.{0} <| (And.intro @newN.eq_1 <| @newN.eq_2)) [0, 1, 2, 3, 8, 98, 99, 100] [0, 1, 2, 3, 4, 5, 6, 9]) ?_
  rintro ⟨j, hj⟩
  dsimp only
  have hfk := newN_few (n := k) (want := want) (c.take j) _ T5 hf5 (by rw [List.length_take]; omega)
  rw [List.length_take] at hfk
  by_cases hlj : j < c.length
  · have hlj2 : (j : Int) < (c.length : Int) := by omega
    have hxn := hcm (c.getD j 0) (by rw [List.getD_eq_getElem?_getD]; simp [hlj])
    have hget : (c.map natT).getD j default = .int .i64 ((c.getD j 0 : Nat) : Int) := by simp [hlj, natT]
    have htk : c.take (j + 1) = c.take j ++ [c.getD j 0] := by
      rw [List.take_succ_eq_append_getElem hlj, List.getD_eq_getElem?_getD]; simp [hlj]
    have hsn := newN_snoc k want (c.getD j 0) (c.take j) T5
    rw [← htk] at hsn
    generalize hT1 : newN k want (c.take (j + 1)) T5 = T1 at *
    generalize newN k want (c.take j) T5 = T2 at *
    generalize c.getD j 0 = x at *
    have g2 := slot_c (n := k) (m := lstN k) (i := x) (by omega) (by omega)
    have g3 := part_sc (b := want) (i := x) (by omega) (by omega)
    have hpl : (partB want x).length = 128 := partB_len (by omega)
    have g4 := put_tc T2 ((1 + lstN k + x : Nat) : Int) (partB want x) hfk.g (by have := hfk.p; omega) (by omega)
    have w4 : IntKind.i64.wrap ((j : Int) + 1) = ((j + 1 : Nat) : Int) := by rw [wrap_i64 (by omega) (by omega)]; omega
    rw [← hsn] at g4
    generalize ((1 + lstN k + x : Nat) : Int) = I1 at *
    generalize partB want x = P at *
    repeat refine St (And.intro hlj <| And.intro hlj2 <| And.intro hml <| And.intro hget <| And.intro g2 <| And.intro g3 <| And.intro g4 <| And.intro w4 <| And.intro @tpN.eq_def <| And.intro @cleanL_sect <| @cleanL_pnd) ct33 ?_
    exact ⟨⟨j + 1, by omega⟩, (Wt hT1 [0, 1, 2, 3, 8, 98, 99, 100] [0, 1, 2, 3, 4, 5, 6, 8]), by simp only; omega⟩
  obtain rfl : j = c.length := by omega
  have hlj2 : ¬ (c.length : Int) < (c.length : Int) := by omega
  rw [List.take_length] at hfk ⊢
  generalize newN k want c T5 = T6 at *
  have g1 := sync_tc T6 hfk.g
  have hf7 := syncT_few (t := T6) hfk
  generalize syncT T6 = T7 at *
  have g2 := flag_tc T7 0 hf7.g (by have := hf7.p; omega)
  rw [show UInt8.ofNat (0 : Int).toNat = 0 from rfl] at g2
  generalize flagT T7 0 = T8 at *
  repeat refine St (And.intro hlj2 <| And.intro g1 <| And.intro g2 <| And.intro @tpN.eq_def <| And.intro @cleanL_sect <| @cleanL_pnd) ct33 ?_
  exact Fin (And.intro @tuN.eq_def <| @stB.eq_def) [] [0, 1, 2, 3, 4, 5, 9]

end Go.Fw

end

section
/- store: an image saved. -/
namespace Go.Fw
open Go Go.Proofs
set_option linter.unusedVariables false
set_option linter.unusedSimpArgs false

theorem turn_c (s : SS) (t : TP) (was want : List UInt8) (hn : s.n ≤ 8192) (h1 : was.length = s.n * 128) (h2 : want.length = s.n * 128) (hg : t.d.good = true) (hp : t.d.p.length ≤ 60000) :
    G33 [.bx (.st [.t (.st [.int .i64 (s.n : Int), .int .i64 (lstN s.n : Int)]), .ptr 1 0 [], .t (.by s.img), .t (.bool s.broken)]), .bx (.st [.own 2, .own 3, .own 4, .t (.int .i64 (t.d.l)), .t (.bool (t.d.off))]), .sq 128 ((t.d.s).map (T.ba 128)), .sq 128 ((layP (t.d.s) (t.d.p)).map (T.ba 128)), .sq 129 ((t.d.p).map pnd1), .bx (.st [.ptr 1 0 [], .t (.int .i64 (t.e))])] [.ptr 0 0 [], .ptr 5 0 [], .t (.by was), .t (.by want)] = some (tuN (s, turnT s.n was want t), .tup []) := by
  show G33 (tuH (s, t)) _ = _
  simp only [G33, inv_of tuH_inj]
  exact if_pos ⟨⟨hn, h1, h2⟩, hg, hp⟩

/-- A store's blocks behind a save. -/
def stN (x : SS × RD) : List Blk := [stB x.1 1, .bx (.st [.own 2, .own 3, .own 5, .t (.int .i64 (x.2.l)), .t (.bool (x.2.off))]), .sq 128 ((x.2.s).map (T.ba 128)), .sq 128 ((layP (x.2.s) (x.2.p)).map (T.ba 128)), .no, .sq 129 ((x.2.p).map pnd1)]
noncomputable def G10 : GFun
  | [], [.t .nilp, .t (.by b)] => some ([], .t (.int .i64 1))
  | HB, [.ptr 0 0 [], .t (.by b)] => match inv stH HB with
    | some x => @ite _ (((x.1.n ≤ 8192 ∧ b.length ≤ 100000000) ∧ x.2.good = true ∧ x.2.p.length ≤ 60000)) (Classical.propDecidable _) ((some (stN ((saveS x.1 x.2 b).1, (saveS x.1 x.2 b).2.1), .t (.int .i64 (saveS x.1 x.2 b).2.2)))) none
    | none => none
  | _, _ => none

theorem ct10 : CT [(30, ⟨[false], treeG F30⟩), (31, ⟨[true, false, false], G31⟩), (32, ⟨[false, false], treeG F32⟩), (33, ⟨[true, true, false, false], G33⟩), (34, ⟨[true, false], G34⟩), (35, ⟨[false], treeG F35⟩)] [0, 1, 4, 5, 6, 7, 10, 19, 46, 58] [(8, [⟨0, [5], [], []⟩, ⟨0, [0], [], []⟩, ⟨0, [31], [], []⟩, ⟨0, [32], [], []⟩, ⟨1, [33], [], []⟩, ⟨1, [34], [4], []⟩, ⟨0, [0], [], []⟩, ⟨0, [36], [], []⟩, ⟨0, [37], [], []⟩, ⟨0, [38], [], []⟩, ⟨1, [39], [], []⟩, ⟨2, [30, 35, 40], [4, 5, 10], []⟩, ⟨0, [41], [4, 5, 10, 11], []⟩])] := ⟨(.cons c30.g (.cons g31 (.cons c32.g (.cons g33 (.cons g34 (.cons c35.g (.nil _)))))))⟩

set_option maxRecDepth 4000 in
set_option maxHeartbeats 8000000 in
theorem g10 : GCon Try.prog 10 G10 := by
  refine gconc E_ok (rs := [.tmp 4 28]) Try.func10 rfl Try.ntmps10 (by kernel_rfl) rfl (by decide) G10 (np := 2) ?_ ?_
  · intro HB xs h; unfold G10; split <;> first | rfl | (simp at h; done)
  intro HB xs H r hG hwf hex
  unfold G10 at hG
  split at hG <;> try (cases hG; done)
  · cases hG
    repeat refine St (And.intro @gentry.eq_1 <| @gentry.eq_2) ct10 ?_
    exact AWP.ret (Fin trivial [] [])
  rename_i b
  split at hG <;> try (cases hG; done)
  rename_i x hx
  split at hG
  case isFalse => cases hG
  rename_i hc
  cases hG
  obtain rfl := inv_inv hx
  clear hx hex hwf
  obtain ⟨⟨n, img, br⟩, d⟩ := x
  obtain ⟨⟨hn, hb⟩, hg, hp⟩ := hc
  dsimp only at hn hg hp ⊢
  have hll := lstN_le n
  have hr := room_c (n := n) (m := (lstN n : Int)) (by omega)
  have hrn : roomN n = (n : Int) * 128 - 4 := rfl
  unfold saveS
  dsimp only
  simp only [stH, stB]
  by_cases h1 : roomN n < (b.length : Int)
  · rw [if_pos h1]
    generalize roomN n = R at *
    repeat refine St (And.intro (And.intro @gentry.eq_1 <| @gentry.eq_2) <| And.intro hr <| h1) ct10 ?_
    refine AWP.weak (Weak.moveBx (v' := _) 1 4 [2] 2 _ rfl rfl rfl (by decide) (by simp only [W, eqq, ↓reduceIte, Nat.reduceEqDiff, Nat.reduceLT, Nat.reduceLeDiff, Nat.reduceAdd, Nat.reduceMul, Nat.reduceSub, Nat.reduceBEq, Int.reduceLE, Int.reduceLT, Int.reduceNeg, Int.reduceToNat, Int.reduceEq, Int.reduceBEq, Int.reduceBNe, Nat.reduceBNe, bne_self_eq_false, reduceCtorEq, gt_iff_lt, ge_iff_le]) (by simp only [W, eqq, ↓reduceIte, Nat.reduceEqDiff, Nat.reduceLT, Nat.reduceLeDiff, Nat.reduceAdd, Nat.reduceMul, Nat.reduceSub, Nat.reduceBEq, Int.reduceLE, Int.reduceLT, Int.reduceNeg, Int.reduceToNat, Int.reduceEq, Int.reduceBEq, Int.reduceBNe, Nat.reduceBNe, bne_self_eq_false, reduceCtorEq, gt_iff_lt, ge_iff_le]) (by simp only [W, eqq, ↓reduceIte, Nat.reduceEqDiff, Nat.reduceLT, Nat.reduceLeDiff, Nat.reduceAdd, Nat.reduceMul, Nat.reduceSub, Nat.reduceBEq, Int.reduceLE, Int.reduceLT, Int.reduceNeg, Int.reduceToNat, Int.reduceEq, Int.reduceBEq, Int.reduceBNe, Nat.reduceBNe, bne_self_eq_false, reduceCtorEq, gt_iff_lt, ge_iff_le]; rfl)) ?_
    exact AWP.ret (Fin (And.intro @stN.eq_def <| @stB.eq_def) [] [0, 1, 2, 3, 4, 5])
  rw [if_neg h1]
  cases br with
  | true =>
    rw [if_pos rfl]
    generalize roomN n = R at *
    repeat refine St (And.intro (And.intro @gentry.eq_1 <| @gentry.eq_2) <| And.intro hr <| h1) ct10 ?_
    refine AWP.weak (Weak.moveBx (v' := _) 1 4 [2] 2 _ rfl rfl rfl (by decide) (by simp only [W, eqq, ↓reduceIte, Nat.reduceEqDiff, Nat.reduceLT, Nat.reduceLeDiff, Nat.reduceAdd, Nat.reduceMul, Nat.reduceSub, Nat.reduceBEq, Int.reduceLE, Int.reduceLT, Int.reduceNeg, Int.reduceToNat, Int.reduceEq, Int.reduceBEq, Int.reduceBNe, Nat.reduceBNe, bne_self_eq_false, reduceCtorEq, gt_iff_lt, ge_iff_le]) (by simp only [W, eqq, ↓reduceIte, Nat.reduceEqDiff, Nat.reduceLT, Nat.reduceLeDiff, Nat.reduceAdd, Nat.reduceMul, Nat.reduceSub, Nat.reduceBEq, Int.reduceLE, Int.reduceLT, Int.reduceNeg, Int.reduceToNat, Int.reduceEq, Int.reduceBEq, Int.reduceBNe, Nat.reduceBNe, bne_self_eq_false, reduceCtorEq, gt_iff_lt, ge_iff_le]) (by simp only [W, eqq, ↓reduceIte, Nat.reduceEqDiff, Nat.reduceLT, Nat.reduceLeDiff, Nat.reduceAdd, Nat.reduceMul, Nat.reduceSub, Nat.reduceBEq, Int.reduceLE, Int.reduceLT, Int.reduceNeg, Int.reduceToNat, Int.reduceEq, Int.reduceBEq, Int.reduceBNe, Nat.reduceBNe, bne_self_eq_false, reduceCtorEq, gt_iff_lt, ge_iff_le]; rfl)) ?_
    exact AWP.ret (Fin (And.intro @stN.eq_def <| @stB.eq_def) [] [0, 1, 2, 3, 4, 5])
  | false =>
    rw [if_neg (by simp)]
    have hbn : b.length + 4 ≤ n * 128 := by omega
    have g1 := slot_c (n := n) (m := lstN n) (i := 0) (by omega) (by omega)
    rw [show ((0 : Nat) : Int) = 0 from rfl, show ((1 + lstN n + 0 : Nat) : Int) = ((1 + lstN n : Nat) : Int) from rfl] at g1
    have g2 := get_tc ⟨d, 0⟩ ((1 + lstN n : Nat) : Int) n hg ⟨by omega, by omega⟩ (by omega)
    have hwl := (getT_len hg n ((1 + lstN n : Nat) : Int) 0).2
    dsimp only at g2
    simp only [tpH] at g2
    generalize getT n ((1 + lstN n : Nat) : Int) d 0 = X at *
    obtain ⟨w, e1⟩ := X
    dsimp only at g2 hwl ⊢
    generalize ((1 + lstN n : Nat) : Int) = I1 at *
    by_cases he1 : e1 = 0
    case neg =>
      have hb1 : (e1 == 0) = false := by rw [beq_eq_false_iff_ne]; exact he1
      have hb2 : (e1 != 0) = true := by rw [bne_iff_ne]; exact he1
      rw [if_neg he1]
      dsimp only
      rw [if_pos he1]
      generalize roomN n = R at *
      repeat refine St (And.intro (And.intro @gentry.eq_1 <| @gentry.eq_2) <| And.intro hr <| And.intro h1 <| And.intro g1 <| And.intro g2 <| And.intro hb1 <| hb2) ct10 ?_
      refine AWP.weak (Weak.moveBx (v' := _) 1 4 [2] 2 _ rfl rfl rfl (by decide) (by simp only [W, eqq, ↓reduceIte, Nat.reduceEqDiff, Nat.reduceLT, Nat.reduceLeDiff, Nat.reduceAdd, Nat.reduceMul, Nat.reduceSub, Nat.reduceBEq, Int.reduceLE, Int.reduceLT, Int.reduceNeg, Int.reduceToNat, Int.reduceEq, Int.reduceBEq, Int.reduceBNe, Nat.reduceBNe, bne_self_eq_false, reduceCtorEq, gt_iff_lt, ge_iff_le]) (by simp only [W, eqq, ↓reduceIte, Nat.reduceEqDiff, Nat.reduceLT, Nat.reduceLeDiff, Nat.reduceAdd, Nat.reduceMul, Nat.reduceSub, Nat.reduceBEq, Int.reduceLE, Int.reduceLT, Int.reduceNeg, Int.reduceToNat, Int.reduceEq, Int.reduceBEq, Int.reduceBNe, Nat.reduceBNe, bne_self_eq_false, reduceCtorEq, gt_iff_lt, ge_iff_le]) (by simp only [W, eqq, ↓reduceIte, Nat.reduceEqDiff, Nat.reduceLT, Nat.reduceLeDiff, Nat.reduceAdd, Nat.reduceMul, Nat.reduceSub, Nat.reduceBEq, Int.reduceLE, Int.reduceLT, Int.reduceNeg, Int.reduceToNat, Int.reduceEq, Int.reduceBEq, Int.reduceBNe, Nat.reduceBNe, bne_self_eq_false, reduceCtorEq, gt_iff_lt, ge_iff_le]; rfl)) ?_
      exact AWP.ret (Fin (And.intro @stN.eq_def <| @stB.eq_def) [] [0, 1, 2, 3, 4, 6])
    subst he1
    have hwl2 : w.length = n * 128 := by have := hwl rfl; omega
    rw [if_pos rfl]
    have g3 := spread_c ⟨n, img, false⟩ d b hn hbn
    have g4 := turn_c ⟨n, img, false⟩ ⟨d, 0⟩ w (spreadB n b) hn hwl2 (spreadB_len hbn) hg hp
    have g5 := sclone_c (b := b) (by omega)
    dsimp only at g3 g4
    simp only [stH, stB] at g3
    generalize spreadB n b = sp at *
    generalize turnT n w sp ⟨d, 0⟩ = T0 at *
    generalize roomN n = R at *
    by_cases he : T0.e = 0
    · have hb2 : (T0.e != 0) = false := by rw [bne_eq_false_iff_eq]; exact he
      rw [if_neg (by simpa using he)]
      repeat refine St (And.intro (And.intro @gentry.eq_1 <| @gentry.eq_2) <| And.intro hr <| And.intro h1 <| And.intro g1 <| And.intro g2 <| And.intro g3 <| And.intro g4 <| And.intro @tuN.eq_def <| And.intro @stB.eq_def <| And.intro hb2 <| g5) ct10 ?_
      exact AWP.ret (Fin (And.intro @stN.eq_def <| @stB.eq_def) [] [0, 1, 2, 3, 4, 6])
    · have hb2 : (T0.e != 0) = true := by rw [bne_iff_ne]; exact he
      rw [if_pos he]
      repeat refine St (And.intro (And.intro @gentry.eq_1 <| @gentry.eq_2) <| And.intro hr <| And.intro h1 <| And.intro g1 <| And.intro g2 <| And.intro g3 <| And.intro g4 <| And.intro @tuN.eq_def <| And.intro @stB.eq_def <| hb2) ct10 ?_
      exact AWP.ret (Fin (And.intro @stN.eq_def <| @stB.eq_def) [] [0, 1, 2, 3, 4, 6])

theorem save_c (s : SS) (d : RD) (b : List UInt8) (hn : s.n ≤ 8192) (hb : b.length ≤ 100000000) (hg : d.good = true) (hp : d.p.length ≤ 60000) :
    G10 [.bx (.st [.t (.st [.int .i64 (s.n : Int), .int .i64 (lstN s.n : Int)]), .ptr 1 0 [], .t (.by s.img), .t (.bool s.broken)]), .bx (.st [.own 2, .own 3, .own 4, .t (.int .i64 (d.l)), .t (.bool (d.off))]), .sq 128 ((d.s).map (T.ba 128)), .sq 128 ((layP (d.s) (d.p)).map (T.ba 128)), .sq 129 ((d.p).map pnd1)] [.ptr 0 0 [], .t (.by b)] = some (stN ((saveS s d b).1, (saveS s d b).2.1), .t (.int .i64 (saveS s d b).2.2)) := by
  show G10 (stH (s, d)) _ = _
  simp only [G10, inv_of stH_inj]
  exact if_pos ⟨⟨hn, hb⟩, hg, hp⟩

end Go.Fw

end

section
/- Chapter 28: a store made, the live question. -/
namespace Go.Fw
open Go Go.Proofs
set_option linter.unusedVariables false
set_option linter.unusedSimpArgs false

noncomputable def F8 : Fun
  | [.int .i64 n] => @ite _ (((1 ≤ n ∧ n ≤ 8192) ∧ 0 < slots n.toNat)) (Classical.propDecidable _) ((some (dH (newD n.toNat) ++ [stB ⟨slots n.toNat, [], false⟩ 0], .tup [.ptr 0 0 [], .ptr 4 0 [], .t (.bool true)]))) none
  | _ => none

theorem ct8 : CT [(11, ⟨[true], G11⟩), (14, ⟨[false], treeG F14⟩)] [0, 2, 3, 4, 5, 6, 7, 8] [] := ⟨(.cons g11 (.cons c14.g (.nil _)))⟩

theorem newdisk_c {n : Nat} (h1 : 1 ≤ n) (h2 : n ≤ 8192) : F14 [.int .i64 (n : Int)] = some (dH (newD n), .tup [.ptr 0 0 [], .t (.int .i64 0)]) := by
  simp only [F14]
  rw [if_neg (by omega), Int.toNat_natCast]

set_option maxHeartbeats 2000000 in
theorem c8 : ACon Try.prog 8 F8 := by
  refine aconc E_ok (rs := [.tmp 2 22, .tmp 3 23, .tmp 4 4]) Try.func8 rfl Try.ntmps8 (by kernel_rfl) rfl (by decide) F8 (np := 1) ?_ ?_
  · intro ts h; unfold F8; split <;> first | rfl | (simp at h; done)
  intro ts H r hF hwf
  unfold F8 at hF
  split at hF <;> try (cases hF; done)
  rename_i n
  split at hF
  case isFalse => cases hF
  rename_i hc
  cases hF
  obtain ⟨⟨h0, h1⟩, h2⟩ := hc
  obtain ⟨w, rfl⟩ : ∃ k : Nat, n = (k : Int) := ⟨n.toNat, by omega⟩
  rw [Int.toNat_natCast] at h2 ⊢
  have hw := newD_well (n := w) (by omega)
  have ho := newD_open (w := w) (by omega) rfl h2
  have hd := newdisk_c (n := w) (by omega) (by omega)
  have h3 := open_c (newD w) hw.f.g (by show (0 : Nat) ≤ 90000; omega) (by have := hw.f.w; dsimp only at this; omega)
  rw [ho] at h3
  simp only [openB] at h3
  generalize slots w = n at *
  generalize newD w = D at *
  repeat refine St (And.intro hd <| And.intro h3 <| And.intro @dH.eq_def <| And.intro @dN.eq_def <| And.intro @stB.eq_def <| And.intro @List.cons_append.{0} <| @List.nil_append.{0}) ct8 ?_
  exact AWP.ret (Fin (And.intro @dH.eq_def <| And.intro @stB.eq_def <| And.intro @List.cons_append.{0} <| @List.nil_append.{0}) [] [0, 1, 2, 4, 5])

theorem made_c {w n : Nat} (h1 : 1 ≤ w) (h2 : w ≤ 8192) (hn : slots w = n) (h3 : 0 < n) : F8 [.int .i64 (w : Int)] = some (dH (newD w) ++ [stB ⟨n, [], false⟩ 0], .tup [.ptr 0 0 [], .ptr 4 0 [], .t (.bool true)]) := by
  simp only [F8]
  rw [if_pos ⟨⟨by omega, by omega⟩, by rw [Int.toNat_natCast, hn]; exact h3⟩, Int.toNat_natCast, hn]

end Go.Fw

end

section
/- Chapter 28: the live question. -/
namespace Go.Fw
open Go Go.Proofs
set_option linter.unusedVariables false
set_option linter.unusedSimpArgs false

theorem room_stc (s : SS) (d : RD) (h : s.n ≤ 1000000) : G9 [.bx (.st [.t (.st [.int .i64 (s.n : Int), .int .i64 (lstN s.n : Int)]), .ptr 1 0 [], .t (.by s.img), .t (.bool s.broken)]), .bx (.st [.own 2, .own 3, .own 4, .t (.int .i64 (d.l)), .t (.bool (d.off))]), .sq 128 ((d.s).map (T.ba 128)), .sq 128 ((layP (d.s) (d.p)).map (T.ba 128)), .sq 129 ((d.p).map pnd1)] [.ptr 0 0 []] = some (stH (s, d), .t (.int .i64 (roomN s.n))) := by
  show G9 (stH (s, d)) _ = _
  simp only [G9, inv_of stH_inj]
  exact if_pos h
theorem load_stc (s : SS) (d : RD) (h : s.img.length ≤ 549755813000) : G13 [.bx (.st [.t (.st [.int .i64 (s.n : Int), .int .i64 (lstN s.n : Int)]), .ptr 1 0 [], .t (.by s.img), .t (.bool s.broken)]), .bx (.st [.own 2, .own 3, .own 4, .t (.int .i64 (d.l)), .t (.bool (d.off))]), .sq 128 ((d.s).map (T.ba 128)), .sq 128 ((layP (d.s) (d.p)).map (T.ba 128)), .sq 129 ((d.p).map pnd1)] [.ptr 0 0 []] = some (stH (s, d), .t (.by s.img)) := by
  show G13 (stH (s, d)) _ = _
  simp only [G13, inv_of stH_inj]
  exact if_pos h

/-- A store is opened behind a crash, where nothing was pending. -/
theorem crash_open {d : RD} {w m n : Nat} {b : List UInt8} (h : Well ⟨d, 0⟩ w m) (hp : d.p = []) (hn : slots w = n) (hn0 : 0 < n) (hn1 : n ≤ 1000000) (hh : Holds d n (spreadB n b)) (hb : ¬ roomN n < (b.length : Int)) :
    Well ⟨crR d [], 0⟩ w 0 ∧ openS (crR d []) = (some ⟨n, b, false⟩, crR d [], 0) := by
  have hc : crR d [] = ⟨d.s, [], -1, false⟩ := by unfold crR; rw [hp]; rfl
  rw [hc]
  have hok := RD.ok_iff.1 (good_iff.1 h.f.g).1
  have hw : d.s.length = w := h.f.w
  have h2 : Well ⟨⟨d.s, [], -1, false⟩, 0⟩ w 0 := by
    refine ⟨⟨good_iff.2 ⟨RD.ok_iff.2 ⟨rfl, hok.2.1, rfl, hok.2.2.2.1, Nat.zero_le _⟩, (fun h => by cases h), by show (-9223372036854775808 : Int) ≤ -1; omega, by show (-1 : Int) ≤ 9223372036854775807; omega⟩, hw, Nat.le_refl _⟩, rfl, rfl, by show (-1 : Int) < 0; omega⟩
  have hnw : NW (⟨d.s, [], -1, false⟩ : RD) = NW d := by rw [NW_nil hp]; rfl
  have hh2 : Holds ⟨d.s, [], -1, false⟩ n (spreadB n b) := ⟨by rw [hnw]; exact hh.flag, fun i hi => by rw [hnw]; exact hh.slot i hi⟩
  have hbl : b.length + 4 ≤ n * 128 := by unfold roomN at hb; omega
  obtain ⟨s1, s2⟩ := spread_num (n := n) (b := b) (by omega)
  have := open_well h2 hn hn0 hh2 (spreadB_len hbl) (by rw [s1]; exact hb)
  rw [s1, s2] at this
  exact ⟨h2, this⟩

def F12 : Fun
  | [] => some ([], .t (.bool true))
  | _ => none

theorem ct12 : CT [(8, ⟨[false], treeG F8⟩), (9, ⟨[true], G9⟩), (10, ⟨[true, false], G10⟩), (11, ⟨[true], G11⟩), (13, ⟨[true], G13⟩), (17, ⟨[true, false], G17⟩)] [0, 1, 2, 3, 4, 5, 6, 18] [] := ⟨(.cons c8.g (.cons g9 (.cons g10 (.cons g11 (.cons g13 (.cons g17 (.nil _)))))))⟩

set_option maxRecDepth 8000 in
set_option maxHeartbeats 8000000 in
theorem c12 : ACon Try.prog 12 F12 := by
  refine aconc E_ok (rs := [.tmp 0 4]) Try.func12 rfl Try.ntmps12 (by kernel_rfl) rfl (by decide) F12 (np := 0) ?_ ?_
  · intro ts h; unfold F12; split <;> first | rfl | (simp at h; done)
  intro ts H r hF hwf
  unfold F12 at hF
  split at hF <;> try (cases hF; done)
  cases hF
  have hs8 : slots 8 = 3 := by decide +kernel
  have hm := made_c (w := 8) (n := 3) (by omega) (by omega) hs8 (by omega)
  rw [show ((8 : Nat) : Int) = 8 from rfl] at hm
  have hW0 := newD_well (n := 8) (by omega)
  have hR := room_stc ⟨3, [], false⟩ (newD 8) (by show 3 ≤ 1000000; omega)
  rw [show roomN (3 : Nat) = 380 from rfl] at hR
  have hf0 := (newD_holds (w := 8) (n := 3) (by decide)).flag
  obtain ⟨d1, e1, hW1, hH1, hO1, hp1⟩ := save_open (img := []) (b := [97, 98, 99]) hW0 hs8 (by omega) (by omega) hf0 (by decide) (by decide)
  have hp1 := hp1 rfl
  have hSv := save_c ⟨3, [], false⟩ (newD 8) [97, 98, 99] (by show 3 ≤ 8192; omega) (by decide) hW0.f.g (by show 0 ≤ 60000; omega)
  rw [e1] at hSv
  have hC := crash_c d1 [] hW1.f.g (Nat.zero_le _)
  obtain ⟨hW2, hO2⟩ := crash_open hW1 hp1 hs8 (by omega) (by omega) hH1 (by decide)
  have hO := open_c (crR d1 []) hW2.f.g (Nat.le_trans hW2.f.p (by omega)) (by have := hW2.f.w; dsimp only at this; omega)
  rw [hO2] at hO
  have hL := load_stc ⟨3, [97, 98, 99], false⟩ (crR d1 []) (by decide)
  have hSw := save_c ⟨3, [97, 98, 99], false⟩ (crR d1 []) [0, 0, 0, 0, 0, 0, 0, 0, 0, 0, 0, 0, 0, 0, 0, 0, 0, 0, 0, 0, 0, 0, 0, 0, 0, 0, 0, 0, 0, 0, 0, 0, 0, 0, 0, 0, 0, 0, 0, 0, 0, 0, 0, 0, 0, 0, 0, 0, 0, 0, 0, 0, 0, 0, 0, 0, 0, 0, 0, 0, 0, 0, 0, 0, 0, 0, 0, 0, 0, 0, 0, 0, 0, 0, 0, 0, 0, 0, 0, 0, 0, 0, 0, 0, 0, 0, 0, 0, 0, 0, 0, 0, 0, 0, 0, 0, 0, 0, 0, 0, 0, 0, 0, 0, 0, 0, 0, 0, 0, 0, 0, 0, 0, 0, 0, 0, 0, 0, 0, 0, 0, 0, 0, 0, 0, 0, 0, 0, 0, 0, 0, 0, 0, 0, 0, 0, 0, 0, 0, 0, 0, 0, 0, 0, 0, 0, 0, 0, 0, 0, 0, 0, 0, 0, 0, 0, 0, 0, 0, 0, 0, 0, 0, 0, 0, 0, 0, 0, 0, 0, 0, 0, 0, 0, 0, 0, 0, 0, 0, 0, 0, 0, 0, 0, 0, 0, 0, 0, 0, 0, 0, 0, 0, 0, 0, 0, 0, 0, 0, 0, 0, 0, 0, 0, 0, 0, 0, 0, 0, 0, 0, 0, 0, 0, 0, 0, 0, 0, 0, 0, 0, 0, 0, 0, 0, 0, 0, 0, 0, 0, 0, 0, 0, 0, 0, 0, 0, 0, 0, 0, 0, 0, 0, 0, 0, 0, 0, 0, 0, 0, 0, 0, 0, 0, 0, 0, 0, 0, 0, 0, 0, 0, 0, 0, 0, 0, 0, 0, 0, 0, 0, 0, 0, 0, 0, 0, 0, 0, 0, 0, 0, 0, 0, 0, 0, 0, 0, 0, 0, 0, 0, 0, 0, 0, 0, 0, 0, 0, 0, 0, 0, 0, 0, 0, 0, 0, 0, 0, 0, 0, 0, 0, 0, 0, 0, 0, 0, 0, 0, 0, 0, 0, 0, 0, 0, 0, 0, 0, 0, 0, 0, 0, 0, 0, 0, 0, 0, 0, 0, 0, 0, 0, 0, 0, 0, 0, 0, 0, 0, 0, 0, 0, 0, 0, 0, 0, 0, 0, 0, 0, 0, 0, 0, 0, 0, 0, 0, 0, 0, 0, 0, 0, 0, 0, 0, 0, 0, 0, 0, 0, 0] (by show 3 ≤ 8192; omega) (by decide) hW2.f.g (Nat.le_trans hW2.f.p (by omega))
  rw [show saveS ⟨3, [97, 98, 99], false⟩ (crR d1 []) [0, 0, 0, 0, 0, 0, 0, 0, 0, 0, 0, 0, 0, 0, 0, 0, 0, 0, 0, 0, 0, 0, 0, 0, 0, 0, 0, 0, 0, 0, 0, 0, 0, 0, 0, 0, 0, 0, 0, 0, 0, 0, 0, 0, 0, 0, 0, 0, 0, 0, 0, 0, 0, 0, 0, 0, 0, 0, 0, 0, 0, 0, 0, 0, 0, 0, 0, 0, 0, 0, 0, 0, 0, 0, 0, 0, 0, 0, 0, 0, 0, 0, 0, 0, 0, 0, 0, 0, 0, 0, 0, 0, 0, 0, 0, 0, 0, 0, 0, 0, 0, 0, 0, 0, 0, 0, 0, 0, 0, 0, 0, 0, 0, 0, 0, 0, 0, 0, 0, 0, 0, 0, 0, 0, 0, 0, 0, 0, 0, 0, 0, 0, 0, 0, 0, 0, 0, 0, 0, 0, 0, 0, 0, 0, 0, 0, 0, 0, 0, 0, 0, 0, 0, 0, 0, 0, 0, 0, 0, 0, 0, 0, 0, 0, 0, 0, 0, 0, 0, 0, 0, 0, 0, 0, 0, 0, 0, 0, 0, 0, 0, 0, 0, 0, 0, 0, 0, 0, 0, 0, 0, 0, 0, 0, 0, 0, 0, 0, 0, 0, 0, 0, 0, 0, 0, 0, 0, 0, 0, 0, 0, 0, 0, 0, 0, 0, 0, 0, 0, 0, 0, 0, 0, 0, 0, 0, 0, 0, 0, 0, 0, 0, 0, 0, 0, 0, 0, 0, 0, 0, 0, 0, 0, 0, 0, 0, 0, 0, 0, 0, 0, 0, 0, 0, 0, 0, 0, 0, 0, 0, 0, 0, 0, 0, 0, 0, 0, 0, 0, 0, 0, 0, 0, 0, 0, 0, 0, 0, 0, 0, 0, 0, 0, 0, 0, 0, 0, 0, 0, 0, 0, 0, 0, 0, 0, 0, 0, 0, 0, 0, 0, 0, 0, 0, 0, 0, 0, 0, 0, 0, 0, 0, 0, 0, 0, 0, 0, 0, 0, 0, 0, 0, 0, 0, 0, 0, 0, 0, 0, 0, 0, 0, 0, 0, 0, 0, 0, 0, 0, 0, 0, 0, 0, 0, 0, 0, 0, 0, 0, 0, 0, 0, 0, 0, 0, 0, 0, 0, 0, 0, 0, 0, 0, 0, 0, 0, 0, 0, 0, 0, 0, 0, 0, 0, 0, 0, 0, 0, 0, 0, 0] = (⟨3, [97, 98, 99], false⟩, crR d1 [], 4) from if_pos (by decide)] at hSw
  generalize crR d1 [] = d2 at *
  generalize newD 8 = d0 at *
  dsimp only at hR hSv hO hL hSw
  simp only [stH, stN, stB, dN, dH, openB, List.cons_append, List.nil_append, List.map_nil, Int.cast_ofNat_Int] at hm hR hSv hC hO hL hSw
  clear hO1 hO2 e1 hH1 hf0 hW0 hW1 hW2 hp1
  have k97 : UInt8.ofNat 97 = 97 := rfl
  have k98 : UInt8.ofNat 98 = 98 := rfl
  have k99 : UInt8.ofNat 99 = 99 := rfl
  repeat refine St (And.intro hm <| And.intro hR <| And.intro hSv <| And.intro hC <| And.intro hO <| And.intro hL <| And.intro hSw <| And.intro k97 <| And.intro k98 <| k99) ct12 ?_
  exact AWP.ret (Fin trivial [] [])

end Go.Fw

end

section
/- Chapter 28: StoreNil: its code walked. -/
namespace Go.Fw
open Go Go.Proofs
set_option linter.unusedVariables false
set_option linter.unusedSimpArgs false

def F4 : Fun
  | [.by b] => some ([], .t (.bool true))
  | _ => none

theorem ct4 : CT [(9, ⟨[true], G9⟩), (10, ⟨[true, false], G10⟩), (11, ⟨[true], G11⟩), (12, ⟨[], treeG F12⟩), (13, ⟨[true], G13⟩), (14, ⟨[false], treeG F14⟩)] [0, 2, 3, 4, 5, 6, 7, 8, 9] [] := ⟨(.cons g9 (.cons g10 (.cons g11 (.cons c12.g (.cons g13 (.cons c14.g (.nil _)))))))⟩

set_option maxRecDepth 8000 in
set_option maxHeartbeats 4000000 in
theorem c4 : ACon Try.prog 4 F4 := by
  refine aconc E_ok (rs := [.tmp 2 4]) Try.func4 rfl Try.ntmps4 (by kernel_rfl) rfl (by decide) F4 (np := 1) ?_ ?_
  · intro ts h; unfold F4; split <;> first | rfl | (simp at h; done)
  intro ts H r hF hwf
  unfold F4 at hF
  split at hF <;> try (cases hF; done)
  rename_i b
  cases hF
  have hw0 := newD_well (n := 3) (by omega)
  have ho : openS (newD 3) = (none, newD 3, 1) := by
    unfold openS
    rw [show slots (newD 3).s.length = 0 by decide +kernel]
    rfl
  have hd := newdisk_c (n := 3) (by omega) (by omega)
  rw [show ((3 : Nat) : Int) = 3 from rfl] at hd
  have h3 := open_c (newD 3) hw0.f.g (by show (0 : Nat) ≤ 90000; omega) (by have := hw0.f.w; dsimp only at this; omega)
  rw [ho] at h3
  simp only [openB] at h3
  have g1 : G11 [] [.t .nilp] = some ([], .tup [.t .nilp, .t (.int .i64 1)]) := rfl
  have g2 : G13 [] [.t .nilp] = some ([], .t (.by [])) := rfl
  have g3 : G10 [] [.t .nilp, .t (.by b)] = some ([], .t (.int .i64 1)) := rfl
  have g4 : G9 [] [.t .nilp] = some ([], .t (.int .i64 0)) := rfl
  clear ho hw0
  generalize newD 3 = D at *
  repeat refine St (And.intro hd <| And.intro h3 <| And.intro @dH.eq_def <| And.intro @dN.eq_def <| And.intro g1 <| And.intro g2 <| And.intro g3 <| And.intro g4 <| @F12.eq_def) ct4 ?_
  exact AWP.ret (Fin trivial [] [])

end Go.Fw

end

section
/- Chapter 28: StoreRoom: its code walked. -/
namespace Go.Fw
open Go Go.Proofs
set_option linter.unusedVariables false
set_option linter.unusedSimpArgs false

noncomputable def F3 : Fun
  | [.int .i64 n, .int .u8 c] => some ([], .t (.bool true))
  | _ => none

theorem ct3 : CT [(8, ⟨[false], treeG F8⟩), (9, ⟨[true], G9⟩), (10, ⟨[true, false], G10⟩), (11, ⟨[true], G11⟩), (12, ⟨[], treeG F12⟩), (13, ⟨[true], G13⟩)] [0, 1, 4, 5, 6, 7, 8, 9, 10, 11, 12, 13, 14, 24, 33] [(13, (List.cons (⟨1, [], [], []⟩ : Info) <| List.cons (⟨0, [56], [0], []⟩ : Info) <| List.cons (⟨0, [8], [0], []⟩ : Info) <| List.cons (⟨0, [58], [0], []⟩ : Info) <| List.cons (⟨0, [57, 59], [0], []⟩ : Info) <| List.cons (⟨0, [60], [0], []⟩ : Info) <| List.cons (⟨0, [11], [0], []⟩ : Info) <| List.cons (⟨0, [62], [0], []⟩ : Info) <| List.cons (⟨0, [61, 63], [0], []⟩ : Info) <| List.cons (⟨0, [64], [0], []⟩ : Info) <| List.cons (⟨0, [12], [0], []⟩ : Info) <| List.cons (⟨0, [66], [0], []⟩ : Info) <| List.cons (⟨0, [65, 67], [0], []⟩ : Info) <| List.cons (⟨0, [68], [0], []⟩ : Info) <| List.cons (⟨0, [14], [0], []⟩ : Info) <| List.cons (⟨0, [70], [0], []⟩ : Info) <| List.cons (⟨0, [69, 71], [0], []⟩ : Info) <| List.cons (⟨0, [72], [0], []⟩ : Info) <| List.cons (⟨0, [13], [0], []⟩ : Info) <| List.cons (⟨0, [74], [0], []⟩ : Info) <| List.cons (⟨0, [73, 75], [0], []⟩ : Info) <| List.cons (⟨0, [76], [0], []⟩ : Info) <| List.cons (⟨0, [13], [0], []⟩ : Info) <| List.cons (⟨1, [78], [0], []⟩ : Info) <| List.cons (⟨1, [79], [0, 23], []⟩ : Info) <| List.cons (⟨0, [9], [0], []⟩ : Info) <| List.cons (⟨0, [8], [0], []⟩ : Info) <| List.cons (⟨1, [81, 82], [0], []⟩ : Info) <| List.cons (⟨1, [83], [0, 27], []⟩ : Info) <| List.cons (⟨0, [80, 84], [0, 23, 24, 27, 28], []⟩ : Info) <| List.cons (⟨0, [77, 85], [0, 23, 24, 27, 28], []⟩ : Info) <| List.cons (⟨0, [86], [0, 23, 24, 27, 28], []⟩ : Info) <| List.cons (⟨0, [6], [0, 23, 24, 27, 28], []⟩ : Info) <| List.cons (⟨1, [88], [0, 23, 24, 27, 28], []⟩ : Info) <| List.cons (⟨1, [89], [0, 23, 24, 27, 28, 33], []⟩ : Info) <| List.cons (⟨0, [9], [0, 23, 24, 27, 28], []⟩ : Info) <| List.cons (⟨0, [8], [0, 23, 24, 27, 28], []⟩ : Info) <| List.cons (⟨1, [91, 92], [0, 23, 24, 27, 28], []⟩ : Info) <| List.cons (⟨1, [93], [0, 23, 24, 27, 28, 37], []⟩ : Info) <| List.cons (⟨0, [90, 94], [0, 23, 24, 27, 28, 33, 34, 37, 38], []⟩ : Info) <| List.cons (⟨0, [87, 95], [0, 23, 24, 27, 28, 33, 34, 37, 38], []⟩ : Info) <| List.cons (⟨0, [96], [0, 23, 24, 27, 28, 33, 34, 37, 38], []⟩ : Info) <| []))] := ⟨(.cons c8.g (.cons g9 (.cons g10 (.cons g11 (.cons c12.g (.cons g13 (.nil _)))))))⟩

theorem abits_63 (n : Int) : ∃ w : Nat, abits .and .i64 n 63 = (w : Int) ∧ w ≤ 63 := by
  have hp : ∃ a : Nat, abits .and .i64 n 63 = IntKind.i64.wrap ((a &&& 63 : Nat) : Int) := ⟨_, rfl⟩
  obtain ⟨a, ha⟩ := hp
  have h63 : a &&& 63 ≤ 63 := Nat.and_le_right
  exact ⟨a &&& 63, by rw [ha, wrap_i64 (by omega) (by omega)], h63⟩
theorem slots_some : ∀ w, w < 68 → 4 ≤ w → 0 < slots w := by decide +kernel
/-- The bytes that are saved. -/
def fillR (c : Int) (m : Nat) : Nat → List UInt8
  | 0 => List.replicate m 0
  | i + 1 => (fillR c m i).set i (UInt8.ofNat (IntKind.u8.wrap (c + IntKind.u8.wrap (i : Int))).toNat)
theorem fillR_len (c : Int) (m : Nat) : ∀ i, (fillR c m i).length = m
  | 0 => by simp [fillR]
  | i + 1 => by simp [fillR, fillR_len c m i]

set_option maxRecDepth 8000 in
set_option maxHeartbeats 8000000 in
theorem c3 : ACon Try.prog 3 F3 := by
  refine aconc E_ok (rs := [.tmp 4 4]) Try.func3 rfl Try.ntmps3 (by kernel_rfl) rfl (by decide) F3 (np := 2) ?_ ?_
  · intro ts h; unfold F3; split <;> first | rfl | (simp at h; done)
  intro ts H r hF hwf
  unfold F3 at hF
  split at hF <;> try (cases hF; done)
  rename_i n c
  cases hF
  obtain ⟨w0, hw, hw63⟩ := abits_63 n
  obtain ⟨w, hwe⟩ : ∃ w, w = 4 + w0 := ⟨_, rfl⟩
  have w1 : IntKind.i64.wrap (4 + (w0 : Int)) = (w : Int) := by rw [wrap_i64 (by omega) (by omega)]; omega
  have hs := slots_some w (by omega) (by omega)
  have hfit := slots_fit hs
  obtain ⟨m, hm⟩ : ∃ m, slots w = m := ⟨_, rfl⟩
  rw [hm] at hs hfit
  have hll := lstN_le m
  have hmd := made_c (w := w) (n := m) (by omega) (by omega) hm hs
  have hW0 := newD_well (n := w) (by omega)
  have hR := room_stc ⟨m, [], false⟩ (newD w) (by show m ≤ 1000000; omega)
  obtain ⟨r, hr⟩ : ∃ r : Nat, roomN m = (r : Int) := ⟨m * 128 - 4, by unfold roomN; omega⟩
  have hr2 : r + 4 = m * 128 := by unfold roomN at hr; omega
  dsimp only at hR
  rw [hr] at hR
  have w2 : IntKind.i64.wrap ((r : Int) + 1) = ((r + 1 : Nat) : Int) := by rw [wrap_i64 (by omega) (by omega)]; omega
  have hf0 := (newD_holds hfit).flag
  generalize newD w = d0 at *
  simp only [stH, stB, dH, List.cons_append, List.nil_append, Int.cast_ofNat_Int] at hmd hR
  repeat refine St (And.intro hw <| And.intro w1 <| And.intro hmd <| And.intro hR <| w2) ct3 ?_
  have fill0 : fillR c (r + 1) 0 = 0 :: List.replicate r 0 := rfl
  refine AWP.loop (G := { i : Nat // i ≤ r + 1 }) (fun i => ⟨[(1, .t (.int .u8 c)), (5, .ptr 0 0 []), (6, .ptr 4 0 []), (8, .t (.int .i64 (r : Int))), (9, .own 5), (10, .t (.int .i64 (i.1 : Int)))], [.bx (.st [.own 1, .own 2, .own 3, .t (.int .i64 d0.l), .t (.bool d0.off)]), .sq 128 (d0.s.map (T.ba 128)), .sq 128 ((layP d0.s d0.p).map (T.ba 128)), .sq 129 (d0.p.map pnd1), .bx (.st [.t (.st [.int .i64 (m : Int), .int .i64 (lstN m : Int)]), .ptr 0 0 [], .t (.by []), .t (.bool false)]), .by (fillR c (r + 1) i.1)]⟩) (fun i => r + 1 - i.1) ⟨0, by omega⟩ (Wt fill0 [1, 5, 6, 8, 9, 10] [0, 1, 2, 3, 4, 5]) ?_
  rintro ⟨i, hi⟩
  dsimp only
  have hfl := fillR_len c (r + 1) i
  by_cases hlt : i < r + 1
  · have hlt2 : (i : Int) < ((r + 1 : Nat) : Int) := by omega
    have w3 : IntKind.i64.wrap ((i : Int) + 1) = ((i + 1 : Nat) : Int) := by rw [wrap_i64 (by omega) (by omega)]; omega
    have hst : fillR c (r + 1) (i + 1) = (fillR c (r + 1) i).set i (UInt8.ofNat (IntKind.u8.wrap (c + IntKind.u8.wrap (i : Int))).toNat) := rfl
    generalize fillR c (r + 1) i = B0 at *
    repeat refine St (And.intro hlt <| And.intro hlt2 <| And.intro hfl <| w3) ct3 ?_
    exact ⟨⟨i + 1, by omega⟩, (Wt hst [1, 5, 6, 8, 9, 10] [0, 1, 2, 3, 4, 5]), by simp only; omega⟩
  obtain rfl : i = r + 1 := by omega
  have hlt2 : ¬ ((r + 1 : Nat) : Int) < ((r + 1 : Nat) : Int) := by omega
  generalize fillR c (r + 1) (r + 1) = B at *
  have htl : (B.take r).length = r := by rw [List.length_take]; omega
  obtain ⟨d1, e1, hW1, hH1, hO1, _⟩ := save_open (img := []) (b := B.take r) hW0 hm hs (by omega) hf0 (by rw [hr, htl]; omega) (by omega)
  have hS1 := save_c ⟨m, [], false⟩ d0 (B.take r) (by show m ≤ 8192; omega) (by omega) hW0.f.g (Nat.le_trans hW0.f.p (by omega))
  rw [e1] at hS1
  have hS2 := save_c ⟨m, B.take r, false⟩ d1 B (by show m ≤ 8192; omega) (by omega) hW1.f.g (Nat.le_trans hW1.f.p (by omega))
  rw [show saveS ⟨m, B.take r, false⟩ d1 B = (⟨m, B.take r, false⟩, d1, 4) from if_pos (by dsimp only; rw [hr]; omega)] at hS2
  have hO := open_c d1 hW1.f.g (Nat.le_trans hW1.f.p (by omega)) (by have := hW1.f.w; dsimp only at this; omega)
  rw [hO1] at hO
  have hL := load_stc ⟨m, B.take r, false⟩ d1 (by dsimp only; omega)
  clear hO1 e1 hH1 hf0 hW0 hW1
  dsimp only at hS1 hS2 hO hL
  simp only [stH, stN, stB, dN, dH, openB, List.cons_append, List.nil_append] at hS1 hS2 hO hL
  have hr0 : (0 : Int) < (r : Int) := by omega
  have hrB : r ≤ B.length := by omega
  have hrr : (r : Int) ≤ ((r + 1 : Nat) : Int) := by omega
  have hbe : (B.take r == B.take r) = true := beq_self_eq_true _
  repeat refine St (And.intro hlt2 <| And.intro hfl <| And.intro hS1 <| And.intro hS2 <| And.intro hO <| And.intro hL <| And.intro hr0 <| And.intro hrB <| And.intro hrr <| And.intro hbe <| @F12.eq_def) ct3 ?_
  exact AWP.ret (Fin trivial [] [])

end Go.Fw

end
