/- The abstract machine, and the contracts of the code: part 48. -/
import Derived.Shelf.Spec.SlicesInsert
import Derived.Test.YthhpapbokodpdaaFwEc

section
/- Bytes compared by the machine's entry, as a step. -/
namespace Go.Fw
open Go Go.Proofs
set_option linter.unusedVariables false
set_option linter.unusedSimpArgs false

theorem cmpFn : CmpFn Try.prog 61 := ⟨⟨_, Try.func61, by kernel_rfl, by kernel_rfl, by kernel_rfl, by kernel_rfl⟩⟩

end Go.Fw

end

section
/- Drawn regions with two stores. -/
namespace Go.Fw
open Go Go.Proofs
set_option linter.unusedVariables false

theorem AWP.dK2 {gl : GCalls} {keep : List Nat} {ds : List (Nat × List Info)} {kp N id : Nat} {l : List Oper} {Q : Exit → AS → Prop} {S S' : AS} (ct : CT gl keep ds) {fs : List Info} (hl : lkD id ds = some fs) (hdep : dOk2 l fs = true) (h : drunP E eqq gl N keep l fs S = some S') (hQ : Q .normal S') : AWP kp Try.prog N (.region id l.toArray true) Q S :=
  AWP.gdraw2 X_ok ct.cl keep mix fs hdep h hQ

/-- One step. -/
theorem St2 {F : Prop} (hF : F) {gl : GCalls} {keep : List Nat} {ds : List (Nat × List Info)} (ct : CT gl keep ds) {A B : Prop} (k : B) (h : F → CT gl keep ds → KB B → A := by
  (intro hF ct hk; (first
    | refine AWP.seq ?_
    | refine AWP.block ?_
    | (refine AWP.rK ct (Ev hF) ?_; try show AWP _ _ _ _ _ _)
    | (refine AWP.condT ?_ ?_; focus (simp only [W, eqq, ↓reduceIte, Nat.reduceEqDiff, Nat.reduceLT, Nat.reduceLeDiff, Nat.reduceAdd, Nat.reduceMul, Nat.reduceSub, Nat.reduceBEq, Int.reduceLE, Int.reduceLT, Int.reduceNeg, Int.reduceToNat, Int.reduceEq, Int.reduceBEq, Int.reduceBNe, Nat.reduceBNe, bne_self_eq_false, reduceCtorEq, gt_iff_lt, ge_iff_le, hF]; done))
    | (refine AWP.condF ?_ ?_; focus (simp only [W, eqq, ↓reduceIte, Nat.reduceEqDiff, Nat.reduceLT, Nat.reduceLeDiff, Nat.reduceAdd, Nat.reduceMul, Nat.reduceSub, Nat.reduceBEq, Int.reduceLE, Int.reduceLT, Int.reduceNeg, Int.reduceToNat, Int.reduceEq, Int.reduceBEq, Int.reduceBNe, Nat.reduceBNe, bne_self_eq_false, reduceCtorEq, gt_iff_lt, ge_iff_le, hF]; done))
    | (refine AWP.cT (by simp only [W, eqq, ↓reduceIte, Nat.reduceEqDiff, Nat.reduceLT, Nat.reduceLeDiff, Nat.reduceAdd, Nat.reduceMul, Nat.reduceSub, Nat.reduceBEq, Int.reduceLE, Int.reduceLT, Int.reduceNeg, Int.reduceToNat, Int.reduceEq, Int.reduceBEq, Int.reduceBNe, Nat.reduceBNe, bne_self_eq_false, reduceCtorEq, gt_iff_lt, ge_iff_le, hF]; with_reducible rfl) (by simp only [BL, beq_iff_eq, bne_iff_ne, beq_eq_false_iff_ne, bne_eq_false_iff_eq]; omega) ?_)
    | (refine AWP.cF (by simp only [W, eqq, ↓reduceIte, Nat.reduceEqDiff, Nat.reduceLT, Nat.reduceLeDiff, Nat.reduceAdd, Nat.reduceMul, Nat.reduceSub, Nat.reduceBEq, Int.reduceLE, Int.reduceLT, Int.reduceNeg, Int.reduceToNat, Int.reduceEq, Int.reduceBEq, Int.reduceBNe, Nat.reduceBNe, bne_self_eq_false, reduceCtorEq, gt_iff_lt, ge_iff_le, hF]; with_reducible rfl) (by simp only [BL, beq_iff_eq, bne_iff_ne, beq_eq_false_iff_ne, bne_eq_false_iff_eq]; omega) ?_)
    | (refine AWP.skip ?_; try show AWP _ _ _ _ _ _)
    | (refine AWP.exit ?_; try show AWP _ _ _ _ _ _)
    | (refine AWP.dK2 ct (by rfl) (by kernel_rfl) (Ev hF) ?_; try show AWP _ _ _ _ _ _)); exact hk.out)) : A := h hF ct ⟨k⟩


end Go.Fw

end

section
/- view: Refs in order; a place. -/
namespace Go.Fw
open Go Go.Proofs
set_option linter.unusedVariables false
set_option linter.unusedSimpArgs false

def F53 : Fun
  | [.by a, .by b] => some ([], .t (.int .i64 (cmpL a b)))
  | _ => none

theorem ct53 : CT [] [0, 1, 4] [] := ⟨GClOk.nil _⟩

theorem c53 : ACon Try.prog 53 F53 := by
  refine aconc E_ok (rs := [.tmp 4 3]) Try.func53 rfl Try.ntmps53 (by kernel_rfl) rfl (by decide) F53 (np := 2) ?_ ?_
  · intro ts h; unfold F53; split <;> first | rfl | (simp at h; done)
  intro ts H r hF hwf
  unfold F53 at hF
  split at hF <;> try (cases hF; done)
  rename_i a b
  cases hF
  iterate 3 (try refine St2 trivial ct53 ?_)
  refine AWP.gcmp (l := [_, _]) X_ok ct53.cl [0, 1, 4] cmpFn rfl rfl (by decide) (Ev trivial) (by rfl) (by rfl) (by rfl) (Ev trivial) ?_
  show AWP _ _ _ _ _ _
  repeat refine St2 trivial ct53 ?_
  exact AWP.ret (Fin trivial [] [])

def F62 : Fun
  | [.int .u32 a] => some ([], .t (.bool false))
  | _ => none

theorem ct62 : CT [] [0, 2] [] := ⟨GClOk.nil _⟩

theorem c62 : ACon Try.prog 62 F62 := by
  refine aconc E_ok (rs := [.tmp 2 4]) Try.func62 rfl Try.ntmps62 (by kernel_rfl) rfl (by decide) F62 (np := 1) ?_ ?_
  · intro ts h; unfold F62; split <;> first | rfl | (simp at h; done)
  intro ts H r hF hwf
  unfold F62 at hF
  split at hF <;> try (cases hF; done)
  rename_i a
  cases hF
  have h : (a != a) = false := by simp
  repeat refine St2 h ct62 ?_
  exact AWP.ret (Fin h [] [])

def F54 : Fun
  | [.int .u32 a, .int .u32 b] => some ([], .t (.int .i64 (cmpI a b)))
  | _ => none

theorem ct54 : CT [(62, ⟨[false], treeG F62⟩)] [0, 1, 4, 5, 6, 11, 12, 13, 16, 19] [] := ⟨(.cons c62.g (.nil _))⟩

theorem c54 : ACon Try.prog 54 F54 := by
  refine aconc E_ok (rs := [.tmp 4 3]) Try.func54 rfl Try.ntmps54 (by kernel_rfl) rfl (by decide) F54 (np := 2) ?_ ?_
  · intro ts h; unfold F54; split <;> first | rfl | (simp at h; done)
  intro ts H r hF hwf
  unfold F54 at hF
  split at hF <;> try (cases hF; done)
  rename_i a b
  cases hF
  unfold cmpI
  by_cases h1 : a < b
  · rw [if_pos h1]
    repeat refine St2 (And.intro h1 <| @F62.eq_def) ct54 ?_
    exact AWP.ret (Fin trivial [] [])
  · rw [if_neg h1]
    by_cases h2 : b < a
    · rw [if_pos h2]
      repeat refine St2 (And.intro h1 <| And.intro h2 <| @F62.eq_def) ct54 ?_
      exact AWP.ret (Fin trivial [] [])
    · rw [if_neg h2]
      repeat refine St2 (And.intro h1 <| And.intro h2 <| @F62.eq_def) ct54 ?_
      exact AWP.ret (Fin trivial [] [])

noncomputable def F43 : Fun
  | [x, y] => match inv rfT x, inv rfT y with
    | some a, some b => some ([], .t (.int .i64 (cmpR a b)))
    | _, _ => none
  | _ => none

theorem ct43 : CT [(53, ⟨[false, false], treeG F53⟩), (54, ⟨[false, false], treeG F54⟩)] [0, 1, 2, 3, 4, 5, 12] [(1, [⟨0, [2], [], []⟩, ⟨1, [6], [], []⟩, ⟨0, [3], [], []⟩, ⟨1, [8], [], []⟩, ⟨1, [7, 9], [1, 3], []⟩, ⟨0, [10], [1, 3, 4], []⟩])] := ⟨(.cons c53.g (.cons c54.g (.nil _)))⟩

theorem c43 : ACon Try.prog 43 F43 := by
  refine aconc E_ok (rs := [.tmp 4 3]) Try.func43 rfl Try.ntmps43 (by kernel_rfl) rfl (by decide) F43 (np := 2) ?_ ?_
  · intro ts h; unfold F43; split <;> first | rfl | (simp at h; done)
  intro ts H r hF hwf
  unfold F43 at hF
  split at hF <;> try (cases hF; done)
  split at hF <;> try (cases hF; done)
  rename_i a b ha hb
  cases hF
  obtain rfl := inv_inv ha
  obtain rfl := inv_inv hb
  obtain ⟨⟨h1, g1⟩, i1⟩ := a
  obtain ⟨⟨h2, g2⟩, i2⟩ := b
  simp only [rfT, cmpR]
  have hc : F53 [.by h1, .by h2] = some ([], .t (.int .i64 (cmpL h1 h2))) := rfl
  have ht1 : List.take 32 h1 = h1 := List.take_of_length_le (by omega)
  have ht2 : List.take 32 h2 = h2 := List.take_of_length_le (by omega)
  by_cases h0 : cmpL h1 h2 = 0
  · rw [if_pos h0]
    rw [h0] at hc
    repeat refine St2 (And.intro g1 <| And.intro g2 <| And.intro ht1 <| And.intro ht2 <| And.intro hc <| @F54.eq_def) ct43 ?_
    exact AWP.ret (Fin trivial [] [])
  · rw [if_neg h0]
    have h0b : (cmpL h1 h2 != 0) = true := by simpa using h0
    repeat refine St2 (And.intro g1 <| And.intro g2 <| And.intro ht1 <| And.intro ht2 <| And.intro hc <| h0b) ct43 ?_
    exact AWP.ret (Fin trivial [] [])

end Go.Fw

end

section
/- view: a place searched by halves. -/
namespace Go.Fw
open Go Go.Proofs
set_option linter.unusedVariables false
set_option linter.unusedSimpArgs false

/-- Coins in a row of the call's own. -/
def csH (l : List TCoin) : List Blk := [.sq 37 (l.map coinT)]
theorem csH_inj (a b : List TCoin) (h : csH a = csH b) : a = b := by
  unfold csH at h
  simp only [List.cons.injEq, Blk.sq.injEq, true_and, and_true] at h
  exact coins_inj a b h

noncomputable def F42 : Fun
  | [x, y] => match inv coinT x, inv rfT y with
    | some c, some r => some ([], .t (.int .i64 (cmpR c.r r)))
    | _, _ => none
  | _ => none

theorem ct42 : CT [(43, ⟨[false, false], treeG F43⟩)] [0, 1, 2, 3, 4] [] := ⟨(.cons c43.g (.nil _))⟩

theorem order_c (a b : TRef) : F43 [.st [.ba 32 a.h.1, .int .u32 (a.i.toNat : Int)], .st [.ba 32 b.h.1, .int .u32 (b.i.toNat : Int)]] = some ([], .t (.int .i64 (cmpR a b))) := by
  show F43 [rfT a, rfT b] = _
  simp only [F43, inv_of rfT_inj]

theorem c42 : ACon Try.prog 42 F42 := by
  refine aconc E_ok (rs := [.tmp 4 3]) Try.func42 rfl Try.ntmps42 (by kernel_rfl) rfl (by decide) F42 (np := 2) ?_ ?_
  · intro ts h; unfold F42; split <;> first | rfl | (simp at h; done)
  intro ts H r hF hwf
  unfold F42 at hF
  split at hF <;> try (cases hF; done)
  split at hF <;> try (cases hF; done)
  rename_i c r hc hr
  cases hF
  obtain rfl := inv_inv hc
  obtain rfl := inv_inv hr
  have h := order_c c.r r
  simp only [coinT_st, rfT]
  repeat refine St h ct42 ?_
  exact AWP.ret (Fin trivial [] [])

theorem place1_c (c : TCoin) (r : TRef) : F42 [.st [.st [.ba 32 c.r.h.1, .int .u32 (c.r.i.toNat : Int)], .st [.int .u64 (c.out.val.toNat : Int), .by c.out.scr], .int .u32 (c.ht.toNat : Int), .bool c.first], .st [.ba 32 r.h.1, .int .u32 (r.i.toNat : Int)]] = some ([], .t (.int .i64 (cmpR c.r r))) := by
  show F42 [coinT c, rfT r] = _
  simp only [F42, inv_of coinT_inj, inv_of rfT_inj]

noncomputable def G41 : GFun
  | HB, [.own 0, .t y, .t (.fn f)] => match inv csH HB, inv rfT y with
    | some l, some r => @ite _ ((f = 42 ∧ l.length ≤ 1000000)) (Classical.propDecidable _) ((some (csH l, .tup [.t (.int .i64 (plN l r : Int)), .t (.bool (plB l r))]))) none
    | _, _ => none
  | _, _ => none

theorem ct41 : CT [(42, ⟨[false, false], treeG F42⟩)] [0, 1, 2, 4, 6, 7, 8, 9, 10, 11, 17, 31] [(5, [⟨0, [2], [], []⟩, ⟨0, [0], [], []⟩, ⟨0, [11], [], []⟩, ⟨1, [25, 26], [], []⟩, ⟨1, [27], [3], []⟩, ⟨1, [4], [], []⟩, ⟨1, [24, 28, 29], [3, 4, 5], []⟩, ⟨0, [30], [3, 4, 5, 6], []⟩]), (8, [⟨0, [9], [], []⟩, ⟨0, [9], [], []⟩, ⟨0, [8], [], []⟩, ⟨0, [36, 37], [], []⟩, ⟨0, [38], [], []⟩, ⟨0, [2], [], []⟩, ⟨0, [0], [], []⟩, ⟨0, [9], [], []⟩, ⟨1, [41, 42], [], []⟩, ⟨1, [43], [8], []⟩, ⟨1, [4], [], []⟩, ⟨1, [40, 44, 45], [8, 9, 10], []⟩, ⟨0, [46], [8, 9, 10, 11], []⟩, ⟨0, [39, 47], [8, 9, 10, 11], []⟩, ⟨0, [35], [8, 9, 10, 11], []⟩, ⟨0, [48], [8, 9, 10, 11], []⟩])] := ⟨(.cons c42.g (.nil _))⟩

set_option maxHeartbeats 4000000 in
theorem g41 : GCon Try.prog 41 G41 := by
  refine gconc E_ok (rs := [.tmp 6 3, .tmp 7 4]) Try.func41 rfl Try.ntmps41 (by kernel_rfl) rfl (by decide) G41 (np := 3) ?_ ?_
  · intro HB xs h; unfold G41; split <;> first | rfl | (simp at h; done)
  intro HB xs H r hG hwf hex
  unfold G41 at hG
  split at hG <;> try (cases hG; done)
  split at hG <;> try (cases hG; done)
  rename_i l r hl hr
  split at hG
  case isFalse => cases hG
  rename_i hc
  cases hG
  obtain ⟨rfl, hlen⟩ := hc
  obtain rfl := inv_inv hl
  obtain rfl := inv_inv hr
  have hml : (l.map coinT).length = l.length := List.length_map ..
  simp only [csH, rfT]
  repeat refine St (And.intro (And.intro @gentry.eq_1 <| @gentry.eq_2) <| hml) ct41 ?_
  obtain ⟨R, hR⟩ : ∃ R, plN l r = R := ⟨_, rfl⟩
  have hRb : plB l r = (decide (R < l.length) && decide (cmpR (l.getD R dCoin).r r = 0)) := by unfold plB; rw [hR]
  have hRl : R ≤ l.length := hR ▸ plN_le l r
  rw [hR, hRb]
  refine AWP.loop (G := { x : Nat × Nat // x.1 ≤ x.2 ∧ x.2 ≤ l.length ∧ bsN (fun k => cmpR (l.getD k dCoin).r r) (l.length + 1) x.1 x.2 = R }) (fun x => ⟨[(0, .own 0), (2, .t (.fn 42)), (4, .ptr 1 0 []), (8, .t (.int .i64 (l.length : Int))), (9, .t (.int .i64 (x.1.1 : Int))), (10, .t (.int .i64 (x.1.2 : Int)))], [.sq 37 (l.map coinT), .bx (.t (.st [.ba 32 r.h.1, .int .u32 (r.i.toNat : Int)]))]⟩) (fun x => x.1.2 - x.1.1) ⟨⟨0, l.length⟩, Nat.zero_le _, Nat.le_refl _, hR⟩ (Wt trivial [0, 2, 4, 8, 9, 10] [0, 1]) ?_
  rintro ⟨⟨i, j⟩, hij, hj, hb⟩
  dsimp only at hij hj hb ⊢
  by_cases hlt : i < j
  · have hlt2 : (i : Int) < (j : Int) := by omega
    rw [bs_step hlt (by omega)] at hb
    have wa : IntKind.i64.wrap ((i : Int) + (j : Int)) = ((i + j : Nat) : Int) := by rw [wrap_i64 (by omega) (by omega)]; omega
    have wb : IntKind.u64.wrap ((i + j : Nat) : Int) = ((i + j : Nat) : Int) := wrap_u64 (by omega) (by omega)
    have ws : Int.fdiv ((i + j : Nat) : Int) (2 ^ (min 1 IntKind.u64.bits)) = (((i + j) / 2 : Nat) : Int) := by
      show Int.fdiv ((i + j : Nat) : Int) 2 = _
      rw [Int.fdiv_eq_ediv_of_nonneg _ (by omega)]; omega
    have wc : IntKind.i64.wrap (((i + j) / 2 : Nat) : Int) = (((i + j) / 2 : Nat) : Int) := wrap_i64 (by omega) (by omega)
    have wd : IntKind.i64.wrap ((((i + j) / 2 : Nat) : Int) + 1) = (((i + j) / 2 + 1 : Nat) : Int) := by rw [wrap_i64 (by omega) (by omega)]; omega
    have hm1 : (i + j) / 2 < l.length := by omega
    have hm2 : i ≤ (i + j) / 2 ∧ (i + j) / 2 < j := by omega
    have hg := coin_getD l ((i + j) / 2) hm1
    rw [coinT_st] at hg
    have hp := place1_c (l.getD ((i + j) / 2) dCoin) r
    generalize l.getD ((i + j) / 2) dCoin = c at *
    generalize (i + j) / 2 = m at *
    generalize hq : i + j = q at *
    by_cases hneg : cmpR c.r r < 0
    · rw [if_pos hneg] at hb
      repeat refine St (And.intro hlt2 <| And.intro wa <| And.intro wb <| And.intro ws <| And.intro wc <| And.intro wd <| And.intro hm1 <| And.intro hml <| And.intro hg <| And.intro hp <| hneg) ct41 ?_
      exact ⟨⟨⟨m + 1, j⟩, by show m + 1 ≤ j; omega, hj, hb⟩, (Wt trivial [0, 2, 4, 8, 9, 10] [0, 1]), by simp only; omega⟩
    · rw [if_neg hneg] at hb
      repeat refine St (And.intro hlt2 <| And.intro wa <| And.intro wb <| And.intro ws <| And.intro wc <| And.intro wd <| And.intro hm1 <| And.intro hml <| And.intro hg <| And.intro hp <| hneg) ct41 ?_
      exact ⟨⟨⟨i, m⟩, by show i ≤ m; omega, by show m ≤ l.length; omega, hb⟩, (Wt trivial [0, 2, 4, 8, 9, 10] [0, 1]), by simp only; omega⟩
  have hlt2 : ¬ (i : Int) < (j : Int) := by omega
  rw [bs_end hlt] at hb
  subst hb
  by_cases hn : i < l.length
  · have hn2 : (i : Int) < (l.length : Int) := by omega
    have hg := coin_getD l i hn
    rw [coinT_st] at hg
    have hp := place1_c (l.getD i dCoin) r
    generalize l.getD i dCoin = c at *
    have hd : (decide (i < l.length) && decide (cmpR c.r r = 0)) = (cmpR c.r r == 0) := by rw [decide_eq_true hn, Bool.true_and]; rfl
    rw [hd]
    repeat refine St (And.intro hlt2 <| And.intro hn <| And.intro hn2 <| And.intro hml <| And.intro hg <| hp) ct41 ?_
    exact AWP.ret (Fin trivial [] [0])
  · have hn2 : ¬ (i : Int) < (l.length : Int) := by omega
    rw [decide_eq_false hn, Bool.false_and]
    repeat refine St (And.intro hlt2 <| And.intro hn2 <| hml) ct41 ?_
    exact AWP.ret (Fin trivial [] [0])

end Go.Fw

end

section
/- view: coins read. -/
namespace Go.Fw
open Go Go.Proofs
set_option linter.unusedVariables false
set_option linter.unusedSimpArgs false

noncomputable def F40 : Fun
  | [.by b] => @ite _ ((b.length ≤ 549755813000)) (Classical.propDecidable _) ((some ([], .t (.by b)))) none
  | _ => none

theorem ct40 : CT [] [0, 2, 4] [] := ⟨GClOk.nil _⟩

theorem c40 : ACon Try.prog 40 F40 := by
  refine aconc E_ok (rs := [.tmp 2 35]) Try.func40 rfl Try.ntmps40 (by kernel_rfl) rfl (by decide) F40 (np := 1) ?_ ?_
  · intro ts h; unfold F40; split <;> first | rfl | (simp at h; done)
  intro ts H r hF hwf
  unfold F40 at hF
  split at hF <;> try (cases hF; done)
  rename_i b
  split at hF
  case isFalse => cases hF
  rename_i hc
  have hb := hc
  cases hF
  iterate 3 (refine St trivial ct40 ?_)
  refine AWP.seq ?_
  refine AWP.nK (l := [_]) trivial ct40 (fun r hr => ?_)
  show AWP _ _ _ _ _ _
  cases r
  · repeat refine St hb ct40 ?_
    exact AWP.ret (Fin trivial [1] [])
  · obtain rfl := hr rfl
    repeat refine St trivial ct40 ?_
    exact AWP.ret (Fin trivial [] [])
theorem bclone_c {b : List UInt8} (h : b.length ≤ 549755813000) : F40 [.by b] = some ([], .t (.by b)) := if_pos h

noncomputable def F27 : Fun
  | [x] => match inv coinT x with
    | some c => @ite _ ((lowC c = true)) (Classical.propDecidable _) ((some ([], .t (coinT c)))) none
    | none => none
  | _ => none

theorem ct27 : CT [(40, ⟨[false], treeG F40⟩)] [0, 1, 2] [] := ⟨(.cons c40.g (.nil _))⟩

theorem c27 : ACon Try.prog 27 F27 := by
  refine aconc E_ok (rs := [.cell 2 39]) Try.func27 rfl Try.ntmps27 (by kernel_rfl) rfl (by decide) F27 (np := 1) ?_ ?_
  · intro ts h; unfold F27; split <;> first | rfl | (simp at h; done)
  intro ts H r hF hwf
  unfold F27 at hF
  split at hF <;> try (cases hF; done)
  split at hF <;> try (cases hF; done)
  rename_i c hc
  split at hF
  case isFalse => cases hF
  rename_i hlow
  cases hF
  obtain rfl := inv_inv hc
  have h := bclone_c (b := c.out.scr) (of_decide_eq_true hlow)
  simp only [coinT_st]
  repeat refine St h ct27 ?_
  exact AWP.ret (Fin trivial [] [])
theorem copied_c {c : TCoin} (h : lowC c = true) : F27 [.st [.st [.ba 32 c.r.h.1, .int .u32 (c.r.i.toNat : Int)], .st [.int .u64 (c.out.val.toNat : Int), .by c.out.scr], .int .u32 (c.ht.toNat : Int), .bool c.first]] = some ([], .t (.st [.st [.ba 32 c.r.h.1, .int .u32 (c.r.i.toNat : Int)], .st [.int .u64 (c.out.val.toNat : Int), .by c.out.scr], .int .u32 (c.ht.toNat : Int), .bool c.first])) := by
  show F27 [coinT c] = some ([], .t (coinT c))
  simp only [F27, inv_of coinT_inj]
  exact if_pos h

/-- A view. -/
def vwH (l : List TCoin) : List Blk := [.bx (.st [.own 1]), .sq 37 (l.map coinT)]
theorem vwH_inj (a b : List TCoin) (h : vwH a = vwH b) : a = b := by
  unfold vwH at h
  simp only [List.cons.injEq, Blk.sq.injEq, true_and, and_true] at h
  exact coins_inj a b h

def F26 : Fun
  | [] => some (vwH [], .ptr 0 0 [])
  | _ => none

theorem ct26 : CT [] [0] [] := ⟨GClOk.nil _⟩

theorem c26 : ACon Try.prog 26 F26 := by
  refine aconc E_ok (rs := [.tmp 0 29]) Try.func26 rfl Try.ntmps26 (by kernel_rfl) rfl (by decide) F26 (np := 0) ?_ ?_
  · intro ts h; unfold F26; split <;> first | rfl | (simp at h; done)
  intro ts H r hF hwf
  unfold F26 at hF
  split at hF <;> try (cases hF; done)
  cases hF
  repeat refine St trivial ct26 ?_
  refine AWP.weak (Weak.ownBx (v' := _) 0 [0] 0 (.sq 37 []) rfl (by simp only [W, eqq, ↓reduceIte, Nat.reduceEqDiff, Nat.reduceLT, Nat.reduceLeDiff, Nat.reduceAdd, Nat.reduceMul, Nat.reduceSub, Nat.reduceBEq, Int.reduceLE, Int.reduceLT, Int.reduceNeg, Int.reduceToNat, Int.reduceEq, Int.reduceBEq, Int.reduceBNe, Nat.reduceBNe, bne_self_eq_false, reduceCtorEq, gt_iff_lt, ge_iff_le]) (by simp only [W, eqq, ↓reduceIte, Nat.reduceEqDiff, Nat.reduceLT, Nat.reduceLeDiff, Nat.reduceAdd, Nat.reduceMul, Nat.reduceSub, Nat.reduceBEq, Int.reduceLE, Int.reduceLT, Int.reduceNeg, Int.reduceToNat, Int.reduceEq, Int.reduceBEq, Int.reduceBNe, Nat.reduceBNe, bne_self_eq_false, reduceCtorEq, gt_iff_lt, ge_iff_le]) (by simp only [W, eqq, ↓reduceIte, Nat.reduceEqDiff, Nat.reduceLT, Nat.reduceLeDiff, Nat.reduceAdd, Nat.reduceMul, Nat.reduceSub, Nat.reduceBEq, Int.reduceLE, Int.reduceLT, Int.reduceNeg, Int.reduceToNat, Int.reduceEq, Int.reduceBEq, Int.reduceBNe, Nat.reduceBNe, bne_self_eq_false, reduceCtorEq, gt_iff_lt, ge_iff_le]; rfl) (.inr ⟨_, by decide, rfl⟩)) ?_
  exact AWP.ret (Fin (And.intro @vwH.eq_def <| @List.map_nil.{0, 0}) [] [0, 1])

noncomputable def G15 : GFun
  | [], [.t .nilp] => some ([], .t (.int .i64 0))
  | HB, [.ptr 0 0 []] => match inv vwH HB with
    | some l => some (vwH l, .t (.int .i64 (l.length : Int)))
    | none => none
  | _, _ => none

theorem ct15 : CT [] [0, 2, 4] [] := ⟨GClOk.nil _⟩

theorem g15 : GCon Try.prog 15 G15 := by
  refine gconc E_ok (rs := [.tmp 2 3]) Try.func15 rfl Try.ntmps15 (by kernel_rfl) rfl (by decide) G15 (np := 1) ?_ ?_
  · intro HB xs h; unfold G15; split <;> first | rfl | (simp at h; done)
  intro HB xs H r hG hwf hex
  unfold G15 at hG
  split at hG <;> try (cases hG; done)
  · cases hG
    repeat refine St (And.intro @gentry.eq_1 <| @gentry.eq_2) ct15 ?_
    exact AWP.ret (Fin trivial [] [])
  split at hG <;> try (cases hG; done)
  rename_i l hl
  cases hG
  obtain rfl := inv_inv hl
  have hml : (l.map coinT).length = l.length := List.length_map ..
  simp only [vwH]
  repeat refine St (And.intro (And.intro @gentry.eq_1 <| @gentry.eq_2) <| hml) ct15 ?_
  exact AWP.ret (Fin trivial [] [0, 1])

noncomputable def G28 : GFun
  | HB, [.ptr 0 0 [], .t y] => match inv vwH HB, inv rfT y with
    | some l, some r => @ite _ ((l.length ≤ 1000000)) (Classical.propDecidable _) ((some (vwH l, .tup [.t (.int .i64 (plN l r : Int)), .t (.bool (plB l r))]))) none
    | _, _ => none
  | _, _ => none

theorem ct28 : CT [(41, ⟨[true, false, false], G41⟩), (42, ⟨[false, false], treeG F42⟩)] [0, 1, 3, 4, 5] [(1, [⟨0, [0], [], []⟩, ⟨0, [6], [], []⟩, ⟨0, [7], [], []⟩, ⟨1, [8], [], []⟩, ⟨1, [3], [], []⟩, ⟨1, [9, 10], [3, 4], []⟩, ⟨0, [11], [3, 4, 5], []⟩, ⟨0, [11], [3, 4, 5], []⟩, ⟨0, [12], [3, 4, 5], []⟩, ⟨0, [13], [3, 4, 5], []⟩])] := ⟨(.cons g41 (.cons c42.g (.nil _)))⟩

theorem bs_c (l : List TCoin) (r : TRef) (h : l.length ≤ 1000000) : G41 [.sq 37 (l.map coinT)] [.own 0, .t (.st [.ba 32 r.h.1, .int .u32 (r.i.toNat : Int)]), .t (.fn 42)] = some (csH l, .tup [.t (.int .i64 (plN l r : Int)), .t (.bool (plB l r))]) := by
  show G41 (csH l) [.own 0, .t (rfT r), .t (.fn 42)] = _
  simp only [G41, inv_of csH_inj, inv_of rfT_inj]
  exact if_pos (And.intro trivial h)

set_option maxHeartbeats 1000000 in
theorem g28 : GCon Try.prog 28 G28 := by
  refine gconc E_ok (rs := [.tmp 4 3, .tmp 5 4]) Try.func28 rfl Try.ntmps28 (by kernel_rfl) rfl (by decide) G28 (np := 2) ?_ ?_
  · intro HB xs h; unfold G28; split <;> first | rfl | (simp at h; done)
  intro HB xs H r hG hwf hex
  unfold G28 at hG
  split at hG <;> try (cases hG; done)
  split at hG <;> try (cases hG; done)
  rename_i l r hl hr
  split at hG
  case isFalse => cases hG
  rename_i hlen
  cases hG
  obtain rfl := inv_inv hl
  obtain rfl := inv_inv hr
  have h := bs_c l r hlen
  simp only [vwH, rfT]
  generalize plN l r = R at *
  generalize plB l r = F at *
  simp only [csH] at h
  repeat refine St (And.intro (And.intro @gentry.eq_1 <| @gentry.eq_2) <| h) ct28 ?_
  exact AWP.ret (Fin trivial [] [0, 1])
theorem place_c (l : List TCoin) (r : TRef) (h : l.length ≤ 1000000) : G28 [.bx (.st [.own 1]), .sq 37 (l.map coinT)] [.ptr 0 0 [], .t (.st [.ba 32 r.h.1, .int .u32 (r.i.toNat : Int)])] = some (vwH l, .tup [.t (.int .i64 (plN l r : Int)), .t (.bool (plB l r))]) := by
  show G28 (vwH l) [.ptr 0 0 [], .t (rfT r)] = _
  simp only [G28, inv_of vwH_inj, inv_of rfT_inj]
  exact if_pos h

end Go.Fw

end

section
/- view: a coin told, all coins told, a copy. -/
namespace Go.Fw
open Go Go.Proofs
set_option linter.unusedVariables false
set_option linter.unusedSimpArgs false

theorem take_coin {l : List TCoin} {i : Nat} (hi : i < l.length) : (l.take (i + 1)).map coinT = (l.take i).map coinT ++ [coinT (l.getD i dCoin)] := by
  rw [List.take_add_one, List.getElem?_eq_getElem hi, List.map_append]
  simp [List.getD_eq_getElem?_getD, hi]
def getC (l : List TCoin) (r : TRef) : TCoin := if plB l r = true then l.getD (plN l r) dCoin else dCoin

noncomputable def G11 : GFun
  | [], [.t .nilp, .t y] => match inv rfT y with
    | some r => some ([], .tup [.t (coinT dCoin), .t (.bool false)])
    | none => none
  | HB, [.ptr 0 0 [], .t y] => match inv vwH HB, inv rfT y with
    | some l, some r => @ite _ ((l.length ≤ 1000000 ∧ lowL l = true)) (Classical.propDecidable _) ((some (vwH l, .tup [.t (coinT (getC l r)), .t (.bool (plB l r))]))) none
    | _, _ => none
  | _, _ => none

theorem ct11 : CT [(27, ⟨[false], treeG F27⟩), (28, ⟨[true, false], G28⟩)] [0, 1, 3, 4, 5, 6, 7, 9, 18] [] := ⟨(.cons c27.g (.cons g28 (.nil _)))⟩

theorem dCoin_T : coinT dCoin = .st [.st [.ba 32 (zby 32), .int .u32 0], .st [.int .u64 0, .by []], .int .u32 0, .bool false] := rfl
theorem plB_lt {l : List TCoin} {r : TRef} (h : plB l r = true) : plN l r < l.length := by
  unfold plB at h
  rw [Bool.and_eq_true] at h
  exact of_decide_eq_true h.1

set_option maxHeartbeats 1000000 in
theorem g11 : GCon Try.prog 11 G11 := by
  refine gconc E_ok (rs := [.cell 4 39, .tmp 5 4]) Try.func11 rfl Try.ntmps11 (by kernel_rfl) rfl (by decide) G11 (np := 2) ?_ ?_
  · intro HB xs h; unfold G11; split <;> first | rfl | (simp at h; done)
  intro HB xs H r hG hwf hex
  unfold G11 at hG
  split at hG <;> try (cases hG; done)
  · split at hG <;> try (cases hG; done)
    rename_i r hr
    cases hG
    obtain rfl := inv_inv hr
    simp only [rfT]
    rw [dCoin_T]
    repeat refine St (And.intro @gentry.eq_1 <| @gentry.eq_2) ct11 ?_
    exact AWP.ret (Fin trivial [] [])
  split at hG <;> try (cases hG; done)
  rename_i l r hl hr
  split at hG
  case isFalse => cases hG
  rename_i hc
  cases hG
  obtain ⟨hlen, hlow⟩ := hc
  obtain rfl := inv_inv hl
  obtain rfl := inv_inv hr
  have h := place_c l r hlen
  have hml : (l.map coinT).length = l.length := List.length_map ..
  simp only [vwH, rfT, getC]
  cases hb : plB l r with
  | false =>
    rw [hb] at h
    rw [if_neg (by simp), dCoin_T]
    generalize plN l r = R at *
    simp only [vwH] at h
    repeat refine St (And.intro (And.intro @gentry.eq_1 <| @gentry.eq_2) <| h) ct11 ?_
    exact AWP.ret (Fin trivial [] [0, 1])
  | true =>
    have hlt := plB_lt hb
    have hlt2 : (plN l r : Int) < (l.length : Int) := by omega
    rw [hb] at h
    rw [if_pos rfl]
    have hg := coin_getD l (plN l r) hlt
    have hc := copied_c (lowL_get hlow hlt)
    rw [coinT_st] at hg ⊢
    generalize l.getD (plN l r) dCoin = c at *
    generalize plN l r = R at *
    simp only [vwH] at h
    repeat refine St (And.intro (And.intro @gentry.eq_1 <| @gentry.eq_2) <| And.intro h <| And.intro hml <| And.intro hlt <| And.intro hlt2 <| And.intro hg <| hc) ct11 ?_
    exact AWP.ret (Fin trivial [] [0, 1])
theorem get_c (l : List TCoin) (r : TRef) (h : l.length ≤ 1000000) (h2 : lowL l = true) : G11 [.bx (.st [.own 1]), .sq 37 (l.map coinT)] [.ptr 0 0 [], .t (.st [.ba 32 r.h.1, .int .u32 (r.i.toNat : Int)])] = some (vwH l, .tup [.t (coinT (getC l r)), .t (.bool (plB l r))]) := by
  show G11 (vwH l) [.ptr 0 0 [], .t (rfT r)] = _
  simp only [G11, inv_of vwH_inj, inv_of rfT_inj]
  exact if_pos ⟨h, h2⟩

noncomputable def G10 : GFun
  | [], [.t .nilp] => some ([], .t (.sq 37 []))
  | HB, [.ptr 0 0 []] => match inv vwH HB with
    | some l => @ite _ ((l.length ≤ 1000000 ∧ lowL l = true)) (Classical.propDecidable _) ((some (vwH l ++ [.sq 37 (l.map coinT)], .own 2))) none
    | none => none
  | _, _ => none

theorem ct10 : CT [(27, ⟨[false], treeG F27⟩)] [0, 2, 3, 5, 7, 11, 12, 13, 14] [] := ⟨(.cons c27.g (.nil _))⟩

set_option maxHeartbeats 1000000 in
theorem g10 : GCon Try.prog 10 G10 := by
  refine gconc E_ok (rs := [.tmp 2 22]) Try.func10 rfl Try.ntmps10 (by kernel_rfl) rfl (by decide) G10 (np := 1) ?_ ?_
  · intro HB xs h; unfold G10; split <;> first | rfl | (simp at h; done)
  intro HB xs H r hG hwf hex
  unfold G10 at hG
  split at hG <;> try (cases hG; done)
  · cases hG
    repeat refine St (And.intro @gentry.eq_1 <| @gentry.eq_2) ct10 ?_
    exact AWP.ret (Fin trivial [] [])
  split at hG <;> try (cases hG; done)
  rename_i l hl
  split at hG
  case isFalse => cases hG
  rename_i hc
  cases hG
  obtain ⟨hlen, hlow⟩ := hc
  obtain rfl := inv_inv hl
  have hml : (l.map coinT).length = l.length := List.length_map ..
  simp only [vwH, List.cons_append, List.nil_append]
  repeat refine St (And.intro (And.intro @gentry.eq_1 <| @gentry.eq_2) <| hml) ct10 ?_
  refine AWP.weak (Wo 3 (.sq 37 [])) ?_
  refine AWP.loop (G := { i : Nat // i ≤ l.length }) (fun i => ⟨[(0, .ptr 0 0 []), (3, .own 2), (11, .own 1), (12, .t (.int .i64 (l.length : Int))), (13, .t (.int .i64 (i.1 : Int)))], [.bx (.st [.own 1]), .sq 37 (l.map coinT), .sq 37 ((l.take i.1).map coinT)]⟩) (fun i => l.length - i.1) ⟨0, Nat.zero_le _⟩ (Wt (And.intro @List.take_zero.{0} <| @List.map_nil.{0, 0}) [0, 3, 11, 12, 13] [0, 1, 2]) ?_
  rintro ⟨i, hi⟩
  dsimp only
  by_cases hlt : i < l.length
  · have hlt2 : (i : Int) < (l.length : Int) := by omega
    have hw1 : IntKind.i64.wrap ((i : Int) + 1) = ((i + 1 : Nat) : Int) := by rw [wrap_i64 (by omega) (by omega)]; omega
    have hg := coin_getD l i hlt
    have hc := copied_c (lowL_get hlow hlt)
    have ht := take_coin hlt
    have htl : ((l.take i).map coinT).length ≤ 1000000 := by rw [List.length_map, List.length_take]; omega
    rw [coinT_st] at hg ht
    generalize l.getD i dCoin = c at *
    generalize hX : (l.take i).map coinT = X at *
    repeat refine St (And.intro hlt <| And.intro hlt2 <| And.intro hml <| And.intro hw1 <| And.intro hg <| And.intro hc <| htl) ct10 ?_
    exact ⟨⟨i + 1, by omega⟩, (Wt ht [0, 3, 11, 12, 13] [0, 1, 5]), by simp only; omega⟩
  obtain rfl : i = l.length := by omega
  have hlt2 : ¬ (l.length : Int) < (l.length : Int) := by omega
  rw [List.take_length]
  repeat refine St hlt2 ct10 ?_
  exact AWP.ret (Fin trivial [] [0, 1, 2])
theorem list_c (l : List TCoin) (h : l.length ≤ 1000000) (h2 : lowL l = true) : G10 [.bx (.st [.own 1]), .sq 37 (l.map coinT)] [.ptr 0 0 []] = some (vwH l ++ [.sq 37 (l.map coinT)], .own 2) := by
  show G10 (vwH l) _ = _
  simp only [G10, inv_of vwH_inj]
  exact if_pos ⟨h, h2⟩

noncomputable def G21 : GFun
  | [], [.t .nilp] => some ([], .t .nilp)
  | HB, [.ptr 0 0 []] => match inv vwH HB with
    | some l => @ite _ ((l.length ≤ 1000000 ∧ lowL l = true)) (Classical.propDecidable _) ((some (vwH l ++ [.bx (.st [.own 3]), .sq 37 (l.map coinT)], .ptr 2 0 []))) none
    | none => none
  | _, _ => none

theorem ct21 : CT [(10, ⟨[true], G10⟩)] [0, 2, 4] [] := ⟨(.cons g10 (.nil _))⟩

set_option maxHeartbeats 1000000 in
theorem g21 : GCon Try.prog 21 G21 := by
  refine gconc E_ok (rs := [.tmp 2 29]) Try.func21 rfl Try.ntmps21 (by kernel_rfl) rfl (by decide) G21 (np := 1) ?_ ?_
  · intro HB xs h; unfold G21; split <;> first | rfl | (simp at h; done)
  intro HB xs H r hG hwf hex
  unfold G21 at hG
  split at hG <;> try (cases hG; done)
  · cases hG
    repeat refine St (And.intro @gentry.eq_1 <| @gentry.eq_2) ct21 ?_
    exact AWP.ret (Fin trivial [] [])
  split at hG <;> try (cases hG; done)
  rename_i l hl
  split at hG
  case isFalse => cases hG
  rename_i hc
  cases hG
  obtain ⟨hlen, hlow⟩ := hc
  obtain rfl := inv_inv hl
  have h := list_c l hlen hlow
  simp only [vwH, List.cons_append, List.nil_append] at h ⊢
  repeat refine St (And.intro (And.intro @gentry.eq_1 <| @gentry.eq_2) <| h) ct21 ?_
  exact AWP.ret (Fin trivial [] [0, 1, 3, 2])

end Go.Fw

end

section
/- slices.Insert on rows of coins: the run itself. -/
namespace Go.Fw
open Go Go.Proofs
set_option linter.unusedVariables false
set_option linter.unusedSimpArgs false

theorem t22 : Try.prog.underlying 22 = some (.slice 39) := by kernel_rfl
theorem t3 : Try.prog.underlying 3 = some (.int .i64) := by kernel_rfl
theorem t4 : Try.prog.underlying 4 = some .bool := by kernel_rfl
theorem s39 : (E 39).size = 37 := by kernel_rfl
theorem t39k : TyOk Try.prog E 39 := E_ok.size s39 (by decide)
theorem z39 : ∀ w, (Go.sizeOf 39).run Try.prog w = .ok 37 w := fun w => by rw [← s39]; exact t39k.sizeOf w
theorem mixd : Try.prog.follows .mixedOrders = true := by kernel_rfl

set_option maxHeartbeats 4000000 in
set_option maxRecDepth 100000 in
theorem ins_shift (g n cap i vb voff vc : Nat) (w : World) (hi : i < n) (hroom : n + 1 ≤ cap) (hc63 : cap ≤ maxLen) (hvb : vb ≠ g) (Q : Exit → World → Prop)
   (hov : ∀ o lb cb, (callFunc 51 #[.slice (some ⟨vb, voff, none⟩) 1 vc, .slice (some ⟨g, o, none⟩) lb cb]).run Try.prog w = .ok (.value (.bool false)) w)
   (W1 W2 : World)
   (hcp1 : ∀ ty dc sc, (Builtin.copy_ #[22, 22] ty #[.slice (some ⟨g, (i + 1) * 37, none⟩) (n - i) dc, .slice (some ⟨g, i * 37, none⟩) (n + 1 - i) sc]).run Try.prog w.drew = .ok (goInt (n - i)) W1)
   (hcp2 : ∀ ty dc, (Builtin.copy_ #[22, 22] ty #[.slice (some ⟨g, i * 37, none⟩) (n + 1 - i) dc, .slice (some ⟨vb, voff, none⟩) 1 vc]).run Try.prog W1 = .ok (goInt 1) W2) :
    Calls Try.prog 38 #[.slice (some ⟨g, 0, none⟩) n cap, .int .i64 i, .slice (some ⟨vb, voff, none⟩) 1 vc] w fun e w' => e = .returned (.slice (some ⟨g, 0, none⟩) (n + 1) cap) ∧ w' = W2 := by
  have u22 := t22; have u3 := t3; have u4 := t4; have z39 := z39
  have v22 := run_underlying t22; have v3 := run_underlying t3; have v4 := run_underlying t4
  have mixed := mixd
  have hz2 : ¬ ((i : Int) = (n : Int)) := by omega
  have hw1 : IntKind.i64.wrap ((i : Int) + 1) = (i : Int) + 1 := by unfold maxLen at hc63; rw [IntKind.wrap_i64]; omega
  have hw2 : IntKind.i64.wrap ((n : Int) + 1) = (n : Int) + 1 := by unfold maxLen at hc63; rw [IntKind.wrap_i64]; omega
  have hb1 : (0 : Int) ≤ (i : Int) + 1 := by omega
  have hin : i ≤ n := by omega
  have htn : ((i : Int) + 1).toNat = i + 1 := by omega
  have hb2 : ¬ (cap = i + 1) := by omega
  have hb3 : (i : Int) ≤ (n : Int) + 1 := by omega
  have hb4 : ¬ (cap = i) := by omega
  have hb5 : (i : Int) + 1 ≤ (n : Int) + 1 := by omega
  go_enter Try.func38, Try.ntmps38
  go_wp2_with (simp only [hov])
  go_region_law_o (refine step_copy_runI rfl _ _ 22 22 rfl _ _ (by simp [Act.eval, Act.put]) (by simp [Act.eval, Act.put]) (hcp1 _ _ _) ?_)
  go_wp2_with (at_builtin; refine wpList_copy_runI _ rfl _ _ 22 22 rfl _ _ rfl rfl (hcp2 _ _) ?_)
  go_ret
  exact ⟨rfl, rfl⟩


set_option maxHeartbeats 4000000 in
set_option maxRecDepth 100000 in
/-- At the end. -/
theorem ins_end (base : Option Addr) (n cap vb voff vc : Nat) (w : World) (hnc : n ≤ cap) (hc63 : cap ≤ maxLen) (hnil : base = none → n = 0 ∧ cap = 0) (v : Value) (w1 : World)
   (hra : ∀ ty, (Builtin.append_ #[22, 22] ty #[.slice base n cap, .slice (some ⟨vb, voff, none⟩) 1 vc]).run Try.prog w = .ok v w1) :
    Calls Try.prog 38 #[.slice base n cap, .int .i64 n, .slice (some ⟨vb, voff, none⟩) 1 vc] w fun e w' => e = .returned v ∧ w' = w1 := by
  have u22 := t22; have u3 := t3; have u4 := t4; have z39 := z39
  have v22 := run_underlying t22; have v3 := run_underlying t3; have v4 := run_underlying t4
  have mixed := mixd
  cases base with
  | none =>
    obtain ⟨rfl, rfl⟩ := hnil rfl
    go_enter Try.func38, Try.ntmps38
    go_wp2_with (at_builtin; refine Lib.wpList_append_run _ rfl _ _ _ _ rfl _ _ rfl rfl _ _ (hra _) ?_)
    all_goals (go_ret; exact ⟨rfl, rfl⟩)
  | some a =>
    obtain ⟨ab, ao, asp⟩ := a
    go_enter Try.func38, Try.ntmps38
    go_wp2_with (at_builtin; refine Lib.wpList_append_run _ rfl _ _ _ _ rfl _ _ rfl rfl _ _ (hra _) ?_)
    all_goals (go_ret; exact ⟨rfl, rfl⟩)

set_option maxHeartbeats 4000000 in
set_option maxRecDepth 100000 in
/-- Within, without room. -/
theorem ins_grow (g n cap i vb voff vc : Nat) (w : World) (hi : i < n) (hnc : n ≤ cap) (hroom : cap < n + 1) (hc63 : cap ≤ 1000000) (r cap2 : Nat) (hcap2 : n + 1 ≤ cap2) (hc2 : cap2 ≤ maxLen) (W1 W2 W3 : World)
   (hra : ∀ ty, (Builtin.append_ #[22, 3] ty #[.slice (some ⟨g, 0, none⟩) i cap, .int .i64 ((n : Int) + 1 - i)]).run Try.prog w = .ok (.slice (some ⟨r, 0, none⟩) (n + 1) cap2) W1)
   (hcp1 : ∀ ty dc, (Builtin.copy_ #[22, 22] ty #[.slice (some ⟨r, i * 37, none⟩) (n + 1 - i) dc, .slice (some ⟨vb, voff, none⟩) 1 vc]).run Try.prog W1 = .ok (goInt 1) W2)
   (hcp2 : ∀ ty dc sc, (Builtin.copy_ #[22, 22] ty #[.slice (some ⟨r, (i + 1) * 37, none⟩) (n - i) dc, .slice (some ⟨g, i * 37, none⟩) (n - i) sc]).run Try.prog W2.drew = .ok (goInt (n - i)) W3) :
    Calls Try.prog 38 #[.slice (some ⟨g, 0, none⟩) n cap, .int .i64 i, .slice (some ⟨vb, voff, none⟩) 1 vc] w fun e w' => e = .returned (.slice (some ⟨r, 0, none⟩) (n + 1) cap2) ∧ w' = W3 := by
  have u22 := t22; have u3 := t3; have u4 := t4; have z39 := z39
  have v22 := run_underlying t22; have v3 := run_underlying t3; have v4 := run_underlying t4
  have mixed := mixd
  have hz2 : ¬ ((i : Int) = (n : Int)) := by omega
  have hw1 : IntKind.i64.wrap ((i : Int) + 1) = (i : Int) + 1 := by rw [IntKind.wrap_i64]; omega
  have hw2 : IntKind.i64.wrap ((n : Int) + 1) = (n : Int) + 1 := by rw [IntKind.wrap_i64]; omega
  have hw3 : IntKind.i64.wrap ((n : Int) + 1 - (i : Int)) = (n : Int) + 1 - (i : Int) := by rw [IntKind.wrap_i64]; omega
  have hb1 : (0 : Int) ≤ (i : Int) + 1 := by omega
  have hin : i ≤ n := by omega
  have hic : i ≤ cap := by omega
  have htn : ((i : Int) + 1).toNat = i + 1 := by omega
  have hb2 : ¬ (cap2 = i + 1) := by omega
  have hb3 : (i : Int) ≤ (n : Int) + 1 := by omega
  have hb4 : ¬ (cap2 = i) := by omega
  have hb6 : ¬ (cap = i) := by omega
  have hb5 : (i : Int) + 1 ≤ (n : Int) + 1 := by omega
  go_enter Try.func38, Try.ntmps38
  go_wp2_with (at_builtin; refine Lib.wpList_append_run _ rfl _ _ _ _ rfl _ _ rfl rfl _ _ (hra _) ?_)
  go_wp2_with (at_builtin; refine wpList_copy_runI _ rfl _ _ 22 22 rfl _ _ rfl rfl (hcp1 _ _) ?_)
  go_region_law_o (refine step_copy_runI rfl _ _ 22 22 rfl _ _ (by simp [Act.eval, Act.put]) (by simp [Act.eval, Act.put]) (hcp2 _ _ _) ?_)
  go_wp2
  go_ret
  exact ⟨rfl, rfl⟩


theorem wpList_clear_runI {P : Program} (w : World) {ops : Array Oper} {rest : List Oper} {o : Oper} {a : Act} {Q : Exit → Act → World → Prop} (hgd : o.guard = none) (x : Operand) (t : TypeId)
    (ho : o.op = .call { callee := .builtin .clear, args := #[x], argTypes := #[t] }) (v : Value) (hx : a.eval x = v) {v' : Value} {w' : World}
    (hr : (Builtin.clear_ #[t] o.type #[v]).run P w = .ok v' w') (h : wpList P ops Q rest (a.put o.dst v') w') : wpList P ops Q (o :: rest) a w :=
  wpList_plain hgd fun _ hK => by
    unfold Oper.wp
    simp [execOp, ho, resolve, invoke, builtin, hx, hr, Result.andThen]
    exact hK _ _ h

set_option maxHeartbeats 4000000 in
set_option maxRecDepth 100000 in
/-- slices.Delete. -/
theorem del_run (g n cap i j : Nat) (w : World) (hi : i < j) (hj : j ≤ n) (hnc : n ≤ cap) (hc63 : cap ≤ maxLen) (W1 W2 : World)
   (X : Array Value) (hl : (loadCellsFrom ⟨g, j * 37, none⟩ 0 ((n - j) * 37) #[]).run Try.prog w.drew = .ok X w.drew) (hst : (storeCells ⟨g, i * 37, none⟩ X.toList).run Try.prog w.drew = .ok () W1) (hend : j = cap → W1 = w.drew)
   (hcl : ∀ ty cp, (Builtin.clear_ #[22] ty #[.slice (some ⟨g, (i + (n - j)) * 37, none⟩) (n - (i + (n - j))) cp]).run Try.prog W1 = .ok (.tuple #[]) W2) :
    Calls Try.prog 29 #[.slice (some ⟨g, 0, none⟩) n cap, .int .i64 i, .int .i64 j] w fun e w' => e = .returned (.slice (some ⟨g, 0, none⟩) (i + (n - j)) cap) ∧ w' = W2 := by
  have u22 := t22; have u3 := t3; have u4 := t4; have z39 := z39
  have v22 := run_underlying t22; have v3 := run_underlying t3; have v4 := run_underlying t4
  have mixed := mixd
  have hz2 : ¬ ((i : Int) = (j : Int)) := by omega
  have hb1 : i ≤ j := by omega
  have hb2 : i ≤ cap := by omega
  have hb3 : ¬ (cap = i + (n - j)) := by omega
  have hb4 : i + (n - j) ≤ n := by omega
  have hb5 : j ≤ cap := by omega
  have hb6 : ¬ (cap = i) := by omega
  have hb7 : ¬ (n = i) := by omega
  have hb8 : i + (n - j) ≤ cap := by omega
  go_enter Try.func29, Try.ntmps29
  by_cases hjc : cap = j
  · have hjn : n = j := by omega
    have hW := hend hjc.symm
    subst hjn
    subst hjc
    subst hW
    have e1 : cap - cap = 0 := by omega
    have e2 : i + 0 = i := rfl
    simp only [e1, e2] at hcl hst hl ⊢
    go_wp2
    go_region_law_o (fail)
    go_wp2_with (at_builtin; refine wpList_clear_runI _ rfl _ 22 rfl _ rfl (hcl _ _) ?_)
    go_ret
    exact ⟨rfl, rfl⟩
  · go_wp2
    go_region_law_o (fail)
    go_wp2_with (at_builtin; refine wpList_clear_runI _ rfl _ 22 rfl _ rfl (hcl _ _) ?_)
    go_ret
    exact ⟨rfl, rfl⟩

end Go.Fw

end

section
/- slices.Delete and slices.Insert on rows of coins: what they leave. -/
namespace Go.Fw
open Go Go.Proofs
set_option linter.unusedVariables false
set_option linter.unusedSimpArgs false

theorem cell_row {w : World} {g : Nat} {cur : Array Value} {e : TypeId} {fr : Nat × Nat} (hh : w.heap[g]? = some (.cells cur e fr)) (o j : Nat) : w.cell? (Addr.add ⟨g, o, none⟩ j) = cur[o + j]? := by
  rw [Addr.add_lit]
  simp [World.cell?, hh]

theorem coin_cells (l : List TCoin) : (T.cellsL (l.map coinT)).length = l.length * 37 := by
  induction l with
  | nil => rfl
  | cons c l ih =>
    have e : T.cellsL ((c :: l).map coinT) = T.cellsL ([coinT c] ++ l.map coinT) := rfl
    have e1 : (T.cellsL [coinT c]).length = 37 := by
      have := c.r.h.2
      simp [coinT, rfT, outT, T.cellsL, T.cells, this]
    rw [e, cellsL_append, List.length_append, ih, e1, List.length_cons]; omega

/-- The cells of a row, as the memory has them. -/
def Rl (M : Nat → Option Obj) (cs : List T) (vs : List Value) : Prop := cs.length = vs.length ∧ ∀ (j : Nat) (c : T), cs[j]? = some c → ∃ u, vs[j]? = some u ∧ RelT M c u
theorem Rl.append {M : Nat → Option Obj} {a b : List T} {x y : List Value} (h : Rl M a x) (k : Rl M b y) : Rl M (a ++ b) (x ++ y) := by
  refine ⟨by rw [List.length_append, List.length_append, h.1, k.1], fun j c hj => ?_⟩
  rcases Nat.lt_or_ge j a.length with hlt | hge
  · rw [List.getElem?_append_left hlt] at hj
    rw [List.getElem?_append_left (by rw [← h.1]; exact hlt)]
    exact h.2 j c hj
  · rw [List.getElem?_append_right hge] at hj
    rw [List.getElem?_append_right (by rw [← h.1]; exact hge), ← h.1]
    exact k.2 _ c hj
/-- A part of a row. -/
theorem Rl.part {M : Nat → Option Obj} {l : List TCoin} {cur : List Value} (hn : l.length * 37 ≤ cur.length) (h : ∀ (j : Nat) (c : T), (T.cellsL (l.map coinT))[j]? = some c → ∃ u, cur[j]? = some u ∧ RelT M c u) (i j : Nat) (hi : i ≤ j) (hj : j ≤ l.length) :
    Rl M (T.cellsL (((l.take j).drop i).map coinT)) ((cur.take (j * 37)).drop (i * 37)) := by
  have e : l = l.take i ++ ((l.take j).drop i ++ l.drop j) := by
    have h1 : l.take i = (l.take j).take i := by rw [List.take_take, Nat.min_eq_left hi]
    rw [h1, ← List.append_assoc, List.take_append_drop, List.take_append_drop]
  have hl : ((l.take j).drop i).length = j - i := by rw [List.length_drop, List.length_take]; omega
  refine ⟨?_, fun k c hk => ?_⟩
  · rw [coin_cells, hl, List.length_drop, List.length_take]
    have : j * 37 ≤ l.length * 37 := Nat.mul_le_mul_right _ hj
    rw [Nat.min_eq_left (by omega), Nat.sub_mul]
  · have hlt : k < (j - i) * 37 := by rw [← hl, ← coin_cells]; exact (List.getElem?_eq_some_iff.1 hk).1
    rw [Nat.sub_mul] at hlt
    have := h (i * 37 + k) c (by
      rw [e, List.map_append, List.map_append, cellsL_append, cellsL_append, List.getElem?_append_right (by rw [coin_cells, List.length_take]; have : min i l.length = i := by omega
                                                                                                            rw [this]; omega), coin_cells, List.length_take, Nat.min_eq_left (by omega), show i * 37 + k - i * 37 = k by omega]
      rw [List.getElem?_append_left (by rw [coin_cells, hl, Nat.sub_mul]; exact hlt)]
      exact hk)
    rw [List.getElem?_drop, List.getElem?_take, if_pos (by omega)]
    exact this

theorem Rl.one {M : Nat → Option Obj} {l : List T} {vs : List Value} (h : Rl M (T.cellsL l) vs) : ∀ v ∈ vs, v.oneCell' = true := by
  intro v hv
  obtain ⟨j, hj, rfl⟩ := List.getElem_of_mem hv
  have hlt : j < (T.cellsL l).length := by rw [h.1]; exact hj
  obtain ⟨u, hu, hr⟩ := h.2 j _ (List.getElem?_eq_getElem hlt)
  rw [List.getElem?_eq_getElem hj] at hu
  cases hu
  exact hr.oneCell (T.cellsL_flat l _ (List.getElem_mem hlt))

theorem wfL_mem' : ∀ {xs : List T}, T.wfL xs → ∀ x ∈ xs, x.wf
  | [], _, x, hx => by cases hx
  | y :: ys, h, x, hx => by
    simp only [T.wfL] at h
    rcases List.mem_cons.1 hx with rfl | hx
    · exact h.1
    · exact wfL_mem' h.2 x hx
theorem wfL_all : ∀ {xs : List T}, (∀ x ∈ xs, x.wf) → T.wfL xs
  | [], _ => by simp [T.wfL]
  | y :: ys, h => by
    simp only [T.wfL]
    exact ⟨h y (List.mem_cons_self ..), wfL_all fun x hx => h x (List.mem_cons_of_mem _ hx)⟩
theorem wf_coins {k : List TCoin} (hk : ∀ c ∈ k, T.wf (coinT c)) (hm : k.length ≤ maxLen) : T.wf (.sq 37 (k.map coinT)) := by
  simp only [T.wf]
  refine ⟨by decide, by rw [List.length_map]; exact hm, ?_, wfL_all ?_⟩
  · intro x hx
    obtain ⟨c, _, rfl⟩ := List.mem_map.1 hx
    simp [coinT, rfT, outT, T.size, T.sizeL]
  · intro x hx
    obtain ⟨c, hc, rfl⟩ := List.mem_map.1 hx
    exact hk c hc
theorem wf_of {l : List TCoin} (h : T.wf (.sq 37 (l.map coinT))) : ∀ c ∈ l, T.wf (coinT c) := by
  simp only [T.wf] at h
  exact fun c hc => wfL_mem' h.2.2.2 _ (List.mem_map.2 ⟨c, hc, rfl⟩)

theorem setRow_len (w : World) (g : Nat) (cs : Array Value) : (w.setRow g cs).heap.size = w.heap.size := by simp [World.setRow]

set_option maxHeartbeats 1000000 in
theorem del_ok {c : Ctx} {m : Mem} {w : World} (l : List TCoin) (i j : Nat) (hij : i < j) (hj : j ≤ l.length) (hinv : Inv c m w [.sq 37 (l.map coinT)]) :
    Calls Try.prog 29 #[m.η 0, .int .i64 i, .int .i64 j] w (fun e w' => ∃ m' v, e = .returned v ∧ MLe m.M m'.M ∧ Inv c m' w' [.no, .sq 37 ((delC l i j).map coinT)] ∧ RelA m' (.own 1) v) := by
  obtain ⟨hwf, hrow⟩ := hinv.ok 0 _ rfl
  rcases hrow with ⟨_, he⟩ | ⟨g, cap, cur, e, hd, hh, hs, hn, hc, hM, hcells⟩
  · have : l = [] := List.map_eq_nil_iff.1 he
    subst this
    simp at hj; omega
  rw [List.length_map] at hd hn
  rw [hd]
  have hcl' : l.length * 37 ≤ cur.size := by rw [hs]; exact Nat.mul_le_mul_right _ hn
  have hcl : l.length * 37 ≤ cur.toList.length := by simpa using hcl'
  have hcells' : ∀ (j : Nat) (c : T), (T.cellsL (l.map coinT))[j]? = some c → ∃ u, cur.toList[j]? = some u ∧ RelT m.M c u := fun j c h => by
    obtain ⟨u, hu, hr⟩ := hcells j c h
    exact ⟨u, by rw [Array.getElem?_toList]; exact hu, hr⟩
  have pB := Rl.part hcl hcells' j l.length hj (Nat.le_refl _)
  have pA := Rl.part hcl hcells' 0 i (Nat.zero_le _) (by omega)
  obtain ⟨X, hX⟩ : ∃ X, X = (cur.toList.take (l.length * 37)).drop (j * 37) := ⟨_, rfl⟩
  have hXl : X.length = (l.length - j) * 37 := by rw [hX, List.length_drop, List.length_take, Nat.sub_mul]; omega
  rw [← hX] at pB
  have hone := pB.one
  have hhd : w.drew.heap[g]? = some (.cells cur e (0, 0)) := hh
  have hl := run_loadCells_list (P := Try.prog) w.drew ⟨g, j * 37, none⟩ X (fun k v hk => by
    rw [cell_row hhd, ← Array.getElem?_toList]
    rw [hX, List.getElem?_drop, List.getElem?_take] at hk
    split at hk
    · exact hk
    · cases hk)
  rw [hXl] at hl
  have m1 : i * 37 + 37 ≤ j * 37 := by omega
  have m2 : j * 37 ≤ l.length * 37 := Nat.mul_le_mul_right _ hj
  have m3 : (l.length - j) * 37 = l.length * 37 - j * 37 := Nat.sub_mul ..
  have hst := run_storeCells_at Try.prog g (i * 37) e X 0 cur w.drew hhd (by rw [hXl]; omega) hone
  simp only [Nat.add_zero] at hst
  obtain ⟨C1, hC1⟩ : ∃ C1 : Array Value, C1 = (cur.toList.take (i * 37) ++ X ++ cur.toList.drop (i * 37 + X.length)).toArray := ⟨_, rfl⟩
  rw [← hC1] at hst
  have hC1s : C1.size = cap * 37 := by rw [hC1, ← hs]; simp; omega
  have hh1 := setRow_heap w.drew g cur C1 e (0, 0) hhd
  obtain ⟨zs, hzl, hcr⟩ := run_clear_row (P := Try.prog) (E := E) (w.drew.setRow g C1) t22 t39k (g := g) (o := (i + (l.length - j)) * 37) (n := l.length - (i + (l.length - j))) hh1 (by omega) (by rw [s39, hC1s, ← Nat.add_mul]; exact Nat.mul_le_mul_right _ (by omega))
  rw [s39] at hzl
  obtain ⟨C2, hC2⟩ : ∃ C2 : Array Value, C2 = (C1.toList.take ((i + (l.length - j)) * 37) ++ zs ++ C1.toList.drop ((i + (l.length - j)) * 37 + zs.length)).toArray := ⟨_, rfl⟩
  rw [← hC2] at hcr
  have hC2s : C2.size = cap * 37 := by
    rw [hC2, ← hC1s]
    have : (i + (l.length - j)) * 37 + zs.length ≤ C1.size := by rw [hzl, hC1s, ← Nat.add_mul]; exact Nat.mul_le_mul_right _ (by omega)
    simp; omega
  have hh2 := setRow_heap (w.drew.setRow g C1) g C1 C2 e (0, 0) hh1
  have hend : j = cap → w.drew.setRow g C1 = w.drew := by
    intro h
    have h0 : X = [] := List.eq_nil_of_length_eq_zero (by rw [hXl]; have : l.length - j = 0 := by omega
                                                          rw [this])
    rw [hC1, h0]
    simp only [List.append_nil, List.length_nil, Nat.add_zero, List.take_append_drop, Array.toArray_toList]
    exact setRow_self w.drew g cur e (0, 0) hhd
  have hdl : (delC l i j).length = i + (l.length - j) := by unfold delC; rw [List.length_append, List.length_take, List.length_drop]; omega
  have key := own_new (w' := (w.drew.setRow g C1).setRow g C2) (ys := (delC l i j).map coinT) hinv (g := g) (by rw [hd]; rfl) rfl rfl rfl (by rw [setRow_len, setRow_len]; exact Nat.le_refl _)
    (fun b _ hb => by rw [setRow_other _ _ _ _ hb, setRow_other _ _ _ _ hb]; rfl)
    (wf_coins (fun c hc => wf_of hwf c (by unfold delC at hc; rcases List.mem_append.1 hc with h | h; exact List.mem_of_mem_take h; exact List.mem_of_mem_drop h)) (by rw [hdl]; omega))
    hh2 hC2s (by rw [List.length_map, hdl]; omega) hc (.inl rfl) (by
      intro k c hk
      unfold delC at hk
      rw [List.map_append, cellsL_append] at hk
      simp only [List.drop_zero, Nat.zero_mul, List.take_length] at pA pB
      have hlA : (cur.toList.take (i * 37) ++ X).length = (i + (l.length - j)) * 37 := by rw [List.length_append, List.length_take, hXl, Nat.add_mul]; omega
      obtain ⟨u, hu, hr⟩ := (pA.append pB).2 k c hk
      have hkl : k < (i + (l.length - j)) * 37 := by rw [← hlA]; exact (List.getElem?_eq_some_iff.1 hu).1
      refine ⟨u, ?_, hr⟩
      have hC1k : C1.toList[k]? = some u := by
        rw [hC1]
        rw [List.getElem?_append_left (by rw [hlA]; exact hkl)]
        exact hu
      have hlt : k < C1.toList.length := (List.getElem?_eq_some_iff.1 hC1k).1
      rw [hC2, List.getElem?_toArray, List.append_assoc, List.getElem?_append_left (by rw [List.length_take]; omega), List.getElem?_take, if_pos hkl]
      exact hC1k)
  rw [List.length_map, hdl] at key
  refine (del_run g l.length cap i j w hij hj hn hc (w.drew.setRow g C1) ((w.drew.setRow g C1).setRow g C2) X.toArray hl hst hend hcr).mono ?_
  rintro e' w' ⟨rfl, rfl⟩
  exact ⟨m.push (.slice (some ⟨g, 0, none⟩) (i + (l.length - j)) cap), _, rfl, fun _ _ h => h, key.1, key.2⟩


theorem coin_arg {M : Nat → Option Obj} {x : TCoin} {v : Value} (hv : RelT M (.sq 37 [coinT x]) v) : ∃ (vb voff vc : Nat) (vcur : Array Value) (vty : TypeId) (fr : Nat × Nat), v = .slice (some ⟨vb, voff, none⟩) 1 vc ∧ M vb = some (.cells vcur vty fr) ∧ T.wf (coinT x) ∧
    ∃ V : List Value, V.length = 37 ∧ (∀ k u, V[k]? = some u → vcur[voff + k]? = some u) ∧ Rl M (T.cellsL [coinT x]) V := by
  cases hv with
  | @sq _ _ b off cap cur ty fr hM hw hl hm g hc hr =>
    have hlen : (T.cellsL [coinT x]).length = 37 := coin_cells [x]
    refine ⟨b, off, cap, cur, ty, fr, rfl, hM, ?_, (List.range 37).map g, by simp, ?_, by simp [hlen], ?_⟩
    · exact wf_of (l := [x]) hw x (by simp)
    · intro k u hk
      rw [List.getElem?_map] at hk
      obtain ⟨n, hn, rfl⟩ := Option.map_eq_some_iff.1 hk
      obtain ⟨h1, h2⟩ := List.getElem?_eq_some_iff.1 hn
      simp at h1 h2
      subst h2
      exact hc k _ (List.getElem?_eq_getElem (by rw [hlen]; exact h1))
    · intro k c hk
      have hlt : k < 37 := by rw [← hlen]; exact (List.getElem?_eq_some_iff.1 hk).1
      exact ⟨g k, by simp [List.getElem?_map, List.getElem?_range hlt], hr k c hk⟩

theorem ovl_own {w : World} {g vb voff vc : Nat} {vcur cur : Array Value} {vty e : TypeId} {fr : Nat × Nat} (hv : w.heap[vb]? = some (.cells vcur vty fr)) (hh : w.heap[g]? = some (.cells cur e (0, 0))) (hne : vb ≠ g) (h1 : vcur.size ≠ 0) (h2 : cur.size ≠ 0) (o lb cb : Nat) :
    (callFunc 51 #[.slice (some ⟨vb, voff, none⟩) 1 vc, .slice (some ⟨g, o, none⟩) lb cb]).run Try.prog w = .ok (.value (.bool false)) w := by
  rw [run_callFunc_extern Try.func51 (by kernel_rfl) (by kernel_rfl) (by kernel_rfl) (e := Extern.SlicesOverlaps.overlaps #[22, 22] #[4]) (by kernel_rfl),
    run_overlaps_own w 22 4 39 t22 37 z39 ⟨vb, voff, none⟩ ⟨g, o, none⟩ 1 vc lb cb hne vty e vcur.size cur.size (by simp [World.shape?, hv]) (by simp [World.shape?, hh]) h1 h2 (by simp [World.frozen?, hh]) (by simp [World.frozen?, hh])]
  rfl


theorem three_at {A V X D : List Value} {M : Nat → Option Obj} {cs : List T} (h : Rl M cs (A ++ V ++ X)) (k : Nat) (c : T) (hk : cs[k]? = some c) : ∃ u, (A ++ V ++ (X ++ D))[k]? = some u ∧ RelT M c u := by
  obtain ⟨u, hu, hr⟩ := h.2 k c hk
  refine ⟨u, ?_, hr⟩
  rw [← List.append_assoc, List.getElem?_append_left (List.getElem?_eq_some_iff.1 hu).1]
  exact hu

theorem ins_wf {l : List TCoin} {x : TCoin} {i : Nat} (h : T.wf (.sq 37 (l.map coinT))) (hx : T.wf (coinT x)) (hm : l.length + 1 ≤ maxLen) (hi : i ≤ l.length) : T.wf (.sq 37 ((insC l i x).map coinT)) := by
  refine wf_coins (fun c hc => ?_) (by rw [insC_len]; exact hm)
  unfold insC at hc
  rcases List.mem_append.1 hc with hc | hc
  · rcases List.mem_append.1 hc with hc | hc
    · exact wf_of h c (List.mem_of_mem_take hc)
    · rw [List.mem_singleton.1 hc]; exact hx
  · exact wf_of h c (List.mem_of_mem_drop hc)

set_option maxHeartbeats 1000000 in
theorem ins_room {c : Ctx} {m : Mem} {w : World} (l : List TCoin) (i : Nat) (x : TCoin) (v : Value) (hi : i < l.length) (hinv : Inv c m w [.sq 37 (l.map coinT)]) (hv : RelT m.M (.sq 37 [coinT x]) v) (hwf : T.wf (.sq 37 (l.map coinT)))
    {g cap : Nat} {cur : Array Value} {e : TypeId} (hd : m.η 0 = .slice (some ⟨g, 0, none⟩) l.length cap) (hh : w.heap[g]? = some (.cells cur e (0, 0))) (hs : cur.size = cap * 37) (hn : l.length + 1 ≤ cap) (hc : cap ≤ maxLen) (hM : m.M g = none)
    (hcells : ∀ (j : Nat) (c : T), (T.cellsL (l.map coinT))[j]? = some c → ∃ u, cur[j]? = some u ∧ RelT m.M c u) :
    Calls Try.prog 38 #[m.η 0, .int .i64 i, v] w (fun e w' => ∃ m' v, e = .returned v ∧ MLe m.M m'.M ∧ Inv c m' w' [.no, .sq 37 ((insC l i x).map coinT)] ∧ RelA m' (.own 1) v) := by
  rw [hd]
  obtain ⟨vb, voff, vc, vcur, vty, fr, rfl, hMv, hxw, V, hVl, hVs, pV⟩ := coin_arg hv
  have hne : vb ≠ g := fun h => by rw [h, hM] at hMv; cases hMv
  have hhv := hinv.imm _ _ hMv
  have hcl' : l.length * 37 ≤ cur.size := by rw [hs]; exact Nat.mul_le_mul_right _ (by omega)
  have hcl : l.length * 37 ≤ cur.toList.length := by simpa using hcl'
  have hcells' : ∀ (j : Nat) (c : T), (T.cellsL (l.map coinT))[j]? = some c → ∃ u, cur.toList[j]? = some u ∧ RelT m.M c u := fun j c h => by
    obtain ⟨u, hu, hr⟩ := hcells j c h
    exact ⟨u, by rw [Array.getElem?_toList]; exact hu, hr⟩
  have pB := Rl.part hcl hcells' i l.length (by omega) (Nat.le_refl _)
  have pA := Rl.part hcl hcells' 0 i (Nat.zero_le _) (by omega)
  simp only [List.drop_zero, Nat.zero_mul, List.take_length] at pA pB
  obtain ⟨X, hX⟩ : ∃ X, X = (cur.toList.take (l.length * 37)).drop (i * 37) := ⟨_, rfl⟩
  have hXl : X.length = (l.length - i) * 37 := by rw [hX, List.length_drop, List.length_take, Nat.sub_mul]; omega
  rw [← hX] at pB
  have hhd : w.drew.heap[g]? = some (.cells cur e (0, 0)) := hh
  have m1 : (i + 1) * 37 ≤ l.length * 37 := Nat.mul_le_mul_right _ hi
  have m3 : (l.length - i) * 37 = l.length * 37 - i * 37 := Nat.sub_mul ..
  have m4 : (l.length + 1) * 37 ≤ cap * 37 := Nat.mul_le_mul_right _ hn
  have e1 : Nat.min (l.length + 1 - i) (l.length - i) = l.length - i := Nat.min_eq_right (by omega)
  have e2 : Nat.min 1 (l.length + 1 - i) = 1 := Nat.min_eq_left (by omega)
  obtain ⟨C1, hC1⟩ : ∃ C1 : Array Value, C1 = (cur.toList.take ((i + 1) * 37) ++ X ++ cur.toList.drop ((i + 1) * 37 + X.length)).toArray := ⟨_, rfl⟩
  have hcp1 : ∀ ty dc sc, (Builtin.copy_ #[22, 22] ty #[.slice (some ⟨g, (i + 1) * 37, none⟩) (l.length - i) dc, .slice (some ⟨g, i * 37, none⟩) (l.length + 1 - i) sc]).run Try.prog w.drew = .ok (goInt ((l.length : Int) - i)) (w.drew.setRow g C1) := by
    intro ty dc sc
    rw [hC1]
    have := run_copy_row (P := Try.prog) (E := E) w.drew (u := 22) (ty := ty) (dc := dc) (sc := sc) t22 t39k (o := (i + 1) * 37) (dn := l.length - i) (sn := l.length + 1 - i) hhd (a := ⟨g, i * 37, none⟩) (cs := X) (by rw [e1, s39, hXl]) (fun k v hk => by
      rw [cell_row hhd, ← Array.getElem?_toList]
      rw [hX, List.getElem?_drop, List.getElem?_take] at hk
      split at hk
      · exact hk
      · cases hk) (by rw [hXl]; omega) pB.one
    rw [e1, Int.ofNat_sub (by omega)] at this
    exact this
  have hC1s : C1.size = cap * 37 := by rw [hC1, ← hs]; simp; omega
  have hh1 := setRow_heap w.drew g cur C1 e (0, 0) hhd
  have hhv1 : (w.drew.setRow g C1).heap[vb]? = some (.cells vcur vty fr) := by rw [setRow_other _ _ _ _ hne]; exact hhv
  obtain ⟨C2, hC2⟩ : ∃ C2 : Array Value, C2 = (C1.toList.take (i * 37) ++ V ++ C1.toList.drop (i * 37 + V.length)).toArray := ⟨_, rfl⟩
  have hcp2 : ∀ ty dc, (Builtin.copy_ #[22, 22] ty #[.slice (some ⟨g, i * 37, none⟩) (l.length + 1 - i) dc, .slice (some ⟨vb, voff, none⟩) 1 vc]).run Try.prog (w.drew.setRow g C1) = .ok (goInt 1) ((w.drew.setRow g C1).setRow g C2) := by
    intro ty dc
    rw [hC2]
    have := run_copy_row (P := Try.prog) (E := E) (w.drew.setRow g C1) (u := 22) (ty := ty) (dc := dc) (sc := vc) t22 t39k (o := i * 37) (dn := l.length + 1 - i) (sn := 1) hh1 (a := ⟨vb, voff, none⟩) (cs := V) (by rw [e2, s39, hVl]) (fun k v hk => by
      rw [cell_row hhv1]
      exact hVs k v hk) (by rw [hVl, hC1s]; omega) pV.one
    rw [e2] at this
    exact this
  have hC2l : C2.toList = cur.toList.take (i * 37) ++ V ++ (X ++ cur.toList.drop ((i + 1) * 37 + X.length)) := by
    have hl : (cur.toList.take ((i + 1) * 37)).length = (i + 1) * 37 := by rw [List.length_take]; omega
    rw [hC2, hC1]
    simp only [List.append_assoc]
    congr 1
    · rw [List.take_append_of_le_length (by rw [hl]; omega), List.take_take, Nat.min_eq_left (by omega)]
    · congr 1
      rw [show i * 37 + V.length = (cur.toList.take ((i + 1) * 37)).length by rw [hl, hVl]; omega]
      exact List.drop_left
  have hC2s : C2.size = cap * 37 := by
    rw [hC2, ← hC1s]
    simp; omega
  have hh2 := setRow_heap (w.drew.setRow g C1) g C1 C2 e (0, 0) hh1
  have key := own_new (w' := (w.drew.setRow g C1).setRow g C2) (ys := (insC l i x).map coinT) hinv (g := g) (by rw [hd]; rfl) rfl rfl rfl (by rw [setRow_len, setRow_len]; exact Nat.le_refl _)
    (fun b _ hb => by rw [setRow_other _ _ _ _ hb, setRow_other _ _ _ _ hb]; rfl)
    (ins_wf hwf hxw (by omega) (by omega)) hh2 hC2s (by rw [List.length_map, insC_len]; exact hn) hc (.inl rfl) (by
      intro k c hk
      unfold insC at hk
      rw [List.map_append, List.map_append, cellsL_append, cellsL_append] at hk
      rw [← Array.getElem?_toList, hC2l]
      exact three_at ((pA.append pV).append pB) k c hk)
  rw [List.length_map, insC_len] at key
  refine (ins_shift g l.length cap i vb voff vc w hi hn hc hne (fun _ _ => True) (fun o lb cb => ovl_own hhv hh hne (by
      intro h0
      have := hVs 0 (V[0]'(by rw [hVl]; decide)) (List.getElem?_eq_getElem _)
      have := (Array.getElem?_eq_some_iff.1 this).1
      omega) (by omega) o lb cb) _ _ hcp1 hcp2).mono ?_
  rintro e' w' ⟨rfl, rfl⟩
  exact ⟨m.push (.slice (some ⟨g, 0, none⟩) (l.length + 1) cap), _, rfl, fun _ _ h => h, key.1, key.2⟩


theorem h22 : (E 22).ty = .sl 39 := by kernel_rfl
theorem b39 : (E 39).bytes ≤ 256 ∧ 0 < (E 39).bytes := by constructor <;> decide +kernel

set_option maxHeartbeats 1000000 in
theorem ins_last {c : Ctx} {m : Mem} {w : World} (l : List TCoin) (x : TCoin) (v : Value) (hl : l.length ≤ 1000000) (hinv : Inv c m w [.sq 37 (l.map coinT)]) (hv : RelT m.M (.sq 37 [coinT x]) v) :
    Calls Try.prog 38 #[m.η 0, .int .i64 l.length, v] w (fun e w' => ∃ m' v, e = .returned v ∧ MLe m.M m'.M ∧ Inv c m' w' [.no, .sq 37 ((insC l l.length x).map coinT)] ∧ RelA m' (.own 1) v) := by
  have ha : aAppend E [.sq 37 (l.map coinT)] 22 22 (.own 0) (.t (.sq 37 [coinT x])) = some (.own 1, [.no, .sq 37 ((insC l l.length x).map coinT)]) := by
    have e1 : isSlStr (E 22).ty = true := by rw [h22]; rfl
    have e2 : insC l l.length x = l ++ [x] := by simp [insC]
    simp only [aAppend, h22, srcT, catT, List.getElem?_cons_zero, e2, List.map_append, List.map_cons, List.map_nil]
    have hb := b39
    simp [appFin, T.row, s39, toBlk, isSlStr, rowT, hb.1, hb.2]
    omega
  obtain ⟨vb, voff, vc, vcur, vty, fr, rfl, hMv, hxw, V, hVl, hVs, pV⟩ := coin_arg hv
  have hown : RelA m (.own 0) (m.η 0) := .own (by rw [hinv.len]; simp)
  obtain ⟨m', w1, val, hx, hi', hr, hq⟩ := aAppend_ok (ty := 22) E_ok B_ok hinv hown (.t hv) ha
  have hra : ∀ ty, (Builtin.append_ #[22, 22] ty #[m.η 0, .slice (some ⟨vb, voff, none⟩) 1 vc]).run Try.prog w = .ok val w1 := fun ty => hq
  have post : ∀ e w', e = Ending.returned val ∧ w' = w1 → ∃ m' v, e = .returned v ∧ MLe m.M m'.M ∧ Inv c m' w' [.no, .sq 37 ((insC l l.length x).map coinT)] ∧ RelA m' (.own 1) v := by
    rintro e' w' ⟨rfl, rfl⟩
    exact ⟨m', val, rfl, hx.M, hi', hr⟩
  obtain ⟨hwf, hrow⟩ := hinv.ok 0 _ rfl
  rcases hrow with ⟨hd, he⟩ | ⟨g, cap, cur, e, hd, hh, hs, hn, hc, hM, hcells⟩
  · have : l = [] := List.map_eq_nil_iff.1 he
    subst this
    rw [hd] at hra ⊢
    exact (ins_end none 0 0 vb voff vc w (Nat.le_refl _) (by unfold maxLen; omega) (fun _ => ⟨rfl, rfl⟩) val w1 hra).mono post
  · rw [List.length_map] at hd hn
    rw [hd] at hra ⊢
    exact (ins_end _ l.length cap vb voff vc w hn hc (fun h => by cases h) val w1 hra).mono post


set_option maxHeartbeats 1000000 in
theorem ins_more {c : Ctx} {m : Mem} {w : World} (l : List TCoin) (i : Nat) (x : TCoin) (v : Value) (hi : i < l.length) (hl : l.length ≤ 1000000) (hinv : Inv c m w [.sq 37 (l.map coinT)]) (hv : RelT m.M (.sq 37 [coinT x]) v) (hwf : T.wf (.sq 37 (l.map coinT)))
    {g cap : Nat} {cur : Array Value} {e : TypeId} (hd : m.η 0 = .slice (some ⟨g, 0, none⟩) l.length cap) (hh : w.heap[g]? = some (.cells cur e (0, 0))) (hs : cur.size = cap * 37) (hnc : l.length ≤ cap) (hn : cap < l.length + 1) (hM : m.M g = none)
    (hcells : ∀ (j : Nat) (c : T), (T.cellsL (l.map coinT))[j]? = some c → ∃ u, cur[j]? = some u ∧ RelT m.M c u) :
    Calls Try.prog 38 #[m.η 0, .int .i64 i, v] w (fun e w' => ∃ m' v, e = .returned v ∧ MLe m.M m'.M ∧ Inv c m' w' [.no, .sq 37 ((insC l i x).map coinT)] ∧ RelA m' (.own 1) v) := by
  rw [hd]
  obtain ⟨vb, voff, vc, vcur, vty, fr, rfl, hMv, hxw, V, hVl, hVs, pV⟩ := coin_arg hv
  have hne : vb ≠ g := fun h => by rw [h, hM] at hMv; cases hMv
  have hhv := hinv.imm _ _ hMv
  have hcl' : l.length * 37 ≤ cur.size := by rw [hs]; exact Nat.mul_le_mul_right _ (by omega)
  have hcl : l.length * 37 ≤ cur.toList.length := by simpa using hcl'
  have hcells' : ∀ (j : Nat) (c : T), (T.cellsL (l.map coinT))[j]? = some c → ∃ u, cur.toList[j]? = some u ∧ RelT m.M c u := fun j c h => by
    obtain ⟨u, hu, hr⟩ := hcells j c h
    exact ⟨u, by rw [Array.getElem?_toList]; exact hu, hr⟩
  have pB := Rl.part hcl hcells' i l.length (by omega) (Nat.le_refl _)
  have pA := Rl.part hcl hcells' 0 i (Nat.zero_le _) (by omega)
  simp only [List.drop_zero, Nat.zero_mul, List.take_length] at pA pB
  obtain ⟨X, hX⟩ : ∃ X, X = (cur.toList.take (l.length * 37)).drop (i * 37) := ⟨_, rfl⟩
  have hXl : X.length = (l.length - i) * 37 := by rw [hX, List.length_drop, List.length_take, Nat.sub_mul]; omega
  rw [← hX] at pB
  obtain ⟨A, hA⟩ : ∃ A, A = cur.toList.take (i * 37) := ⟨_, rfl⟩
  have m1 : (i + 1) * 37 ≤ l.length * 37 := Nat.mul_le_mul_right _ hi
  have hAl : A.length = i * 37 := by rw [hA, List.length_take]; omega
  rw [← hA] at pA
  have hhd : w.drew.heap[g]? = some (.cells cur e (0, 0)) := hh
  have m3 : (l.length - i) * 37 = l.length * 37 - i * 37 := Nat.sub_mul ..
  obtain ⟨inf, z, hinf, _, _, hz, _⟩ := t39k.info
  have b39 := b39
  have hsrc := src_zeros (P := Try.prog) (E := E) (t := 22) (u := 3) (ty := 22) t22 t3 t39k (w := w) (k := .i64) (n := (l.length : Int) + 1 - i) (by omega) (by omega) b39.1 ⟨inf, hinf, hz⟩
  have hN : ((l.length : Int) + 1 - i).toNat = l.length + 1 - i := by omega
  rw [hN, s39] at hsrc
  have hfc : (Builtin.firstCells (E 39).size i (.slice (some ⟨g, 0, none⟩) i cap)).run Try.prog w.drew = .ok A.toArray w.drew := by
    have := run_loadCells_list (P := Try.prog) w.drew ⟨g, 0, none⟩ A (fun k v hk => by
      rw [cell_row hhd, ← Array.getElem?_toList, Nat.zero_add]
      rw [hA, List.getElem?_take] at hk
      split at hk
      · exact hk
      · cases hk)
    rw [hAl] at this
    rw [s39]
    exact this
  obtain ⟨cap2, rest, g1, g2, g3, g4⟩ := hsrc.new (s := .slice (some ⟨g, 0, none⟩) i cap) rfl hfc (by omega) (by
      have : (i + (l.length + 1 - i)) * (E 39).bytes ≤ (i + (l.length + 1 - i)) * 256 := Nat.mul_le_mul_left _ b39.1
      omega) (by unfold maxLen; omega) b39.2
  have hsum : i + (l.length + 1 - i) = l.length + 1 := by omega
  rw [hsum] at g1 g3 g4
  rw [s39] at g3
  obtain ⟨Z, hZ⟩ : ∃ Z, Z = (zeroRow z ((l.length + 1 - i) * 37)).toList := ⟨_, rfl⟩
  have hZl : Z.length = (l.length + 1 - i) * 37 := by rw [hZ]; simp [zeroRow]
  rw [← hZ] at g4
  have m5 : (l.length + 1 - i) * 37 = (l.length + 1) * 37 - i * 37 := Nat.sub_mul ..
  have m6 : (cap2 - (l.length + 1)) * 37 = cap2 * 37 - (l.length + 1) * 37 := Nat.sub_mul ..
  have m7 : (l.length + 1) * 37 ≤ cap2 * 37 := Nat.mul_le_mul_right _ g1
  obtain ⟨C0, hC0⟩ : ∃ C0 : Array Value, C0 = A.toArray ++ Z.toArray ++ rest := ⟨_, rfl⟩
  rw [← hC0] at g4
  have hC0s : C0.size = cap2 * 37 := by rw [hC0]; simp; omega
  have hC0t : C0.toList.take (i * 37) = A := by
    rw [hC0]
    simp only [Array.toList_append, List.append_assoc]
    rw [← hAl]
    exact List.take_left
  have hh0 : (w.drew.alloc (.cells C0 39)).heap[w.heap.size]? = some (.cells C0 39 (0, 0)) := heap_alloc_new w.drew _
  obtain ⟨W1, hW1⟩ : ∃ W1, W1 = w.drew.alloc (.cells C0 39) := ⟨_, rfl⟩
  rw [← hW1] at hh0 g4
  have hne2 : vb ≠ w.heap.size := by have := lt_of_heap hhv; omega
  have hne3 : g ≠ w.heap.size := by have := lt_of_heap hh; omega
  have hold : ∀ b, b < w.heap.size → W1.heap[b]? = w.heap[b]? := fun b hb => by rw [hW1]; exact heap_alloc_old w.drew _ hb
  have e2 : Nat.min 1 (l.length + 1 - i) = 1 := Nat.min_eq_left (by omega)
  obtain ⟨C1, hC1⟩ : ∃ C1 : Array Value, C1 = (C0.toList.take (i * 37) ++ V ++ C0.toList.drop (i * 37 + V.length)).toArray := ⟨_, rfl⟩
  have hcp1 : ∀ ty dc, (Builtin.copy_ #[22, 22] ty #[.slice (some ⟨w.heap.size, i * 37, none⟩) (l.length + 1 - i) dc, .slice (some ⟨vb, voff, none⟩) 1 vc]).run Try.prog W1 = .ok (goInt 1) (W1.setRow w.heap.size C1) := by
    intro ty dc
    rw [hC1]
    have := run_copy_row (P := Try.prog) (E := E) W1 (u := 22) (ty := ty) (dc := dc) (sc := vc) t22 t39k (o := i * 37) (dn := l.length + 1 - i) (sn := 1) hh0 (a := ⟨vb, voff, none⟩) (cs := V) (by rw [e2, s39, hVl]) (fun k v hk => by
      rw [cell_row (by rw [hold _ (lt_of_heap hhv)]; exact hhv)]
      exact hVs k v hk) (by rw [hVl, hC0s]; omega) pV.one
    rw [e2] at this
    exact this
  have hC1s : C1.size = cap2 * 37 := by rw [hC1, ← hC0s]; simp; omega
  have hh1 := setRow_heap W1 w.heap.size C0 C1 39 (0, 0) hh0
  have e1 : Nat.min (l.length - i) (l.length - i) = l.length - i := Nat.min_self _
  obtain ⟨C2, hC2⟩ : ∃ C2 : Array Value, C2 = (C1.toList.take ((i + 1) * 37) ++ X ++ C1.toList.drop ((i + 1) * 37 + X.length)).toArray := ⟨_, rfl⟩
  have hhg : (W1.setRow w.heap.size C1).drew.heap[g]? = some (.cells cur e (0, 0)) := by
    show (W1.setRow w.heap.size C1).heap[g]? = _
    rw [setRow_other _ _ _ _ hne3, hold _ (lt_of_heap hh)]; exact hh
  have hh1d : (W1.setRow w.heap.size C1).drew.heap[w.heap.size]? = some (.cells C1 39 (0, 0)) := hh1
  have hcp2 : ∀ ty dc sc, (Builtin.copy_ #[22, 22] ty #[.slice (some ⟨w.heap.size, (i + 1) * 37, none⟩) (l.length - i) dc, .slice (some ⟨g, i * 37, none⟩) (l.length - i) sc]).run Try.prog (W1.setRow w.heap.size C1).drew = .ok (goInt ((l.length : Int) - i)) ((W1.setRow w.heap.size C1).drew.setRow w.heap.size C2) := by
    intro ty dc sc
    rw [hC2]
    have := run_copy_row (P := Try.prog) (E := E) (W1.setRow w.heap.size C1).drew (u := 22) (ty := ty) (dc := dc) (sc := sc) t22 t39k (o := (i + 1) * 37) (dn := l.length - i) (sn := l.length - i) hh1d (a := ⟨g, i * 37, none⟩) (cs := X) (by rw [e1, s39, hXl]) (fun k v hk => by
      rw [cell_row hhg, ← Array.getElem?_toList]
      rw [hX, List.getElem?_drop, List.getElem?_take] at hk
      split at hk
      · exact hk
      · cases hk) (by rw [hXl, hC1s]; omega) pB.one
    rw [e1, Int.ofNat_sub (by omega)] at this
    exact this
  have hC1t : C1.toList.take ((i + 1) * 37) = A ++ V := by
    rw [hC1, hC0t]
    have : (A ++ V).length = (i + 1) * 37 := by rw [List.length_append, hAl, hVl]; omega
    rw [← this]
    exact List.take_left
  have hC2l : C2.toList = A ++ V ++ (X ++ C1.toList.drop ((i + 1) * 37 + X.length)) := by
    rw [hC2, hC1t]
    simp only [List.append_assoc]
  have hC2s : C2.size = cap2 * 37 := by
    rw [hC2, ← hC1s]
    simp; omega
  have hh2 := setRow_heap (W1.setRow w.heap.size C1).drew w.heap.size C1 C2 39 (0, 0) hh1d
  have key := own_new (w' := (W1.setRow w.heap.size C1).drew.setRow w.heap.size C2) (ys := (insC l i x).map coinT) hinv (g := g) (by rw [hd]; rfl) (by rw [hW1]; rfl) (by rw [hW1]; rfl) (by rw [hW1]; rfl)
    (by
      have := lt_of_heap hh2
      omega)
    (fun b hb _ => by
      have hb' : b ≠ w.heap.size := by omega
      rw [setRow_other _ _ _ _ hb']
      show (W1.setRow w.heap.size C1).heap[b]? = _
      rw [setRow_other _ _ _ _ hb', hold b hb])
    (ins_wf hwf hxw (by unfold maxLen; omega) (by omega)) hh2 hC2s (by rw [List.length_map, insC_len]; exact g1) g2 (.inr (Nat.le_refl _)) (by
      intro k c hk
      unfold insC at hk
      rw [List.map_append, List.map_append, cellsL_append, cellsL_append] at hk
      rw [← Array.getElem?_toList, hC2l]
      exact three_at ((pA.append pV).append pB) k c hk)
  rw [List.length_map, insC_len] at key
  refine (ins_grow g l.length cap i vb voff vc w hi hnc hn (by omega) w.heap.size cap2 g1 g2 _ _ _ (fun _ => g4) hcp1 hcp2).mono ?_
  rintro e' w' ⟨rfl, rfl⟩
  exact ⟨m.push (.slice (some ⟨w.heap.size, 0, none⟩) (l.length + 1) cap2), _, rfl, fun _ _ h => h, key.1, key.2⟩

end Go.Fw

end

section
/- view: a coin put into a row, or taken out of it (two contracts). -/
namespace Go.Fw
open Go Go.Proofs
set_option linter.unusedVariables false
set_option linter.unusedSimpArgs false

theorem coin1_inj (a b : TCoin) (h : T.sq 37 [coinT a] = T.sq 37 [coinT b]) : a = b := by
  simp only [T.sq.injEq, List.cons.injEq, true_and, and_true] at h
  exact coinT_inj a b h
noncomputable def G38 : GFun
  | HB, [.own 0, .t (.int .i64 i), .t y] => match inv csH HB, inv (fun c => T.sq 37 [coinT c]) y with
    | some l, some c => @ite _ ((0 ≤ i ∧ i ≤ (l.length : Int) ∧ l.length ≤ 1000000)) (Classical.propDecidable _) ((some ([.no, .sq 37 ((insC l i.toNat c).map coinT)], .own 1))) none
    | _, _ => none
  | _, _ => none

theorem inv_back {α β : Type} {f : α → β} {y : β} {x : α} (h : inv f y = some x) : f x = y := by
  unfold inv at h
  split at h
  · rename_i he
    cases h
    exact he.choose_spec
  · cases h
set_option maxHeartbeats 1000000 in
theorem g38 : GCon Try.prog 38 G38 := by
  refine ⟨⟨_, Try.func38, rfl, rfl⟩, ?_⟩
  intro HB xs H' r hG m w vs hinv hlen hrel
  unfold G38 at hG
  split at hG
  case h_2 => cases hG
  rename_i i y
  split at hG
  case h_2 => cases hG
  rename_i l x hl hx
  split at hG
  case isFalse => cases hG
  rename_i hc
  obtain ⟨hc0, hc1, hc2⟩ := hc
  cases hG
  have eH := inv_back hl
  have ey := inv_back hx
  subst eH
  subst ey
  obtain ⟨u0, k0, r0⟩ := hrel 0 _ rfl
  obtain ⟨u1, k1, r1⟩ := hrel 1 _ rfl
  obtain ⟨u2, k2, r2⟩ := hrel 2 _ rfl
  obtain ⟨rfl, _⟩ := r0.own_inv
  have r1 := r1.t_inv
  have r2 := r2.t_inv
  cases r1
  have ev : vs = [m.η 0, .int .i64 i, u2] := by
    apply List.ext_getElem?
    intro k
    rcases k with _ | _ | _ | k
    · exact k0
    · exact k1
    · exact k2
    · rw [List.getElem?_eq_none (by rw [hlen]; simp)]; rfl
  subst ev
  obtain ⟨i, rfl⟩ := Int.eq_ofNat_of_zero_le hc0
  simp only [Int.toNat_natCast]
  obtain ⟨hwf, hrow⟩ := hinv.ok 0 _ rfl
  by_cases hil : i = l.length
  · subst hil
    exact ins_last l x u2 hc2 hinv r2
  · have hi : i < l.length := by omega
    rcases hrow with ⟨_, he⟩ | ⟨g, cap, cur, e, hd, hh, hs, hn, hcm, hM, hcells⟩
    · have : l = [] := List.map_eq_nil_iff.1 he
      subst this
      simp at hi
    · rw [List.length_map] at hd hn
      by_cases hroom : l.length + 1 ≤ cap
      · exact ins_room l i x u2 hi hinv r2 hwf hd hh hs hroom hcm hM hcells
      · exact ins_more l i x u2 hi hc2 hinv r2 hwf hd hh hs hn (by omega) hM hcells
theorem insert_c (l : List TCoin) (i : Nat) (c : TCoin) (h : i ≤ l.length) (h2 : l.length ≤ 1000000) : G38 [.sq 37 (l.map coinT)] [.own 0, .t (.int .i64 (i : Int)), .t (.sq 37 [.st [.st [.ba 32 c.r.h.1, .int .u32 (c.r.i.toNat : Int)], .st [.int .u64 (c.out.val.toNat : Int), .by c.out.scr], .int .u32 (c.ht.toNat : Int), .bool c.first]])] = some ([.no, .sq 37 ((insC l i c).map coinT)], .own 1) := by
  show G38 (csH l) [.own 0, .t (.int .i64 (i : Int)), .t (.sq 37 [coinT c])] = _
  have h3 : inv (fun c => T.sq 37 [coinT c]) (T.sq 37 [coinT c]) = some c := inv_of coin1_inj c
  simp only [G38, inv_of csH_inj, h3]
  rw [Int.toNat_natCast]
  exact if_pos ⟨by omega, by omega, h2⟩

noncomputable def G29 : GFun
  | HB, [.own 0, .t (.int .i64 i), .t (.int .i64 j)] => match inv csH HB with
    | some l => @ite _ (((0 ≤ i ∧ i < j ∧ j ≤ (l.length : Int)) ∧ l.length ≤ 1000000)) (Classical.propDecidable _) ((some ([.no, .sq 37 ((delC l i.toNat j.toNat).map coinT)], .own 1))) none
    | none => none
  | _, _ => none

set_option maxHeartbeats 1000000 in
theorem g29 : GCon Try.prog 29 G29 := by
  refine ⟨⟨_, Try.func29, rfl, rfl⟩, ?_⟩
  intro HB xs H' r hG m w vs hinv hlen hrel
  unfold G29 at hG
  split at hG
  case h_2 => cases hG
  rename_i i j
  split at hG
  case h_2 => cases hG
  rename_i l hl
  split at hG
  case isFalse => cases hG
  rename_i hc
  obtain ⟨⟨hc0, hc1, hc3⟩, hc2⟩ := hc
  cases hG
  have eH := inv_back hl
  subst eH
  obtain ⟨u0, k0, r0⟩ := hrel 0 _ rfl
  obtain ⟨u1, k1, r1⟩ := hrel 1 _ rfl
  obtain ⟨u2, k2, r2⟩ := hrel 2 _ rfl
  obtain ⟨rfl, _⟩ := r0.own_inv
  have r1 := r1.t_inv
  have r2 := r2.t_inv
  cases r1
  cases r2
  have ev : vs = [m.η 0, .int .i64 i, .int .i64 j] := by
    apply List.ext_getElem?
    intro k
    rcases k with _ | _ | _ | k
    · exact k0
    · exact k1
    · exact k2
    · rw [List.getElem?_eq_none (by rw [hlen]; simp)]; rfl
  subst ev
  obtain ⟨i, rfl⟩ := Int.eq_ofNat_of_zero_le hc0
  obtain ⟨j, rfl⟩ := Int.eq_ofNat_of_zero_le (show 0 ≤ j by omega)
  simp only [Int.toNat_natCast]
  exact del_ok l i j (by omega) (by omega) hinv
theorem delete_c (l : List TCoin) (i j : Nat) (h : i < j) (h1 : j ≤ l.length) (h2 : l.length ≤ 1000000) : G29 [.sq 37 (l.map coinT)] [.own 0, .t (.int .i64 (i : Int)), .t (.int .i64 (j : Int))] = some ([.no, .sq 37 ((delC l i j).map coinT)], .own 1) := by
  show G29 (csH l) _ = _
  simp only [G29, inv_of csH_inj]
  rw [Int.toNat_natCast, Int.toNat_natCast]
  exact if_pos ⟨⟨by omega, by omega, by omega⟩, h2⟩

end Go.Fw

end

section
/- view: a coin added, a coin spent. -/
namespace Go.Fw
open Go Go.Proofs
set_option linter.unusedVariables false
set_option linter.unusedSimpArgs false

/-- A view behind a turn. -/
def vwN (l : List TCoin) : List Blk := [.bx (.st [.own 2]), .no, .sq 37 (l.map coinT)]

theorem coin_dirty (c : TCoin) : (coinT c).clean = false := by
  show T.clean (coinT c) = false
  simp only [coinT, outT, T.clean, T.cleanL, Bool.false_and, Bool.and_false]
theorem coins_dirty : ∀ {l : List TCoin}, l ≠ [] → T.cleanL (l.map coinT) = false
  | [], h => (h rfl).elim
  | c :: l, _ => by rw [List.map_cons, T.cleanL, coin_dirty, Bool.false_and]
theorem insC_ne (l : List TCoin) (i : Nat) (c : TCoin) : insC l i c ≠ [] := by simp [insC]

noncomputable def G24 : GFun
  | [], [.t .nilp, .t y] => match inv coinT y with
    | some c => some ([], .t (.int .i64 1))
    | none => none
  | HB, [.ptr 0 0 [], .t y] => match inv vwH HB, inv coinT y with
    | some l, some c => @ite _ ((l.length ≤ 1000000 ∧ lowC c = true)) (Classical.propDecidable _) ((some (vwN (addV l c).1, .t (.int .i64 (addV l c).2)))) none
    | _, _ => none
  | _, _ => none

theorem ct24 : CT [(27, ⟨[false], treeG F27⟩), (28, ⟨[true, false], G28⟩), (38, ⟨[true, false, false], G38⟩)] [0, 1, 3, 4, 5, 6, 8, 16] [(6, [⟨0, [0], [], []⟩, ⟨0, [0], [], []⟩, ⟨0, [18], [], []⟩, ⟨0, [19], [], []⟩, ⟨1, [20], [], []⟩, ⟨0, [5], [], []⟩, ⟨1, [3], [], []⟩, ⟨1, [23], [6], []⟩, ⟨1, [24], [6, 7], []⟩, ⟨2, [21, 22, 25], [4, 6, 7, 8], []⟩, ⟨0, [17], [4, 6, 7, 8, 9], []⟩, ⟨0, [27], [4, 6, 7, 8, 9], []⟩, ⟨2, [26, 28], [4, 6, 7, 8, 9], []⟩])] := ⟨(.cons c27.g (.cons g28 (.cons g38 (.nil _))))⟩

set_option maxHeartbeats 2000000 in
theorem g24 : GCon Try.prog 24 G24 := by
  refine gconc E_ok (rs := [.tmp 4 30]) Try.func24 rfl Try.ntmps24 (by kernel_rfl) rfl (by decide) G24 (np := 2) ?_ ?_
  · intro HB xs h; unfold G24; split <;> first | rfl | (simp at h; done)
  intro HB xs H r hG hwf hex
  unfold G24 at hG
  split at hG <;> try (cases hG; done)
  · split at hG <;> try (cases hG; done)
    rename_i c hc
    cases hG
    obtain rfl := inv_inv hc
    simp only [coinT_st]
    repeat refine St2 (And.intro @gentry.eq_1 <| @gentry.eq_2) ct24 ?_
    exact AWP.ret (Fin trivial [] [])
  split at hG <;> try (cases hG; done)
  rename_i l c hl hc
  split at hG
  case isFalse => cases hG
  rename_i hcc
  cases hG
  obtain ⟨hlen, hlow⟩ := hcc
  obtain rfl := inv_inv hl
  obtain rfl := inv_inv hc
  have h := place_c l c.r hlen
  simp only [vwH] at h ⊢
  unfold addV
  cases hb : plB l c.r with
  | true =>
    rw [hb] at h
    rw [if_pos rfl]
    simp only [coinT_st c]
    generalize plN l c.r = R at *
    repeat refine St2 (And.intro (And.intro @gentry.eq_1 <| @gentry.eq_2) <| h) ct24 ?_
    refine AWP.weak (Weak.moveBx (v' := _) 0 1 [0] 0 _ rfl rfl rfl (by decide) (by simp only [W, eqq, ↓reduceIte, Nat.reduceEqDiff, Nat.reduceLT, Nat.reduceLeDiff, Nat.reduceAdd, Nat.reduceMul, Nat.reduceSub, Nat.reduceBEq, Int.reduceLE, Int.reduceLT, Int.reduceNeg, Int.reduceToNat, Int.reduceEq, Int.reduceBEq, Int.reduceBNe, Nat.reduceBNe, bne_self_eq_false, reduceCtorEq, gt_iff_lt, ge_iff_le]) (by simp only [W, eqq, ↓reduceIte, Nat.reduceEqDiff, Nat.reduceLT, Nat.reduceLeDiff, Nat.reduceAdd, Nat.reduceMul, Nat.reduceSub, Nat.reduceBEq, Int.reduceLE, Int.reduceLT, Int.reduceNeg, Int.reduceToNat, Int.reduceEq, Int.reduceBEq, Int.reduceBNe, Nat.reduceBNe, bne_self_eq_false, reduceCtorEq, gt_iff_lt, ge_iff_le]) (by simp only [W, eqq, ↓reduceIte, Nat.reduceEqDiff, Nat.reduceLT, Nat.reduceLeDiff, Nat.reduceAdd, Nat.reduceMul, Nat.reduceSub, Nat.reduceBEq, Int.reduceLE, Int.reduceLT, Int.reduceNeg, Int.reduceToNat, Int.reduceEq, Int.reduceBEq, Int.reduceBNe, Nat.reduceBNe, bne_self_eq_false, reduceCtorEq, gt_iff_lt, ge_iff_le]; rfl)) ?_
    exact AWP.ret (Fin @vwN.eq_def [] [0, 1, 3])
  | false =>
    have hle := plN_le l c.r
    have hi := insert_c l (plN l c.r) c hle hlen
    have hcp := copied_c hlow
    have hcl := coins_dirty (insC_ne l (plN l c.r) c)
    rw [hb] at h
    rw [if_neg (by simp)]
    simp only [coinT_st c]
    generalize insC l (plN l c.r) c = L at *
    generalize plN l c.r = R at *
    repeat refine St2 (And.intro (And.intro @gentry.eq_1 <| @gentry.eq_2) <| And.intro h <| And.intro hi <| And.intro hcp <| hcl) ct24 ?_
    exact AWP.ret (Fin @vwN.eq_def [] [0, 1, 4])

theorem add_c (l : List TCoin) (c : TCoin) (h : l.length ≤ 1000000) (h2 : lowC c = true) : G24 [.bx (.st [.own 1]), .sq 37 (l.map coinT)] [.ptr 0 0 [], .t (.st [.st [.ba 32 c.r.h.1, .int .u32 (c.r.i.toNat : Int)], .st [.int .u64 (c.out.val.toNat : Int), .by c.out.scr], .int .u32 (c.ht.toNat : Int), .bool c.first])] = some (vwN (addV l c).1, .t (.int .i64 (addV l c).2)) := by
  show G24 (vwH l) [.ptr 0 0 [], .t (coinT c)] = _
  simp only [G24, inv_of vwH_inj, inv_of coinT_inj]
  exact if_pos ⟨h, h2⟩

noncomputable def G14 : GFun
  | [], [.t .nilp, .t y] => match inv rfT y with
    | some r => some ([], .tup [.t (coinT dCoin), .t (.int .i64 1)])
    | none => none
  | HB, [.ptr 0 0 [], .t y] => match inv vwH HB, inv rfT y with
    | some l, some r => @ite _ ((l.length ≤ 1000000 ∧ lowL l = true)) (Classical.propDecidable _) ((some (vwN (spdV l r).1, .tup [.t (coinT (spdV l r).2.1), .t (.int .i64 (spdV l r).2.2)]))) none
    | _, _ => none
  | _, _ => none

theorem ct14 : CT [(27, ⟨[false], treeG F27⟩), (28, ⟨[true, false], G28⟩), (29, ⟨[true, false, false], G29⟩)] [0, 1, 3, 4, 5, 6, 7, 8, 10, 19] [] := ⟨(.cons c27.g (.cons g28 (.cons g29 (.nil _))))⟩

set_option maxHeartbeats 2000000 in
theorem g14 : GCon Try.prog 14 G14 := by
  refine gconc E_ok (rs := [.cell 4 39, .tmp 5 30]) Try.func14 rfl Try.ntmps14 (by kernel_rfl) rfl (by decide) G14 (np := 2) ?_ ?_
  · intro HB xs h; unfold G14; split <;> first | rfl | (simp at h; done)
  intro HB xs H r hG hwf hex
  unfold G14 at hG
  split at hG <;> try (cases hG; done)
  · split at hG <;> try (cases hG; done)
    rename_i r hr
    cases hG
    obtain rfl := inv_inv hr
    simp only [rfT]
    rw [dCoin_T]
    repeat refine St2 (And.intro @gentry.eq_1 <| @gentry.eq_2) ct14 ?_
    exact AWP.ret (Fin trivial [] [])
  split at hG <;> try (cases hG; done)
  rename_i l r hl hr
  split at hG
  case isFalse => cases hG
  rename_i hcc
  cases hG
  obtain ⟨hlen, hlow⟩ := hcc
  obtain rfl := inv_inv hl
  obtain rfl := inv_inv hr
  have h := place_c l r hlen
  have hml : (l.map coinT).length = l.length := List.length_map ..
  simp only [vwH, rfT] at h ⊢
  unfold spdV
  cases hb : plB l r with
  | false =>
    rw [hb] at h
    rw [if_neg (by simp)]
    dsimp only
    rw [dCoin_T]
    generalize plN l r = R at *
    repeat refine St2 (And.intro (And.intro @gentry.eq_1 <| @gentry.eq_2) <| h) ct14 ?_
    refine AWP.weak (Weak.moveBx (v' := _) 0 1 [0] 0 _ rfl rfl rfl (by decide) (by simp only [W, eqq, ↓reduceIte, Nat.reduceEqDiff, Nat.reduceLT, Nat.reduceLeDiff, Nat.reduceAdd, Nat.reduceMul, Nat.reduceSub, Nat.reduceBEq, Int.reduceLE, Int.reduceLT, Int.reduceNeg, Int.reduceToNat, Int.reduceEq, Int.reduceBEq, Int.reduceBNe, Nat.reduceBNe, bne_self_eq_false, reduceCtorEq, gt_iff_lt, ge_iff_le]) (by simp only [W, eqq, ↓reduceIte, Nat.reduceEqDiff, Nat.reduceLT, Nat.reduceLeDiff, Nat.reduceAdd, Nat.reduceMul, Nat.reduceSub, Nat.reduceBEq, Int.reduceLE, Int.reduceLT, Int.reduceNeg, Int.reduceToNat, Int.reduceEq, Int.reduceBEq, Int.reduceBNe, Nat.reduceBNe, bne_self_eq_false, reduceCtorEq, gt_iff_lt, ge_iff_le]) (by simp only [W, eqq, ↓reduceIte, Nat.reduceEqDiff, Nat.reduceLT, Nat.reduceLeDiff, Nat.reduceAdd, Nat.reduceMul, Nat.reduceSub, Nat.reduceBEq, Int.reduceLE, Int.reduceLT, Int.reduceNeg, Int.reduceToNat, Int.reduceEq, Int.reduceBEq, Int.reduceBNe, Nat.reduceBNe, bne_self_eq_false, reduceCtorEq, gt_iff_lt, ge_iff_le]; rfl)) ?_
    exact AWP.ret (Fin @vwN.eq_def [] [0, 1, 4])
  | true =>
    have hlt := plB_lt hb
    have hlt2 : (plN l r : Int) < (l.length : Int) := by omega
    rw [hb] at h
    rw [if_pos rfl]
    dsimp only
    have hg := coin_getD l (plN l r) hlt
    have hcp := copied_c (lowL_get hlow hlt)
    have hd := delete_c l (plN l r) (plN l r + 1) (by omega) (by omega) hlen
    have hw1 : IntKind.i64.wrap ((plN l r : Int) + 1) = ((plN l r + 1 : Nat) : Int) := by rw [wrap_i64 (by omega) (by omega)]; omega
    rw [coinT_st] at hg ⊢
    generalize l.getD (plN l r) dCoin = c at *
    generalize hL : delC l (plN l r) (plN l r + 1) = L at *
    generalize plN l r = R at *
    repeat refine St2 (And.intro (And.intro @gentry.eq_1 <| @gentry.eq_2) <| And.intro h <| And.intro hml <| And.intro hlt <| And.intro hlt2 <| And.intro hg <| And.intro hcp <| And.intro hd <| hw1) ct14 ?_
    exact AWP.ret (Fin @vwN.eq_def [] [0, 1, 5])
theorem spend_vc (l : List TCoin) (r : TRef) (h : l.length ≤ 1000000) (h2 : lowL l = true) : G14 [.bx (.st [.own 1]), .sq 37 (l.map coinT)] [.ptr 0 0 [], .t (.st [.ba 32 r.h.1, .int .u32 (r.i.toNat : Int)])] = some (vwN (spdV l r).1, .tup [.t (coinT (spdV l r).2.1), .t (.int .i64 (spdV l r).2.2)]) := by
  show G14 (vwH l) [.ptr 0 0 [], .t (rfT r)] = _
  simp only [G14, inv_of vwH_inj, inv_of rfT_inj]
  exact if_pos ⟨h, h2⟩

end Go.Fw

end

section
/- compact: bytes laid. -/
namespace Go.Fw
open Go Go.Proofs
set_option linter.unusedVariables false
set_option linter.unusedSimpArgs false

def F77 : Fun
  | [.by b, .int .u8 n, .int .i64 m] => if b.length ≤ 549755813000 ∧ 0 ≤ m ∧ m ≤ 16 then some ([.by (b ++ le m.toNat n)], .own 0) else none
  | _ => none

theorem ct77 : CT [] [0, 1, 2, 6, 7, 8, 21, 22, 23] [] := ⟨GClOk.nil _⟩

theorem c77 : ACon Try.prog 77 F77 := by
  refine aconc E_ok (rs := [.tmp 6 35]) Try.func77 rfl Try.ntmps77 (by kernel_rfl) rfl (by decide) F77 (np := 3) ?_ ?_
  · intro ts h; unfold F77; split <;> first | rfl | (simp at h; done)
  intro ts H r hF hwf
  unfold F77 at hF
  split at hF <;> try (cases hF; done)
  rename_i b n m
  split at hF
  case isFalse => cases hF
  rename_i hc
  obtain ⟨hb, h0, h1⟩ := hc
  cases hF
  have hn := inK_u8 (hwf (.int .u8 n) (by simp))
  repeat refine St trivial ct77 ?_
  refine AWP.loop (G := { k : Nat // k ≤ m.toNat }) (fun k => ⟨[(7, .own 0), (8, .t (.int .u64 (shrB k.1 n))), (21, .t (.int .i64 m)), (22, .t (.int .i64 (k.1 : Int)))], [.by (b ++ le k.1 n)]⟩)
    (fun k => m.toNat - k.1) ⟨0, by omega⟩ (Wt (And.intro (And.intro @shrB.eq_1 <| @shrB.eq_2) <| (And.intro @le.eq_1 <| @le.eq_2)) [7, 8, 21, 22] [0]) ?_
  intro ⟨k, hk⟩
  dsimp only
  by_cases hlt : (k : Int) < m
  · have hl : (b ++ le k n).length ≤ 549755813100 := by simp [le_len]; omega
    have hr := shrB_range k n (by omega) (by omega)
    repeat refine St (And.intro @shr8 <| @le_len) ct77 ?_
    exact ⟨⟨k + 1, by omega⟩, (Wt (And.intro (And.intro @shrB.eq_1 <| @shrB.eq_2) <| And.intro (And.intro @le.eq_1 <| @le.eq_2) <| @List.append_assoc.{0}) [7, 8, 21, 22] [2]), by simp only; omega⟩
  · obtain rfl : k = m.toNat := by omega
    repeat refine St trivial ct77 ?_
    exact AWP.ret (Fin trivial [] [0])

def F78 : Fun
  | [.by b, .int .u16 n, .int .i64 m] => if b.length ≤ 549755813000 ∧ 0 ≤ m ∧ m ≤ 16 then some ([.by (b ++ le m.toNat n)], .own 0) else none
  | _ => none

theorem ct78 : CT [] [0, 1, 2, 6, 7, 8, 21, 22, 23] [] := ⟨GClOk.nil _⟩

theorem c78 : ACon Try.prog 78 F78 := by
  refine aconc E_ok (rs := [.tmp 6 35]) Try.func78 rfl Try.ntmps78 (by kernel_rfl) rfl (by decide) F78 (np := 3) ?_ ?_
  · intro ts h; unfold F78; split <;> first | rfl | (simp at h; done)
  intro ts H r hF hwf
  unfold F78 at hF
  split at hF <;> try (cases hF; done)
  rename_i b n m
  split at hF
  case isFalse => cases hF
  rename_i hc
  obtain ⟨hb, h0, h1⟩ := hc
  cases hF
  have hn := inK_u16 (hwf (.int .u16 n) (by simp))
  repeat refine St trivial ct78 ?_
  refine AWP.loop (G := { k : Nat // k ≤ m.toNat }) (fun k => ⟨[(7, .own 0), (8, .t (.int .u64 (shrB k.1 n))), (21, .t (.int .i64 m)), (22, .t (.int .i64 (k.1 : Int)))], [.by (b ++ le k.1 n)]⟩)
    (fun k => m.toNat - k.1) ⟨0, by omega⟩ (Wt (And.intro (And.intro @shrB.eq_1 <| @shrB.eq_2) <| (And.intro @le.eq_1 <| @le.eq_2)) [7, 8, 21, 22] [0]) ?_
  intro ⟨k, hk⟩
  dsimp only
  by_cases hlt : (k : Int) < m
  · have hl : (b ++ le k n).length ≤ 549755813100 := by simp [le_len]; omega
    have hr := shrB_range k n (by omega) (by omega)
    repeat refine St (And.intro @shr8 <| @le_len) ct78 ?_
    exact ⟨⟨k + 1, by omega⟩, (Wt (And.intro (And.intro @shrB.eq_1 <| @shrB.eq_2) <| And.intro (And.intro @le.eq_1 <| @le.eq_2) <| @List.append_assoc.{0}) [7, 8, 21, 22] [2]), by simp only; omega⟩
  · obtain rfl : k = m.toNat := by omega
    repeat refine St trivial ct78 ?_
    exact AWP.ret (Fin trivial [] [0])

def F76 : Fun
  | [.by b, .int .u32 n, .int .i64 m] => if b.length ≤ 549755813000 ∧ 0 ≤ m ∧ m ≤ 16 then some ([.by (b ++ le m.toNat n)], .own 0) else none
  | _ => none

theorem ct76 : CT [] [0, 1, 2, 6, 7, 8, 21, 22, 23] [] := ⟨GClOk.nil _⟩

theorem c76 : ACon Try.prog 76 F76 := by
  refine aconc E_ok (rs := [.tmp 6 35]) Try.func76 rfl Try.ntmps76 (by kernel_rfl) rfl (by decide) F76 (np := 3) ?_ ?_
  · intro ts h; unfold F76; split <;> first | rfl | (simp at h; done)
  intro ts H r hF hwf
  unfold F76 at hF
  split at hF <;> try (cases hF; done)
  rename_i b n m
  split at hF
  case isFalse => cases hF
  rename_i hc
  obtain ⟨hb, h0, h1⟩ := hc
  cases hF
  have hn := inK_u32 (hwf (.int .u32 n) (by simp))
  repeat refine St trivial ct76 ?_
  refine AWP.loop (G := { k : Nat // k ≤ m.toNat }) (fun k => ⟨[(7, .own 0), (8, .t (.int .u64 (shrB k.1 n))), (21, .t (.int .i64 m)), (22, .t (.int .i64 (k.1 : Int)))], [.by (b ++ le k.1 n)]⟩)
    (fun k => m.toNat - k.1) ⟨0, by omega⟩ (Wt (And.intro (And.intro @shrB.eq_1 <| @shrB.eq_2) <| (And.intro @le.eq_1 <| @le.eq_2)) [7, 8, 21, 22] [0]) ?_
  intro ⟨k, hk⟩
  dsimp only
  by_cases hlt : (k : Int) < m
  · have hl : (b ++ le k n).length ≤ 549755813100 := by simp [le_len]; omega
    have hr := shrB_range k n (by omega) (by omega)
    repeat refine St (And.intro @shr8 <| @le_len) ct76 ?_
    exact ⟨⟨k + 1, by omega⟩, (Wt (And.intro (And.intro @shrB.eq_1 <| @shrB.eq_2) <| And.intro (And.intro @le.eq_1 <| @le.eq_2) <| @List.append_assoc.{0}) [7, 8, 21, 22] [2]), by simp only; omega⟩
  · obtain rfl : k = m.toNat := by omega
    repeat refine St trivial ct76 ?_
    exact AWP.ret (Fin trivial [] [0])

def F79 : Fun
  | [.by b, .int .u64 n, .int .i64 m] => if b.length ≤ 549755813000 ∧ 0 ≤ m ∧ m ≤ 16 then some ([.by (b ++ le m.toNat n)], .own 0) else none
  | _ => none

theorem ct79 : CT [] [0, 1, 2, 6, 7, 8, 20, 21, 22] [] := ⟨GClOk.nil _⟩

theorem c79 : ACon Try.prog 79 F79 := by
  refine aconc E_ok (rs := [.tmp 6 35]) Try.func79 rfl Try.ntmps79 (by kernel_rfl) rfl (by decide) F79 (np := 3) ?_ ?_
  · intro ts h; unfold F79; split <;> first | rfl | (simp at h; done)
  intro ts H r hF hwf
  unfold F79 at hF
  split at hF <;> try (cases hF; done)
  rename_i b n m
  split at hF
  case isFalse => cases hF
  rename_i hc
  obtain ⟨hb, h0, h1⟩ := hc
  cases hF
  have hn := inK_u64 (hwf (.int .u64 n) (by simp))
  repeat refine St trivial ct79 ?_
  refine AWP.loop (G := { k : Nat // k ≤ m.toNat }) (fun k => ⟨[(7, .own 0), (8, .t (.int .u64 (shrB k.1 n))), (20, .t (.int .i64 m)), (21, .t (.int .i64 (k.1 : Int)))], [.by (b ++ le k.1 n)]⟩)
    (fun k => m.toNat - k.1) ⟨0, by omega⟩ (Wt (And.intro (And.intro @shrB.eq_1 <| @shrB.eq_2) <| (And.intro @le.eq_1 <| @le.eq_2)) [7, 8, 20, 21] [0]) ?_
  intro ⟨k, hk⟩
  dsimp only
  by_cases hlt : (k : Int) < m
  · have hl : (b ++ le k n).length ≤ 549755813100 := by simp [le_len]; omega
    have hr := shrB_range k n (by omega) (by omega)
    repeat refine St (And.intro @shr8 <| @le_len) ct79 ?_
    exact ⟨⟨k + 1, by omega⟩, (Wt (And.intro (And.intro @shrB.eq_1 <| @shrB.eq_2) <| And.intro (And.intro @le.eq_1 <| @le.eq_2) <| @List.append_assoc.{0}) [7, 8, 20, 21] [2]), by simp only; omega⟩
  · obtain rfl : k = m.toNat := by omega
    repeat refine St trivial ct79 ?_
    exact AWP.ret (Fin trivial [] [0])

def F67 : Fun
  | [.by b, .int .u32 n] => if b.length ≤ 549755812000 then some ([.by (b ++ le 4 n)], .own 0) else none
  | _ => none

theorem ct67 : CT [(76, ⟨[false, false, false], treeG F76⟩)] [0, 1, 4] [] := ⟨(.cons c76.g (.nil _))⟩

theorem c67 : ACon Try.prog 67 F67 := by
  refine aconc E_ok (rs := [.tmp 4 35]) Try.func67 rfl Try.ntmps67 (by kernel_rfl) rfl (by decide) F67 (np := 2) ?_ ?_
  · intro ts h; unfold F67; split <;> first | rfl | (simp at h; done)
  intro ts H r hF hwf
  unfold F67 at hF
  split at hF <;> try (cases hF; done)
  rename_i b n
  split at hF
  case isFalse => cases hF
  rename_i hc
  have hb := hc
  cases hF
  have h : F76 [.by b, .int .u32 n, .int .i64 4] = some ([.by (b ++ le 4 n)], .own 0) := if_pos (by omega)
  repeat refine St h ct67 ?_
  exact AWP.ret (Fin trivial [] [0])

def F69 : Fun
  | [.by b, .int .u64 n] => if b.length ≤ 549755812000 then some ([.by (b ++ le 8 n)], .own 0) else none
  | _ => none

theorem ct69 : CT [(79, ⟨[false, false, false], treeG F79⟩)] [0, 1, 4] [] := ⟨(.cons c79.g (.nil _))⟩

theorem c69 : ACon Try.prog 69 F69 := by
  refine aconc E_ok (rs := [.tmp 4 35]) Try.func69 rfl Try.ntmps69 (by kernel_rfl) rfl (by decide) F69 (np := 2) ?_ ?_
  · intro ts h; unfold F69; split <;> first | rfl | (simp at h; done)
  intro ts H r hF hwf
  unfold F69 at hF
  split at hF <;> try (cases hF; done)
  rename_i b n
  split at hF
  case isFalse => cases hF
  rename_i hc
  have hb := hc
  cases hF
  have h : F79 [.by b, .int .u64 n, .int .i64 8] = some ([.by (b ++ le 8 n)], .own 0) := if_pos (by omega)
  repeat refine St h ct69 ?_
  exact AWP.ret (Fin trivial [] [0])

theorem put64_c {b : List UInt8} (n : Int) (h : b.length ≤ 549755812000) : F69 [.by b, .int .u64 n] = some ([.by (b ++ le 8 n)], .own 0) := if_pos h
theorem put32_c {b : List UInt8} (n : Int) (h : b.length ≤ 549755812000) : F67 [.by b, .int .u32 n] = some ([.by (b ++ le 4 n)], .own 0) := if_pos h
def F68 : Fun
  | [.by b, .int .u64 n] => if b.length ≤ 549755812000 then some ([.by (b ++ sizeB n)], .own 0) else none
  | _ => none

theorem ct68 : CT [(76, ⟨[false, false, false], treeG F76⟩), (77, ⟨[false, false, false], treeG F77⟩), (78, ⟨[false, false, false], treeG F78⟩), (79, ⟨[false, false, false], treeG F79⟩)] [0, 1, 4, 5, 12, 20] [] := ⟨(.cons c76.g (.cons c77.g (.cons c78.g (.cons c79.g (.nil _)))))⟩

theorem c68 : ACon Try.prog 68 F68 := by
  refine aconc E_ok (rs := [.tmp 4 35]) Try.func68 rfl Try.ntmps68 (by kernel_rfl) rfl (by decide) F68 (np := 2) ?_ ?_
  · intro ts h; unfold F68; split <;> first | rfl | (simp at h; done)
  intro ts H r hF hwf
  unfold F68 at hF
  split at hF <;> try (cases hF; done)
  rename_i b n
  split at hF
  case isFalse => cases hF
  rename_i hc
  have hb := hc
  cases hF
  have hn := inK_u64 (hwf (.int .u64 n) (by simp))
  have h8 : ∀ c : Int, F77 [.by b, .int .u8 c, .int .i64 1] = some ([.by (b ++ le 1 c)], .own 0) := fun c => if_pos (by omega)
  have hl : ∀ c : Int, (b ++ le 1 c).length ≤ 549755813000 := fun c => by simp [le_len]; omega
  have h16 : ∀ c d : Int, F78 [.by (b ++ le 1 c), .int .u16 d, .int .i64 2] = some ([.by (b ++ le 1 c ++ le 2 d)], .own 0) := fun c d => if_pos ⟨hl c, by omega⟩
  have h32 : ∀ c d : Int, F76 [.by (b ++ le 1 c), .int .u32 d, .int .i64 4] = some ([.by (b ++ le 1 c ++ le 4 d)], .own 0) := fun c d => if_pos ⟨hl c, by omega⟩
  have h64 : ∀ c d : Int, F79 [.by (b ++ le 1 c), .int .u64 d, .int .i64 8] = some ([.by (b ++ le 1 c ++ le 8 d)], .own 0) := fun c d => if_pos ⟨hl c, by omega⟩
  by_cases h1 : n < 253
  · have hw : IntKind.u8.wrap n = n := wrap_u8 (by omega) (by omega)
    repeat refine St (And.intro hw <| h8) ct68 ?_
    exact AWP.ret (Fin (And.intro @sizeB.eq_def <| h1) [] [0])
  by_cases h2 : n < 65536
  · have hw : IntKind.u16.wrap n = n := wrap_u16 (by omega) (by omega)
    repeat refine St (And.intro hw <| And.intro h8 <| h16) ct68 ?_
    exact AWP.ret (Fin (And.intro @sizeB.eq_def <| And.intro h1 <| And.intro h2 <| @List.append_assoc.{0}) [] [1])
  by_cases h3 : n < 4294967296
  · have hw : IntKind.u32.wrap n = n := wrap_u32 (by omega) (by omega)
    repeat refine St (And.intro hw <| And.intro h8 <| h32) ct68 ?_
    exact AWP.ret (Fin (And.intro @sizeB.eq_def <| And.intro h1 <| And.intro h2 <| And.intro h3 <| @List.append_assoc.{0}) [] [1])
  repeat refine St (And.intro h8 <| h64) ct68 ?_
  exact AWP.ret (Fin (And.intro @sizeB.eq_def <| And.intro h1 <| And.intro h2 <| And.intro h3 <| @List.append_assoc.{0}) [] [1])

theorem putsize_c {b : List UInt8} (n : Int) (h : b.length ≤ 549755812000) : F68 [.by b, .int .u64 n] = some ([.by (b ++ sizeB n)], .own 0) := if_pos h

def F70 : Fun
  | [.by b, .by x] => if b.length + x.length ≤ 549755800000 then some ([.by (b ++ sizeB x.length ++ x)], .own 0) else none
  | _ => none

theorem ct70 : CT [(68, ⟨[false, false], treeG F68⟩)] [0, 1, 4] [] := ⟨(.cons c68.g (.nil _))⟩

theorem c70 : ACon Try.prog 70 F70 := by
  refine aconc E_ok (rs := [.tmp 4 35]) Try.func70 rfl Try.ntmps70 (by kernel_rfl) rfl (by decide) F70 (np := 2) ?_ ?_
  · intro ts h; unfold F70; split <;> first | rfl | (simp at h; done)
  intro ts H r hF hwf
  unfold F70 at hF
  split at hF <;> try (cases hF; done)
  rename_i b x
  split at hF
  case isFalse => cases hF
  rename_i hc
  have hb := hc
  cases hF
  have hs := sizeB_len (x.length : Int)
  have h : F68 [.by b, .int .u64 (x.length : Int)] = some ([.by (b ++ sizeB x.length)], .own 0) := if_pos (by omega)
  have hl : (b ++ sizeB x.length).length ≤ 549755812000 := by simp; omega
  repeat refine St h ct70 ?_
  exact AWP.ret (Fin trivial [] [1])

theorem putbytes_c {b x : List UInt8} (h : b.length + x.length ≤ 549755800000) : F70 [.by b, .by x] = some ([.by (b ++ sizeB x.length ++ x)], .own 0) := if_pos h

def F65 : Fun
  | [.by b, .sq 1 xs] => match asBys xs with
    | some l => if b.length + (flat l).length ≤ 549755700000 then some ([.by (b ++ sizeB l.length ++ flat l)], .own 0) else none
    | none => none
  | _ => none

theorem ct65 : CT [(68, ⟨[false, false], treeG F68⟩), (70, ⟨[false, false], treeG F70⟩)] [0, 1, 4, 5, 7, 13, 14, 15, 16] [] := ⟨(.cons c68.g (.cons c70.g (.nil _)))⟩

theorem c65 : ACon Try.prog 65 F65 := by
  refine aconc E_ok (rs := [.tmp 4 35]) Try.func65 rfl Try.ntmps65 (by kernel_rfl) rfl (by decide) F65 (np := 2) ?_ ?_
  · intro ts h; unfold F65; split <;> first | rfl | (simp at h; done)
  intro ts H r hF hwf
  unfold F65 at hF
  split at hF <;> try (cases hF; done)
  rename_i b xs
  split at hF <;> try (cases hF; done)
  rename_i l hl
  split at hF
  case isFalse => cases hF
  rename_i hc
  have hb := hc
  cases hF
  obtain rfl := asBys_inv hl
  have hlen := len_le_flat l
  have hs := sizeB_len (l.length : Int)
  have h : F68 [.by b, .int .u64 (l.length : Int)] = some ([.by (b ++ sizeB l.length)], .own 0) := if_pos (by omega)
  repeat refine St h ct65 ?_
  refine AWP.loop (G := { k : Nat // k ≤ l.length }) (fun k => ⟨[(5, .own 0), (13, .t (.sq 1 (l.map .by))), (14, .t (.int .i64 l.length)), (15, .t (.int .i64 (k.1 : Int)))], [.by (b ++ sizeB l.length ++ flat (l.take k.1))]⟩)
    (fun k => l.length - k.1) ⟨0, by omega⟩ (Wt (And.intro @List.take_zero.{0} <| (And.intro @flat.eq_1 <| @flat.eq_2)) [5, 13, 14, 15] [0]) ?_
  intro ⟨k, hk⟩
  dsimp only
  by_cases hlt : (k : Int) < (l.length : Int)
  · have hlt' : k < l.length := by omega
    have hget := map_getD l k hlt'
    have hfl := flat_get_len l k hlt'
    have hft := flat_take l k hlt'
    have h2 : F70 [.by (b ++ sizeB l.length ++ flat (l.take k)), .by (l.getD k [])] = some ([.by (b ++ sizeB l.length ++ flat (l.take k) ++ sizeB (l.getD k []).length ++ l.getD k [])], .own 0) := if_pos (by simp only [List.length_append]; omega)
    repeat refine St (And.intro hlt' <| And.intro hget <| h2) ct65 ?_
    exact ⟨⟨k + 1, by omega⟩, (Wt (And.intro hft <| @List.append_assoc.{0}) [5, 13, 14, 15] [1]), by simp only; omega⟩
  · obtain rfl : k = l.length := by omega
    repeat refine St trivial ct65 ?_
    exact AWP.ret (Fin (@List.take_length.{0}) [] [0])

theorem putlist_c {b : List UInt8} {l : List (List UInt8)} (h : b.length + (flat l).length ≤ 549755700000) : F65 [.by b, .sq 1 (l.map .by)] = some ([.by (b ++ sizeB l.length ++ flat l)], .own 0) := by
  simp only [F65, asBys_map]; exact if_pos h

end Go.Fw

end

section
/- Chapter 7: turning, the numbers of the steps. -/
namespace Go.Fw
open Go Go.Proofs
set_option linter.unusedVariables false
set_option linter.unusedSimpArgs false

theorem u32_of {n : Int} (h : inK .u32 n) : n = ((UInt32.ofNat n.toNat).toNat : Int) := by
  obtain ⟨h1, h2⟩ := h
  have h2' : n ≤ 4294967295 := h2
  have h1' : 0 ≤ n := h1
  rw [UInt32.toNat_ofNat', Nat.mod_eq_of_lt (by omega)]; omega

theorem rot_s : ∀ r : Nat, r < 32 → 1 ≤ r → abits .and .u64 (IntKind.u64.wrap (-(r : Int))) 31 = ((32 - r : Nat) : Int) ∧ IntKind.u64.wrap (32 - ((32 - r : Nat) : Int)) = (r : Int) := by decide +kernel

def F84 : Fun
  | [.int .u32 n, .int .i64 k] => if -31 ≤ k ∧ k ≤ -1 then some ([], .t (u32T (tr (UInt32.ofNat n.toNat) (-k).toNat))) else none
  | _ => none

theorem ct84 : CT [] [0, 1, 4, 5] [] := ⟨GClOk.nil _⟩

theorem c84 : ACon Try.prog 84 F84 := by
  refine aconc E_ok (rs := [.tmp 4 24]) Try.func84 rfl Try.ntmps84 (by kernel_rfl) rfl (by decide) F84 (np := 2) ?_ ?_
  · intro ts h; unfold F84; split <;> first | rfl | (simp at h; done)
  intro ts H r hF hwf
  unfold F84 at hF
  split at hF <;> try (cases hF; done)
  rename_i n k
  split at hF
  case isFalse => cases hF
  rename_i hk
  have hn : inK .u32 n := by have := hwf _ (List.mem_cons_self); simpa only [T.wf] using this
  have hn' := u32_of hn
  generalize UInt32.ofNat n.toNat = x at *
  subst hn'
  obtain ⟨r, hr, hr1⟩ : ∃ r : Nat, k = -(r : Int) ∧ (-k).toNat = r := ⟨(-k).toNat, by omega, rfl⟩
  rw [hr1] at hF
  cases hF
  subst hr
  obtain ⟨h1, h2⟩ := rot_s r (by omega) (by omega)
  have h0 : ¬ ((32 - r : Nat) : Int) < 0 := by omega
  have h3 : ¬ (r : Int) < 0 := by omega
  have h4 := u32_shl x (32 - r) (by omega)
  have h5 := u32_shr x r (by omega)
  repeat refine St (And.intro h1 <| And.intro h2 <| And.intro h0 <| And.intro h3 <| And.intro h4 <| And.intro h5 <| @u32_or) ct84 ?_
  have e : tr x r = x <<< UInt32.ofNat (32 - r) ||| x >>> UInt32.ofNat r := UInt32.or_comm _ _
  exact AWP.ret (Fin (And.intro e <| @u32T.eq_def) [] [])

theorem u32_ofNat (x : UInt32) : UInt32.ofNat x.toNat = x := by simp
theorem rot_c (x : UInt32) (r : Nat) (h : r ≤ 31) (h1 : 1 ≤ r) : F84 [.int .u32 (x.toNat : Int), .int .i64 (-(r : Int))] = some ([], .t (.int .u32 ((tr x r).toNat : Int))) := by
  simp only [F84]
  rw [if_pos ⟨by omega, by omega⟩]
  simp [u32T]
theorem rotc2 (x : UInt32) : F84 [.int .u32 (x.toNat : Int), .int .i64 (-2)] = some ([], .t (.int .u32 ((tr x 2).toNat : Int))) := rot_c x 2 (by omega) (by omega)
theorem rotc6 (x : UInt32) : F84 [.int .u32 (x.toNat : Int), .int .i64 (-6)] = some ([], .t (.int .u32 ((tr x 6).toNat : Int))) := rot_c x 6 (by omega) (by omega)
theorem rotc7 (x : UInt32) : F84 [.int .u32 (x.toNat : Int), .int .i64 (-7)] = some ([], .t (.int .u32 ((tr x 7).toNat : Int))) := rot_c x 7 (by omega) (by omega)
theorem rotc11 (x : UInt32) : F84 [.int .u32 (x.toNat : Int), .int .i64 (-11)] = some ([], .t (.int .u32 ((tr x 11).toNat : Int))) := rot_c x 11 (by omega) (by omega)
theorem rotc13 (x : UInt32) : F84 [.int .u32 (x.toNat : Int), .int .i64 (-13)] = some ([], .t (.int .u32 ((tr x 13).toNat : Int))) := rot_c x 13 (by omega) (by omega)
theorem rotc17 (x : UInt32) : F84 [.int .u32 (x.toNat : Int), .int .i64 (-17)] = some ([], .t (.int .u32 ((tr x 17).toNat : Int))) := rot_c x 17 (by omega) (by omega)
theorem rotc18 (x : UInt32) : F84 [.int .u32 (x.toNat : Int), .int .i64 (-18)] = some ([], .t (.int .u32 ((tr x 18).toNat : Int))) := rot_c x 18 (by omega) (by omega)
theorem rotc19 (x : UInt32) : F84 [.int .u32 (x.toNat : Int), .int .i64 (-19)] = some ([], .t (.int .u32 ((tr x 19).toNat : Int))) := rot_c x 19 (by omega) (by omega)
theorem rotc22 (x : UInt32) : F84 [.int .u32 (x.toNat : Int), .int .i64 (-22)] = some ([], .t (.int .u32 ((tr x 22).toNat : Int))) := rot_c x 22 (by omega) (by omega)
theorem rotc25 (x : UInt32) : F84 [.int .u32 (x.toNat : Int), .int .i64 (-25)] = some ([], .t (.int .u32 ((tr x 25).toNat : Int))) := rot_c x 25 (by omega) (by omega)

theorem kT_eq : List.map u32T kS = [T.int .u32 1116352408, T.int .u32 1899447441, T.int .u32 3049323471, T.int .u32 3921009573, T.int .u32 961987163, T.int .u32 1508970993, T.int .u32 2453635748, T.int .u32 2870763221, T.int .u32 3624381080, T.int .u32 310598401, T.int .u32 607225278, T.int .u32 1426881987, T.int .u32 1925078388, T.int .u32 2162078206, T.int .u32 2614888103, T.int .u32 3248222580, T.int .u32 3835390401, T.int .u32 4022224774, T.int .u32 264347078, T.int .u32 604807628, T.int .u32 770255983, T.int .u32 1249150122, T.int .u32 1555081692, T.int .u32 1996064986, T.int .u32 2554220882, T.int .u32 2821834349, T.int .u32 2952996808, T.int .u32 3210313671, T.int .u32 3336571891, T.int .u32 3584528711, T.int .u32 113926993, T.int .u32 338241895, T.int .u32 666307205, T.int .u32 773529912, T.int .u32 1294757372, T.int .u32 1396182291, T.int .u32 1695183700, T.int .u32 1986661051, T.int .u32 2177026350, T.int .u32 2456956037, T.int .u32 2730485921, T.int .u32 2820302411, T.int .u32 3259730800, T.int .u32 3345764771, T.int .u32 3516065817, T.int .u32 3600352804, T.int .u32 4094571909, T.int .u32 275423344, T.int .u32 430227734, T.int .u32 506948616, T.int .u32 659060556, T.int .u32 883997877, T.int .u32 958139571, T.int .u32 1322822218, T.int .u32 1537002063, T.int .u32 1747873779, T.int .u32 1955562222, T.int .u32 2024104815, T.int .u32 2227730452, T.int .u32 2361852424, T.int .u32 2428436474, T.int .u32 2756734187, T.int .u32 3204031479, T.int .u32 3329325298] := rfl
theorem hT_eq : List.map u32T hS = [T.int .u32 1779033703, T.int .u32 3144134277, T.int .u32 1013904242, T.int .u32 2773480762, T.int .u32 1359893119, T.int .u32 2600822924, T.int .u32 528734635, T.int .u32 1541459225] := rfl

def F83 : Fun
  | [] => some ([], .t (.ar 64 1 (kS.map u32T)))
  | _ => none

theorem ct83 : CT [] [0] [] := ⟨GClOk.nil _⟩

theorem c83 : ACon Try.prog 83 F83 := by
  refine aconc E_ok (rs := [.cell 0 132]) Try.func83 rfl Try.ntmps83 (by kernel_rfl) rfl (by decide) F83 (np := 0) ?_ ?_
  · intro ts h; unfold F83; split <;> first | rfl | (simp at h; done)
  intro ts H r hF hwf
  unfold F83 at hF
  split at hF <;> try (cases hF; done)
  cases hF
  repeat refine St @zar_len ct83 ?_
  exact AWP.ret (Fin @kT_eq [] [])

def F80 : Fun
  | [] => some ([], .t (.ar 8 1 (hS.map u32T)))
  | _ => none

theorem ct80 : CT [] [0] [] := ⟨GClOk.nil _⟩

theorem c80 : ACon Try.prog 80 F80 := by
  refine aconc E_ok (rs := [.cell 0 127]) Try.func80 rfl Try.ntmps80 (by kernel_rfl) rfl (by decide) F80 (np := 0) ?_ ?_
  · intro ts h; unfold F80; split <;> first | rfl | (simp at h; done)
  intro ts H r hF hwf
  unfold F80 at hF
  split at hF <;> try (cases hF; done)
  cases hF
  repeat refine St trivial ct80 ?_
  exact AWP.ret (Fin @hT_eq [] [])

end Go.Fw

end

section
/- Chapter 7: a block's numbers. -/
namespace Go.Fw
open Go Go.Proofs
set_option linter.unusedVariables false
set_option linter.unusedSimpArgs false

def F82 : Fun
  | [.by b] => if b.length = 64 then some ([], .t (.ar 64 1 ((sch b 64).map u32T))) else none
  | _ => none

theorem ct82 : CT [(84, ⟨[false, false], treeG F84⟩)] [0, 2, 3, 4, 6, 7, 8, 9, 10, 11, 12, 13, 21, 22, 23, 24, 39] [(14, [⟨0, [7], [], []⟩, ⟨0, [42], [], []⟩, ⟨1, [3, 43], [], []⟩, ⟨1, [44], [2], []⟩, ⟨0, [7], [], []⟩, ⟨0, [46], [], []⟩, ⟨1, [3, 47], [], []⟩, ⟨1, [48], [6], []⟩, ⟨0, [45], [2, 3], []⟩, ⟨0, [49], [2, 3, 6, 7], []⟩]), (17, [⟨0, [7], [], []⟩, ⟨0, [7], [], []⟩, ⟨0, [67], [], []⟩, ⟨1, [3, 68], [], []⟩, ⟨1, [69], [3], []⟩, ⟨0, [10], [], []⟩, ⟨0, [70, 71], [3, 4], []⟩, ⟨0, [7], [], []⟩, ⟨0, [73], [], []⟩, ⟨1, [3, 74], [], []⟩, ⟨1, [75], [9], []⟩, ⟨0, [72, 76], [3, 4, 9, 10], []⟩, ⟨0, [11], [], []⟩, ⟨0, [77, 78], [3, 4, 9, 10], []⟩, ⟨1, [3, 66], [3, 4, 9, 10], []⟩, ⟨2, [79, 80], [3, 4, 9, 10, 14], []⟩])] := ⟨(.cons c84.g (.nil _))⟩

/-- The array so far: so many numbers, then noughts. -/
def arS (l : List UInt32) (n : Nat) : List T := (l ++ List.replicate (n - l.length) 0).map u32T
theorem arS_len {l : List UInt32} {n : Nat} (h : l.length ≤ n) : (arS l n).length = n := by simp [arS]; omega
theorem arS_get {l : List UInt32} {n i : Nat} (h : i < l.length) : (arS l n).getD i default = .int .u32 ((l.getD i 0).toNat : Int) := by
  simp [arS, List.getD_eq_getElem?_getD, List.getElem?_append_left, h, u32T]
theorem rep_pad {l : List UInt32} {n : Nat} (h : l.length < n) : l ++ List.replicate (n - l.length) 0 = l ++ 0 :: List.replicate (n - (l.length + 1)) 0 := by
  have e : n - l.length = (n - (l.length + 1)) + 1 := by omega
  rw [e, List.replicate_succ]
theorem arS_set {l : List UInt32} {n : Nat} {x y : UInt32} (h : l.length < n) : (arS (l ++ [y]) n).set l.length (.int .u32 (x.toNat : Int)) = arS (l ++ [x]) n := by
  have e : T.int .u32 (x.toNat : Int) = u32T x := rfl
  rw [e]
  simp only [arS, ← List.map_set]
  simp
theorem arS_zero {l : List UInt32} {n : Nat} (h : l.length < n) : arS l n = arS (l ++ [0]) n := by
  unfold arS
  rw [rep_pad h]
  simp
theorem arS_nil (n : Nat) : arS [] n = zar n (.int .u32 0) := by simp [arS, zar, u32T]
theorem arS_full {l : List UInt32} {n : Nat} (h : l.length = n) : arS l n = l.map u32T := by simp [arS, h]

theorem arS_size (l : List UInt32) (n i : Nat) (h : i < (arS l n).length) : ((arS l n).getD i default).size = 1 := by
  unfold arS at *
  rw [List.length_map] at h
  rw [u32T_getD h]; rfl

theorem sl8 (x : UInt32) : IntKind.u32.wrap ((x.toNat : Int) * 2 ^ (min 8 IntKind.u32.bits)) = ((x <<< 8).toNat : Int) := u32_shl x 8 (by omega)
theorem sr3 (x : UInt32) : Int.fdiv (x.toNat : Int) (2 ^ (min 3 IntKind.u32.bits)) = ((x >>> 3).toNat : Int) := u32_shr x 3 (by omega)
theorem sr10 (x : UInt32) : Int.fdiv (x.toNat : Int) (2 ^ (min 10 IntKind.u32.bits)) = ((x >>> 10).toNat : Int) := u32_shr x 10 (by omega)

def wacc (b : List UInt8) (t : Nat) : Nat → UInt32
  | 0 => 0
  | j + 1 => wacc b t j <<< 8 ||| (b.getD (4 * t + j) 0).toUInt32
theorem wacc4 (b : List UInt8) (t : Nat) : wacc b t 4 = word b t := by
  simp only [wacc, word, Nat.add_zero]
  congr 6
  simp

theorem fsg0 (x : UInt32) : tr x 7 ^^^ tr x 18 ^^^ x >>> 3 = sg0 x := rfl
theorem fsg1 (x : UInt32) : tr x 17 ^^^ tr x 19 ^^^ x >>> 10 = sg1 x := rfl

set_option maxHeartbeats 1000000 in
theorem c82 : ACon Try.prog 82 F82 := by
  refine aconc E_ok (rs := [.cell 2 132]) Try.func82 rfl Try.ntmps82 (by kernel_rfl) rfl (by decide) F82 (np := 1) ?_ ?_
  · intro ts h; unfold F82; split <;> first | rfl | (simp at h; done)
  intro ts H r hF hwf
  unfold F82 at hF
  split at hF <;> try (cases hF; done)
  rename_i b
  split at hF
  case isFalse => cases hF
  rename_i hb
  cases hF
  repeat refine St trivial ct82 ?_
  refine AWP.loop (G := { t : Nat // t ≤ 16 }) (fun t => ⟨[(0, .t (.by b)), (2, .ptr 0 0 []), (3, .ptr 1 0 []), (12, .t (.int .i64 (t.1 : Int)))], [.bx (.t (.ar 64 1 (zar 64 (.int .u32 0)))), .bx (.t (.ar 64 1 (arS (sch b t.1) 64)))]⟩) (fun t => 16 - t.1) ⟨0, by omega⟩ ((Wt (And.intro (And.intro @sch.eq_1 <| @sch.eq_2) <| @arS_nil) [0, 2, 3, 12] [0, 1])) ?_
  · intro ⟨t, ht⟩
    dsimp only
    have hsl := sch_len b t
    by_cases hlt : (t : Int) < 16
    case neg =>
      obtain rfl : t = 16 := by omega
      repeat refine St hlt ct82 ?_
      refine AWP.loop (G := { t : Nat // 16 ≤ t ∧ t ≤ 64 }) (fun t => ⟨[(0, .t (.by b)), (2, .ptr 0 0 []), (3, .ptr 1 0 []), (7, .t (.int .i64 (t.1 : Int)))], [.bx (.t (.ar 64 1 (zar 64 (.int .u32 0)))), .bx (.t (.ar 64 1 (arS (sch b t.1) 64)))]⟩) (fun t => 64 - t.1) ⟨16, by omega⟩ ((Wt trivial [0, 2, 3, 7] [0, 1])) ?_
      intro ⟨t, ht1, ht2⟩
      dsimp only
      have hsl := sch_len b t
      by_cases hlt2 : (t : Int) < 64
      case neg =>
        obtain rfl : t = 64 := by omega
        have hf := arS_full hsl
        have harl : (List.map u32T (sch b 64)).length = 64 := by simp [hsl]
        repeat refine St (And.intro hlt2 <| And.intro hf <| And.intro harl <| And.intro @T.size.eq_def <| @zar_len) ct82 ?_
        exact AWP.ret (Fin trivial [] [])
      have ht64 : t < 64 := by omega
      have hm15 : IntKind.i64.wrap ((t : Int) - 15) = ((t - 15 : Nat) : Int) := by rw [wrap_i64 (by omega) (by omega)]; omega
      have hm2 : IntKind.i64.wrap ((t : Int) - 2) = ((t - 2 : Nat) : Int) := by rw [wrap_i64 (by omega) (by omega)]; omega
      have hm16 : IntKind.i64.wrap ((t : Int) - 16) = ((t - 16 : Nat) : Int) := by rw [wrap_i64 (by omega) (by omega)]; omega
      have hm7 : IntKind.i64.wrap ((t : Int) - 7) = ((t - 7 : Nat) : Int) := by rw [wrap_i64 (by omega) (by omega)]; omega
      have hk1 : IntKind.i64.wrap ((t : Int) + 1) = ((t + 1 : Nat) : Int) := by rw [wrap_i64 (by omega) (by omega)]; omega
      have harl : (arS (sch b t) 64).length = 64 := arS_len (by omega)
      have g15 := arS_get (n := 64) (l := sch b t) (i := t - 15) (by omega)
      have g2 := arS_get (n := 64) (l := sch b t) (i := t - 2) (by omega)
      have g16 := arS_get (n := 64) (l := sch b t) (i := t - 16) (by omega)
      have g7 := arS_get (n := 64) (l := sch b t) (i := t - 7) (by omega)
      have l15 : t - 15 < 64 := by omega
      have l2 : t - 2 < 64 := by omega
      have l16 : t - 16 < 64 := by omega
      have l7 : t - 7 < 64 := by omega
      have i15 : ((t - 15 : Nat) : Int) < 64 := by omega
      have i2 : ((t - 2 : Nat) : Int) < 64 := by omega
      have i16 : ((t - 16 : Nat) : Int) < 64 := by omega
      have i7 : ((t - 7 : Nat) : Int) < 64 := by omega
      have hars : ∀ y : UInt32, (arS (sch b t) 64).set t (.int .u32 (y.toNat : Int)) = arS (sch b t ++ [y]) 64 := fun y => by
        have := arS_set (l := sch b t) (n := 64) (x := y) (y := 0) (by omega)
        rw [← arS_zero (by omega), hsl] at this
        exact this
      have gsz := arS_size (sch b t) 64 t (by omega)
      have hnx : sch b t ++ [(sch b t).getD (t - 16) 0 + sg0 ((sch b t).getD (t - 15) 0) + (sch b t).getD (t - 7) 0 + sg1 ((sch b t).getD (t - 2) 0)] = sch b (t + 1) := by simp only [sch, next]; rw [if_neg (by omega)]
      repeat refine St (And.intro hlt2 <| And.intro hm15 <| And.intro hm2 <| And.intro hm16 <| And.intro hm7 <| And.intro harl <| And.intro g15 <| And.intro g2 <| And.intro g16 <| And.intro g7 <| And.intro l15 <| And.intro l2 <| And.intro l16 <| And.intro l7 <| And.intro i15 <| And.intro i2 <| And.intro i16 <| And.intro i7 <| And.intro ht64 <| And.intro @rotc7 <| And.intro @rotc18 <| And.intro @rotc17 <| And.intro @rotc19 <| And.intro @u32_xor <| And.intro @u32_add <| And.intro @sr3 <| And.intro @sr10 <| And.intro @fsg0 <| And.intro @fsg1 <| And.intro hars <| And.intro hk1 <| gsz) ct82 ?_
      exact ⟨⟨t + 1, by omega, by omega⟩, (Wt hnx [0, 2, 3, 7] [0, 1]), by simp only; omega⟩
    have hm1 : IntKind.i64.wrap (4 * (t : Int)) = ((4 * t : Nat) : Int) := by rw [wrap_i64 (by omega) (by omega)]; omega
    have hm2 : IntKind.i64.wrap (((4 * t : Nat) : Int) + 4) = ((4 * t + 4 : Nat) : Int) := by rw [wrap_i64 (by omega) (by omega)]; omega
    repeat refine St (And.intro hlt <| And.intro hm1 <| And.intro hm2 <| hb) ct82 ?_
    have hdl : (List.drop (4 * t) (List.take (4 * t + 4) b)).length = 4 := by simp; omega
    generalize hR : List.drop (4 * t) (List.take (4 * t + 4) b) = R at hdl
    have ht64 : t < 64 := by omega
    have harl : ∀ z, (arS (sch b t ++ [z]) 64).length = 64 := fun z => arS_len (by simp [hsl]; omega)
    have harg : ∀ z, (arS (sch b t ++ [z]) 64).getD t default = .int .u32 (z.toNat : Int) := fun z => by
      rw [arS_get (by simp [hsl])]
      simp [List.getD_eq_getElem?_getD, hsl]
    have hars : ∀ z y : UInt32, (arS (sch b t ++ [z]) 64).set t (.int .u32 (y.toNat : Int)) = arS (sch b t ++ [y]) 64 := fun z y => by
      have := arS_set (l := sch b t) (n := 64) (x := y) (y := z) (by omega)
      rwa [hsl] at this
    have hsn : sch b t ++ [word b t] = sch b (t + 1) := by simp only [sch, next]; rw [if_pos (by omega)]
    have hk2 : IntKind.i64.wrap ((t : Int) + 1) = ((t + 1 : Nat) : Int) := by rw [wrap_i64 (by omega) (by omega)]; omega
    refine AWP.loop (G := { j : Nat // j ≤ 4 }) (fun j => ⟨[(0, .t (.by b)), (2, .ptr 0 0 []), (3, .ptr 1 0 []), (4, .t (.int .i64 (t : Int))), (12, .t (.int .i64 (t : Int))), (21, .t (.by R)), (22, .t (.int .i64 4)), (23, .t (.int .i64 (j.1 : Int)))], [.bx (.t (.ar 64 1 (zar 64 (.int .u32 0)))), .bx (.t (.ar 64 1 (arS (sch b t ++ [wacc b t j.1]) 64)))]⟩) (fun j => 4 - j.1) ⟨0, by omega⟩ (Wt (And.intro (arS_zero (show (sch b t).length < 64 by omega)) <| And.intro (And.intro @wacc.eq_1 <| @wacc.eq_2) <| hdl) [0, 2, 3, 4, 12, 21, 22, 23] [0, 1]) ?_
    intro ⟨j, hj⟩
    dsimp only
    by_cases hlt4 : (j : Int) < 4
    · have hRg : R.getD j 0 = b.getD (4 * t + j) 0 := by
        rw [← hR]; simp only [List.getD_eq_getElem?_getD, List.getElem?_drop, List.getElem?_take]
        rw [if_pos (by omega)]
      have hj4 : j < 4 := by omega
      have hk1 : IntKind.i64.wrap ((j : Int) + 1) = ((j + 1 : Nat) : Int) := by rw [wrap_i64 (by omega) (by omega)]; omega
      repeat refine St (And.intro hlt4 <| And.intro hRg <| And.intro hj4 <| And.intro hdl <| And.intro harl <| And.intro harg <| And.intro hars <| And.intro ht64 <| And.intro @sl8 <| And.intro @u32_of_u8 <| And.intro @u32_or <| And.intro hk1 <| @u8.eq_def) ct82 ?_
      exact ⟨⟨j + 1, by omega⟩, (Wt (And.intro @wacc.eq_1 <| @wacc.eq_2) [0, 2, 3, 4, 12, 21, 22, 23] [0, 1]), by simp only; omega⟩
    · obtain rfl : j = 4 := by omega
      repeat refine St (And.intro hlt4 <| hk2) ct82 ?_
      exact ⟨⟨t + 1, by omega⟩, (Wt (And.intro @wacc4 <| hsn) [0, 2, 3, 12] [0, 1]), by simp only; omega⟩

end Go.Fw

end

section
/- Chapter 7: a block taken. -/
namespace Go.Fw
open Go Go.Proofs
set_option linter.unusedVariables false
set_option linter.unusedSimpArgs false

theorem u32T_inj {a b : UInt32} (h : u32T a = u32T b) : a = b := by
  simp only [u32T, T.int.injEq, true_and] at h
  exact UInt32.toNat_inj.1 (by omega)
noncomputable def asS8 (xs : List T) : Option S8 := inv (fun s : S8 => s.l.map u32T) xs
theorem asS8_map (s : S8) : asS8 (s.l.map u32T) = some s := inv_of (f := fun s : S8 => s.l.map u32T) (fun a b h => by
  simp only [S8.l, List.map_cons, List.map_nil, List.cons.injEq, and_true] at h
  obtain ⟨h1, h2, h3, h4, h5, h6, h7, h8⟩ := h
  cases a; cases b
  simp only [S8.mk.injEq]
  exact ⟨u32T_inj h1, u32T_inj h2, u32T_inj h3, u32T_inj h4, u32T_inj h5, u32T_inj h6, u32T_inj h7, u32T_inj h8⟩) s
theorem asS8_inv {xs : List T} {s : S8} (h : asS8 xs = some s) : xs = s.l.map u32T := inv_inv (f := fun s : S8 => s.l.map u32T) h

/-- A variable of eight numbers, or a hash that begins with them. -/
noncomputable def G81 : GFun
  | [.bx (.t (.ar 8 1 xs))], [.ptr 0 0 [], .t (.by b)] => match asS8 xs with
    | some s => if b.length = 64 then some ([.bx (.t (.ar 8 1 ((blkS s b).l.map u32T)))], .tup []) else none
    | none => none
  | [.bx (.t (.st [.ar 8 1 xs, .by r, .int .u64 n]))], [.ptr 0 0 [0], .t (.by b)] => match asS8 xs with
    | some s => if b.length = 64 then some ([.bx (.t (.st [.ar 8 1 ((blkS s b).l.map u32T), .by r, .int .u64 n]))], .tup []) else none
    | none => none
  | _, _ => none

theorem ct81 : CT [(82, ⟨[false], treeG F82⟩), (83, ⟨[], treeG F83⟩), (84, ⟨[false, false], treeG F84⟩)] [0, 1, 4, 5, 6, 7, 8, 9, 10, 11, 12, 19, 20, 101, 102] [(6, (List.cons (⟨1, [6], [], []⟩ : Info) <| List.cons (⟨1, [24], [0], []⟩ : Info) <| List.cons (⟨0, [8], [], []⟩ : Info) <| List.cons (⟨1, [26], [], []⟩ : Info) <| List.cons (⟨0, [8], [], []⟩ : Info) <| List.cons (⟨1, [28], [3], []⟩ : Info) <| List.cons (⟨0, [27, 29], [3, 5], []⟩ : Info) <| List.cons (⟨0, [8], [], []⟩ : Info) <| List.cons (⟨1, [31], [3, 5], []⟩ : Info) <| List.cons (⟨0, [30, 32], [3, 5, 8], []⟩ : Info) <| List.cons (⟨0, [25, 33], [0, 1, 3, 5, 8], []⟩ : Info) <| List.cons (⟨0, [8], [], []⟩ : Info) <| List.cons (⟨1, [6], [], []⟩ : Info) <| List.cons (⟨1, [36], [12], []⟩ : Info) <| List.cons (⟨0, [35, 37], [12, 13], []⟩ : Info) <| List.cons (⟨0, [8], [], []⟩ : Info) <| List.cons (⟨0, [39], [], []⟩ : Info) <| List.cons (⟨1, [6], [], []⟩ : Info) <| List.cons (⟨1, [41], [17], []⟩ : Info) <| List.cons (⟨0, [40, 42], [17, 18], []⟩ : Info) <| List.cons (⟨0, [38, 43], [12, 13, 17, 18], []⟩ : Info) <| List.cons (⟨0, [34, 44], [0, 1, 3, 5, 8, 12, 13, 17, 18], []⟩ : Info) <| List.cons (⟨0, [7], [], []⟩ : Info) <| List.cons (⟨1, [5, 46], [], []⟩ : Info) <| List.cons (⟨1, [47], [23], []⟩ : Info) <| List.cons (⟨0, [45, 48], [0, 1, 3, 5, 8, 12, 13, 17, 18, 23, 24], []⟩ : Info) <| List.cons (⟨0, [7], [], []⟩ : Info) <| List.cons (⟨1, [4, 50], [], []⟩ : Info) <| List.cons (⟨1, [51], [27], []⟩ : Info) <| List.cons (⟨0, [49, 52], [0, 1, 3, 5, 8, 12, 13, 17, 18, 23, 24, 27, 28], []⟩ : Info) <| List.cons (⟨0, [53], [0, 1, 3, 5, 8, 12, 13, 17, 18, 23, 24, 27, 28], []⟩ : Info) <| [])), (8, [⟨0, [10], [], []⟩, ⟨1, [56], [], []⟩, ⟨0, [10], [], []⟩, ⟨1, [58], [1], []⟩, ⟨0, [57, 59], [1, 3], []⟩, ⟨0, [10], [], []⟩, ⟨1, [61], [1, 3], []⟩, ⟨0, [60, 62], [1, 3, 6], []⟩, ⟨0, [10], [], []⟩, ⟨1, [6], [], []⟩, ⟨1, [65], [9], []⟩, ⟨0, [64, 66], [9, 10], []⟩, ⟨0, [10], [], []⟩, ⟨1, [6], [], []⟩, ⟨1, [69], [13], []⟩, ⟨0, [68, 70], [13, 14], []⟩, ⟨0, [67, 71], [9, 10, 13, 14], []⟩, ⟨1, [6], [], []⟩, ⟨1, [73], [17], []⟩, ⟨1, [6], [], []⟩, ⟨1, [75], [19], []⟩, ⟨0, [74, 76], [17, 18, 19, 20], []⟩, ⟨0, [72, 77], [9, 10, 13, 14, 17, 18, 19, 20], []⟩, ⟨0, [63, 78], [1, 3, 6, 9, 10, 13, 14, 17, 18, 19, 20], []⟩, ⟨0, [79], [1, 3, 6, 9, 10, 13, 14, 17, 18, 19, 20], []⟩]), (14, [⟨0, [0], [], []⟩, ⟨0, [12], [], []⟩, ⟨0, [104], [], []⟩, ⟨1, [105, 106], [], []⟩, ⟨1, [107], [3], []⟩, ⟨0, [12], [], []⟩, ⟨1, [6, 109], [], []⟩, ⟨1, [110], [6], []⟩, ⟨0, [108, 111], [3, 4, 6, 7], []⟩, ⟨0, [104], [], []⟩, ⟨1, [105, 113], [3, 4, 6, 7], []⟩, ⟨2, [112, 114], [3, 4, 6, 7, 10], []⟩])] := ⟨(.cons c82.g (.cons c83.g (.cons c84.g (.nil _))))⟩

def a8 (v : S8) : List T := [.int .u32 (v.a.toNat : Int), .int .u32 (v.b.toNat : Int), .int .u32 (v.c.toNat : Int), .int .u32 (v.d.toNat : Int), .int .u32 (v.e.toNat : Int), .int .u32 (v.f.toNat : Int), .int .u32 (v.g.toNat : Int), .int .u32 (v.h.toNat : Int)]
theorem a8_eq (v : S8) : v.l.map u32T = a8 v := rfl

theorem kS_len : kS.length = 64 := rfl

/-- The first so many numbers added. -/
def mixS (s v : S8) (i : Nat) : List T := ((s.add v).l.take i ++ s.l.drop i).map u32T
theorem mixS_len (s v : S8) : ∀ i, i ≤ 8 → (mixS s v i).length = 8
  | 0, _ => rfl | 1, _ => rfl | 2, _ => rfl | 3, _ => rfl | 4, _ => rfl | 5, _ => rfl | 6, _ => rfl | 7, _ => rfl | 8, _ => rfl
  | i + 9, h => by omega
theorem mixS_get (s v : S8) : ∀ i, i < 8 → (mixS s v i).getD i default = .int .u32 ((s.l.getD i 0).toNat : Int)
  | 0, _ => rfl | 1, _ => rfl | 2, _ => rfl | 3, _ => rfl | 4, _ => rfl | 5, _ => rfl | 6, _ => rfl | 7, _ => rfl
  | i + 8, h => by omega
theorem a8_get (v : S8) : ∀ i, i < 8 → (List.map u32T v.l).getD i default = .int .u32 ((v.l.getD i 0).toNat : Int)
  | 0, _ => rfl | 1, _ => rfl | 2, _ => rfl | 3, _ => rfl | 4, _ => rfl | 5, _ => rfl | 6, _ => rfl | 7, _ => rfl
  | i + 8, h => by omega
theorem mixS_set (s v : S8) : ∀ i, i < 8 → (mixS s v i).set i (.int .u32 ((s.l.getD i 0 + v.l.getD i 0).toNat : Int)) = mixS s v (i + 1)
  | 0, _ => rfl | 1, _ => rfl | 2, _ => rfl | 3, _ => rfl | 4, _ => rfl | 5, _ => rfl | 6, _ => rfl | 7, _ => rfl
  | i + 8, h => by omega
theorem mixS_0 (s v : S8) : mixS s v 0 = s.l.map u32T := rfl
theorem mixS_8 (s v : S8) : mixS s v 8 = (s.add v).l.map u32T := rfl

set_option maxHeartbeats 4000000 in
theorem g81 : GCon Try.prog 81 G81 := by
  refine gconc E_ok (rs := []) Try.func81 rfl Try.ntmps81 (by kernel_rfl) rfl (by decide) G81 (np := 2) ?_ ?_
  · intro HB xs h; unfold G81; split <;> first | rfl | (simp at h; done)
  intro HB xs H r hG hwf hex
  unfold G81 at hG
  split at hG <;> try (cases hG; done)
  · rename_i xs b
    split at hG
    case h_2 => cases hG
    rename_i s hs
    split at hG
    case isFalse => cases hG
    rename_i hb
    cases hG
    obtain rfl := asS8_inv hs
    have hsp : F82 [.by b] = some ([], .t (.ar 64 1 ((sch b 64).map u32T))) := if_pos hb
    repeat refine St (And.intro (And.intro @gentry.eq_1 <| @gentry.eq_2) <| And.intro hsp <| @F83.eq_def) ct81 ?_
    refine AWP.loop (G := { t : Nat // t ≤ 64 }) (fun t => ⟨[(0, .ptr 0 0 []), (4, .ptr 1 0 []), (5, .ptr 2 0 []), (6, .ptr 3 0 []), (19, .t (.int .i64 (t.1 : Int)))], [.bx (.t (.ar 8 1 (s.l.map u32T))), .bx (.t (.ar 64 1 ((sch b 64).map u32T))), .bx (.t (.ar 64 1 (kS.map u32T))), .bx (.t (.ar 8 1 ((rnds b s t.1).l.map u32T)))]⟩) (fun t => 64 - t.1) ⟨0, by omega⟩ ((Wt (And.intro @rnds.eq_1 <| @rnds.eq_2) [0, 4, 5, 6, 19] [0, 1, 2, 3])) ?_
    intro ⟨t, ht⟩
    dsimp only
    by_cases hlt : (t : Int) < 64
    case neg =>
      obtain rfl : t = 64 := by omega
      repeat refine St hlt ct81 ?_
      refine AWP.loop (G := { i : Nat // i ≤ 8 }) (fun i => ⟨[(0, .ptr 0 0 []), (6, .ptr 1 0 []), (101, .t (.int .i64 (i.1 : Int)))], [.bx (.t (.ar 8 1 (mixS s (rnds b s 64) i.1))), .bx (.t (.ar 8 1 ((rnds b s 64).l.map u32T)))]⟩) (fun i => 8 - i.1) ⟨0, by omega⟩ ((Wt @mixS_0 [0, 6, 101] [0, 3])) ?_
      intro ⟨i, hi⟩
      dsimp only
      generalize hv : rnds b s 64 = v
      by_cases hl8 : (i : Int) < 8
      case neg =>
        obtain rfl : i = 8 := by omega
        have hfin : blkS s b = s.add v := by rw [← hv]; rfl
        repeat refine St hl8 ct81 ?_
        exact Fin (And.intro @mixS_8 <| hfin) [] [0]
      have hi8 : i < 8 := by omega
      have hml := mixS_len s v i (by omega)
      have hvl : (List.map u32T v.l).length = 8 := rfl
      have g1 := mixS_get s v i hi8
      have g2 := a8_get v i hi8
      have g3 := mixS_set s v i hi8
      have hk1 : IntKind.i64.wrap ((i : Int) + 1) = ((i + 1 : Nat) : Int) := by rw [wrap_i64 (by omega) (by omega)]; omega
      repeat refine St (And.intro hl8 <| And.intro hi8 <| And.intro hml <| And.intro hvl <| And.intro g1 <| And.intro g2 <| And.intro g3 <| And.intro @u32_add <| And.intro hk1 <| @T.size.eq_def) ct81 ?_
      exact ⟨⟨i + 1, by omega⟩, (Wt trivial [0, 6, 101] [0, 1]), by simp only; omega⟩
    have ht64 : t < 64 := by omega
    have hk1 : IntKind.i64.wrap ((t : Int) + 1) = ((t + 1 : Nat) : Int) := by rw [wrap_i64 (by omega) (by omega)]; omega
    have hkl : (List.map u32T kS).length = 64 := by simp [kS_len]
    have hwl : (List.map u32T (sch b 64)).length = 64 := by simp [sch_len]
    have hkg : (List.map u32T kS).getD t default = .int .u32 ((kS.getD t 0).toNat : Int) := u32T_getD (by rw [kS_len]; exact ht64)
    have hwg : (List.map u32T (sch b 64)).getD t default = .int .u32 (((sch b 64).getD t 0).toNat : Int) := u32T_getD (by rw [sch_len]; exact ht64)
    have hnx : rnds b s (t + 1) = rnd (rnds b s t) (kS.getD t 0) ((sch b 64).getD t 0) := rfl
    generalize rnds b s t = v at *
    generalize kS.getD t 0 = k at *
    generalize (sch b 64).getD t 0 = w at *
    repeat refine St (And.intro hlt <| And.intro (a8_eq v) <| And.intro @a8.eq_def <| And.intro hkl <| And.intro hwl <| And.intro hkg <| And.intro hwg <| And.intro ht64 <| And.intro hk1 <| And.intro @rotc2 <| And.intro @rotc6 <| And.intro @rotc11 <| And.intro @rotc13 <| And.intro @rotc22 <| And.intro @rotc25 <| And.intro @u32_xor <| And.intro @u32_and <| And.intro @u32_add <| And.intro @u32_not <| @T.size.eq_def) ct81 ?_
    exact ⟨⟨t + 1, by omega⟩, (Wt (And.intro hnx <| And.intro @rnd.eq_def <| And.intro @t1S.eq_def <| And.intro @t2S.eq_def <| And.intro @S8.l.eq_def <| @u32T.eq_def) [0, 4, 5, 6, 19] [0, 1, 2, 3]), by simp only; omega⟩
  · rename_i xs r n b
    split at hG
    case h_2 => cases hG
    rename_i s hs
    split at hG
    case isFalse => cases hG
    rename_i hb
    cases hG
    obtain rfl := asS8_inv hs
    have hsp : F82 [.by b] = some ([], .t (.ar 64 1 ((sch b 64).map u32T))) := if_pos hb
    repeat refine St (And.intro (And.intro @gentry.eq_1 <| @gentry.eq_2) <| And.intro hsp <| @F83.eq_def) ct81 ?_
    refine AWP.loop (G := { t : Nat // t ≤ 64 }) (fun t => ⟨[(0, .ptr 0 0 [0]), (4, .ptr 1 0 []), (5, .ptr 2 0 []), (6, .ptr 3 0 []), (19, .t (.int .i64 (t.1 : Int)))], [.bx (.t (.st [.ar 8 1 (s.l.map u32T), .by r, .int .u64 n])), .bx (.t (.ar 64 1 ((sch b 64).map u32T))), .bx (.t (.ar 64 1 (kS.map u32T))), .bx (.t (.ar 8 1 ((rnds b s t.1).l.map u32T)))]⟩) (fun t => 64 - t.1) ⟨0, by omega⟩ ((Wt (And.intro @rnds.eq_1 <| @rnds.eq_2) [0, 4, 5, 6, 19] [0, 1, 2, 3])) ?_
    intro ⟨t, ht⟩
    dsimp only
    by_cases hlt : (t : Int) < 64
    case neg =>
      obtain rfl : t = 64 := by omega
      repeat refine St hlt ct81 ?_
      refine AWP.loop (G := { i : Nat // i ≤ 8 }) (fun i => ⟨[(0, .ptr 0 0 [0]), (6, .ptr 1 0 []), (101, .t (.int .i64 (i.1 : Int)))], [.bx (.t (.st [.ar 8 1 (mixS s (rnds b s 64) i.1), .by r, .int .u64 n])), .bx (.t (.ar 8 1 ((rnds b s 64).l.map u32T)))]⟩) (fun i => 8 - i.1) ⟨0, by omega⟩ ((Wt @mixS_0 [0, 6, 101] [0, 3])) ?_
      intro ⟨i, hi⟩
      dsimp only
      generalize hv : rnds b s 64 = v
      by_cases hl8 : (i : Int) < 8
      case neg =>
        obtain rfl : i = 8 := by omega
        have hfin : blkS s b = s.add v := by rw [← hv]; rfl
        repeat refine St hl8 ct81 ?_
        exact Fin (And.intro @mixS_8 <| hfin) [] [0]
      have hi8 : i < 8 := by omega
      have hml := mixS_len s v i (by omega)
      have hvl : (List.map u32T v.l).length = 8 := rfl
      have g1 := mixS_get s v i hi8
      have g2 := a8_get v i hi8
      have g3 := mixS_set s v i hi8
      have hk1 : IntKind.i64.wrap ((i : Int) + 1) = ((i + 1 : Nat) : Int) := by rw [wrap_i64 (by omega) (by omega)]; omega
      repeat refine St (And.intro hl8 <| And.intro hi8 <| And.intro hml <| And.intro hvl <| And.intro g1 <| And.intro g2 <| And.intro g3 <| And.intro @u32_add <| And.intro hk1 <| @T.size.eq_def) ct81 ?_
      exact ⟨⟨i + 1, by omega⟩, (Wt trivial [0, 6, 101] [0, 1]), by simp only; omega⟩
    have ht64 : t < 64 := by omega
    have hk1 : IntKind.i64.wrap ((t : Int) + 1) = ((t + 1 : Nat) : Int) := by rw [wrap_i64 (by omega) (by omega)]; omega
    have hkl : (List.map u32T kS).length = 64 := by simp [kS_len]
    have hwl : (List.map u32T (sch b 64)).length = 64 := by simp [sch_len]
    have hkg : (List.map u32T kS).getD t default = .int .u32 ((kS.getD t 0).toNat : Int) := u32T_getD (by rw [kS_len]; exact ht64)
    have hwg : (List.map u32T (sch b 64)).getD t default = .int .u32 (((sch b 64).getD t 0).toNat : Int) := u32T_getD (by rw [sch_len]; exact ht64)
    have hnx : rnds b s (t + 1) = rnd (rnds b s t) (kS.getD t 0) ((sch b 64).getD t 0) := rfl
    generalize rnds b s t = v at *
    generalize kS.getD t 0 = k at *
    generalize (sch b 64).getD t 0 = w at *
    repeat refine St (And.intro hlt <| And.intro (a8_eq v) <| And.intro @a8.eq_def <| And.intro hkl <| And.intro hwl <| And.intro hkg <| And.intro hwg <| And.intro ht64 <| And.intro hk1 <| And.intro @rotc2 <| And.intro @rotc6 <| And.intro @rotc11 <| And.intro @rotc13 <| And.intro @rotc22 <| And.intro @rotc25 <| And.intro @u32_xor <| And.intro @u32_and <| And.intro @u32_add <| And.intro @u32_not <| @T.size.eq_def) ct81 ?_
    exact ⟨⟨t + 1, by omega⟩, (Wt (And.intro hnx <| And.intro @rnd.eq_def <| And.intro @t1S.eq_def <| And.intro @t2S.eq_def <| And.intro @S8.l.eq_def <| @u32T.eq_def) [0, 4, 5, 6, 19] [0, 1, 2, 3]), by simp only; omega⟩

end Go.Fw

end

section
/- Chapter 7: New, Write, Len. -/
namespace Go.Fw
open Go Go.Proofs
set_option linter.unusedVariables false
set_option linter.unusedSimpArgs false

/-- A hash that goes on. -/
abbrev hB (s : S8) (r : List UInt8) (n : Nat) : Blk := .bx (.t (.st [.ar 8 1 (s.l.map u32T), .by r, .int .u64 (n : Int)]))

def F73 : Fun
  | [] => some ([.bx (.t (.st [.ar 8 1 (hS.map u32T), .by [], .int .u64 0]))], .ptr 0 0 [])
  | _ => none

theorem ct73 : CT [(80, ⟨[], treeG F80⟩)] [0] [] := ⟨(.cons c80.g (.nil _))⟩

theorem c73 : ACon Try.prog 73 F73 := by
  refine aconc E_ok (rs := [.tmp 0 117]) Try.func73 rfl Try.ntmps73 (by kernel_rfl) rfl (by decide) F73 (np := 0) ?_ ?_
  · intro ts h; unfold F73; split <;> first | rfl | (simp at h; done)
  intro ts H r hF hwf
  unfold F73 at hF
  split at hF <;> try (cases hF; done)
  cases hF
  repeat refine St @F80.eq_def ct73 ?_
  refine AWP.weak (Wn 0 [1] 8 (.by [])) ?_
  exact AWP.ret (Fin trivial [] [0])

/-- The eight numbers behind so many blocks of some bytes. -/
def eatS (s : S8) (l : List UInt8) : Nat → S8
  | 0 => s
  | k + 1 => blkS (eatS s l k) ((l.drop (64 * k)).take 64)

theorem take_c1 (s : S8) {b : List UInt8} (h : b.length = 64) : G81 [.bx (.t (.ar 8 1 (s.l.map u32T)))] [.ptr 0 0 [], .t (.by b)] = some ([.bx (.t (.ar 8 1 ((blkS s b).l.map u32T)))], .tup []) := by
  simp only [G81, asS8_map]; rw [if_pos h]
theorem take_c2 (s : S8) (r : List UInt8) (n : Int) {b : List UInt8} (h : b.length = 64) : G81 [.bx (.t (.st [.ar 8 1 (s.l.map u32T), .by r, .int .u64 n]))] [.ptr 0 0 [0], .t (.by b)] = some ([.bx (.t (.st [.ar 8 1 ((blkS s b).l.map u32T), .by r, .int .u64 n]))], .tup []) := by
  simp only [G81, asS8_map]; rw [if_pos h]

noncomputable def G74 : GFun
  | [], [.t .nilp, .t (.by b)] => some ([], .tup [])
  | [.bx (.t (.st [.ar 8 1 xs, .by r, .int .u64 n]))], [.ptr 0 0 [], .t (.by b)] => match asS8 xs with
    | some s => if 0 ≤ n ∧ n ≤ 1000000000000 ∧ r.length ≤ 64 ∧ b.length ≤ 1000000000 then
        some ([.bx (.t (.st [.ar 8 1 ((eatS s (r ++ b) ((r ++ b).length / 64)).l.map u32T), .by ((r ++ b).drop (64 * ((r ++ b).length / 64))), .int .u64 (n + b.length)]))], .tup []) else none
    | none => none
  | _, _ => none

theorem ct74 : CT [(81, ⟨[true, false], G81⟩)] [0, 1, 5, 41] [(2, [⟨0, [0], [], []⟩, ⟨0, [0], [], []⟩, ⟨0, [17], [], []⟩, ⟨0, [18], [], []⟩, ⟨1, [19], [], []⟩, ⟨0, [0], [], []⟩, ⟨0, [21], [], []⟩, ⟨0, [22], [], []⟩, ⟨1, [23], [], []⟩, ⟨1, [24], [8], []⟩, ⟨0, [0], [], []⟩, ⟨0, [26], [], []⟩, ⟨0, [27], [], []⟩, ⟨1, [28], [], []⟩, ⟨1, [29], [13], []⟩, ⟨1, [20, 25, 30], [4, 8, 9, 13, 14], []⟩, ⟨0, [1], [], []⟩, ⟨2, [31, 32], [4, 8, 9, 13, 14, 15], []⟩, ⟨0, [16], [4, 8, 9, 13, 14, 15, 17], []⟩, ⟨0, [34], [4, 8, 9, 13, 14, 15, 17], []⟩, ⟨2, [33, 35], [4, 8, 9, 13, 14, 15, 17], []⟩]), (4, [⟨0, [0], [], []⟩, ⟨0, [42], [], []⟩, ⟨0, [43], [], []⟩, ⟨0, [0], [], []⟩, ⟨0, [45], [], []⟩, ⟨0, [46], [], []⟩, ⟨1, [47], [], []⟩, ⟨1, [48], [6], []⟩, ⟨2, [44, 49], [6, 7], []⟩])] := ⟨(.cons g81 (.nil _))⟩


set_option maxHeartbeats 1000000 in
theorem g74 : GCon Try.prog 74 G74 := by
  refine gconc E_ok (rs := []) Try.func74 rfl Try.ntmps74 (by kernel_rfl) rfl (by decide) G74 (np := 2) ?_ ?_
  · intro HB xs h; unfold G74; split <;> first | rfl | (simp at h; done)
  intro HB xs H r hG hwf hex
  unfold G74 at hG
  split at hG <;> try (cases hG; done)
  · cases hG
    repeat refine St (And.intro @gentry.eq_1 <| @gentry.eq_2) ct74 ?_
    exact AWP.ret (Fin trivial [] [])
  · rename_i xs r n b
    split at hG
    case h_2 => cases hG
    rename_i s hs
    split at hG
    case isFalse => cases hG
    rename_i hc
    obtain ⟨hn0, hn1, hr, hb⟩ := hc
    cases hG
    obtain rfl := asS8_inv hs
    have hw1 : IntKind.u64.wrap (b.length : Int) = (b.length : Int) := wrap_u64 (by omega) (by omega)
    have hw2 : IntKind.u64.wrap (n + (b.length : Int)) = n + (b.length : Int) := wrap_u64 (by omega) (by omega)
    have hr1 : r.length ≤ r.length := Nat.le_refl _
    repeat refine St (And.intro (And.intro @gentry.eq_1 <| @gentry.eq_2) <| And.intro hw1 <| And.intro hw2 <| And.intro hr <| hb) ct74 ?_
    obtain ⟨N, hN⟩ : ∃ N, n + (b.length : Int) = N := ⟨_, rfl⟩
    rw [hN]
    have hrl : (r ++ b).length ≤ 2000000000 := by simp; omega
    obtain ⟨l, hl⟩ : ∃ l, r ++ b = l := ⟨_, rfl⟩
    rw [hl] at hrl ⊢
    refine AWP.loop (G := { k : Nat // 64 * k ≤ l.length }) (fun k => ⟨[(0, .ptr 0 0 [])], [.bx (.t (.st [.ar 8 1 ((eatS s l k.1).l.map u32T), .by (l.drop (64 * k.1)), .int .u64 N]))]⟩) (fun k => l.length - 64 * k.1) ⟨0, by omega⟩ ((Wt (And.intro (And.intro @eatS.eq_1 <| @eatS.eq_2) <| @Nat.mul_zero) [0] [0])) ?_
    intro ⟨k, hk⟩
    dsimp only
    have hdl : (l.drop (64 * k)).length = l.length - 64 * k := by simp
    have hnx : eatS s l (k + 1) = blkS (eatS s l k) ((l.drop (64 * k)).take 64) := rfl
    obtain ⟨v, hv⟩ : ∃ v, eatS s l k = v := ⟨_, rfl⟩
    rw [hv] at hnx ⊢
    have hdd : (l.drop (64 * k)).drop 64 = l.drop (64 * (k + 1)) := by rw [List.drop_drop]; congr 1
    obtain ⟨d, hd⟩ : ∃ d, l.drop (64 * k) = d := ⟨_, rfl⟩
    rw [hd] at hdd hdl hnx ⊢
    by_cases h64 : 64 ≤ (d.length : Int)
    · have h64' : 64 ≤ d.length := by omega
      have htl : (d.take 64).length = 64 := by simp; omega
      have htk := take_c2 v d N htl
      repeat refine St (And.intro h64 <| And.intro h64' <| And.intro hdd <| htk) ct74 ?_
      exact ⟨⟨k + 1, by omega⟩, (Wt hnx [0] [0]), by simp only; omega⟩
    · obtain rfl : k = l.length / 64 := by omega
      repeat refine St h64 ct74 ?_
      exact Fin (And.intro hv <| hd) [] [0]

end Go.Fw

end

section
/- Chapter 7: the hash's end. -/
namespace Go.Fw
open Go Go.Proofs
set_option linter.unusedVariables false
set_option linter.unusedSimpArgs false

/-- How many noughts are put behind so many bytes and one. -/
def padK (m : Nat) : Nat := (119 - m % 64) % 64
def beB (N j : Nat) : UInt8 := UInt8.ofNat (N / 2 ^ (56 - 8 * j))
def be8 (N j : Nat) : List UInt8 := (List.range j).map (beB N)
theorem be8_snoc (N j : Nat) : be8 N j ++ [beB N j] = be8 N (j + 1) := by simp [be8, List.range_succ]
theorem be8_len (N j : Nat) : (be8 N j).length = j := by simp [be8]
def padS (r : List UInt8) (n : Nat) : List UInt8 := r ++ (128 :: repl (padK r.length) 0) ++ be8 (n * 8) 8
theorem padS_len (r : List UInt8) (n : Nat) : (padS r n).length % 64 = 0 := by
  simp only [padS, List.length_append, List.length_cons, repl_len, be8_len, padK]; omega

def outB (s : S8) (p : Nat) : UInt8 := ((s.l.getD (p / 4) 0) >>> UInt32.ofNat (24 - 8 * (p % 4))).toUInt8
def outM (s : S8) (p : Nat) : List UInt8 := (List.range 32).map fun j => if j < p then outB s j else 0
def outS (s : S8) : List UInt8 := (List.range 32).map (outB s)
theorem outM_0 (s : S8) : outM s 0 = zby 32 := rfl
theorem outM_32 (s : S8) : outM s 32 = outS s := by
  simp only [outM, outS]
  apply List.map_congr_left
  intro j hj
  rw [if_pos (by simpa using hj)]
theorem outM_len (s : S8) (p : Nat) : (outM s p).length = 32 := by simp [outM]
theorem outM_set (s : S8) {p : Nat} (h : p < 32) : (outM s p).set p (outB s p) = outM s (p + 1) := by
  apply List.ext_getElem
  · simp [outM]
  · intro j h1 h2
    simp only [List.length_set, outM_len] at h1
    rw [List.getElem_set]
    simp only [outM, List.getElem_map, List.getElem_range]
    by_cases e : p = j
    · subst e; simp
    · simp only [e, if_false]
      by_cases h3 : j < p
      · rw [if_pos h3, if_pos (by omega)]
      · rw [if_neg h3, if_neg (by omega)]

/-- The hash of what was taken, and of what is left. -/
def finS (s : S8) (r : List UInt8) (n : Nat) : List UInt8 := outS (eatS s (padS r n) ((padS r n).length / 64))

noncomputable def G75r : GFun
  | [.bx (.t (.st [.ar 8 1 xs, .by r, .int .u64 n]))], [.ptr 0 0 []] => match asS8 xs with
    | some s => if 0 ≤ n ∧ n ≤ 1000000000000 ∧ r.length ≤ 64 then some ([.bx (.t (.st [.ar 8 1 xs, .by r, .int .u64 n]))], .t (.ba 32 (finS s r n.toNat))) else none
    | none => none
  | _, _ => none

theorem ct75 : CT [(73, ⟨[], treeG F73⟩), (81, ⟨[true, false], G81⟩)] [0, 2, 3, 4, 5, 6, 7, 8, 9, 10, 12, 27, 37, 53, 59, 60, 61, 64, 65] [] := ⟨(.cons c73.g (.cons g81 (.nil _)))⟩

theorem beB_eq (n j : Nat) (h : n ≤ 1000000000000) (hj : j < 8) : UInt8.ofNat (IntKind.u8.wrap (Int.fdiv ((n * 8 : Nat) : Int) (2 ^ (min (56 - 8 * j) IntKind.u64.bits)))).toNat = beB (n * 8) j := by
  have e : min (56 - 8 * j) IntKind.u64.bits = 56 - 8 * j := by rw [bits_u64]; omega
  rw [e, Int.fdiv_eq_ediv_of_nonneg _ (by exact_mod_cast Nat.zero_le _)]
  have e2 : (2 : Int) ^ (56 - 8 * j) = ((2 ^ (56 - 8 * j) : Nat) : Int) := by rw [Int.natCast_pow]; rfl
  rw [e2, ← Int.natCast_ediv, wrapu8]
  unfold beB
  generalize n * 8 / 2 ^ (56 - 8 * j) = m
  have : ((m : Int) % 256).toNat = m % 256 := by omega
  rw [this]
  apply UInt8.toNat_inj.1
  simp

set_option maxHeartbeats 2000000 in
theorem g75r : GCon Try.prog 75 G75r := by
  refine gconc E_ok (rs := [.cell 2 23]) Try.func75 rfl Try.ntmps75 (by kernel_rfl) rfl (by decide) G75r (np := 1) ?_ ?_
  · intro HB xs h; unfold G75r; split <;> first | rfl | (simp at h; done)
  intro HB xs H r hG hwf hex
  unfold G75r at hG
  split at hG <;> try (cases hG; done)
  rename_i xs r n
  split at hG
  case h_2 => cases hG
  rename_i s hs
  split at hG
  case isFalse => cases hG
  rename_i hc
  obtain ⟨hn0, hn1, hr⟩ := hc
  cases hG
  obtain rfl := asS8_inv hs
  obtain ⟨N, rfl⟩ : ∃ N : Nat, n = (N : Int) := ⟨n.toNat, by omega⟩
  simp only [Int.toNat_natCast]
  have e128 : ∀ l : List UInt8, (l ++ [128]).length = l.length + 1 := fun l => by simp
  repeat refine St (And.intro (And.intro @gentry.eq_1 <| @gentry.eq_2) <| And.intro hr <| e128) ct75 ?_
  have hp64 : (r ++ UInt8.ofNat 128 :: repl (padK r.length) 0).length % 64 = 56 := by simp only [List.length_append, List.length_cons, repl_len, padK]; omega
  refine AWP.loop (G := { k : Nat // k ≤ padK r.length }) (fun k => ⟨[(0, .ptr 0 0 []), (2, .ptr 1 0 []), (3, .own 2)], [hB s r N, .bx (.t (.ba 32 (zby 32))), .by (r ++ (UInt8.ofNat 128 :: repl k.1 0))]⟩) (fun k => padK r.length - k.1) ⟨0, by omega⟩ ((Wt @repl_0 [0, 2, 3] [0, 1, 5])) ?_
  intro ⟨k, hk⟩
  dsimp only
  obtain ⟨L, hL⟩ : ∃ L, r ++ (UInt8.ofNat 128 :: repl k (0 : UInt8)) = L := ⟨_, rfl⟩
  have hLl : L.length = r.length + 1 + k := by rw [← hL]; simp only [List.length_append, List.length_cons, repl_len]; omega
  have hnx : L ++ [UInt8.ofNat 0] = r ++ (UInt8.ofNat 128 :: repl (k + 1) 0) := by rw [← hL, ← repl_snoc]; simp
  rw [hL]
  have hrem : IntKind.i64.wrap (Int.tmod (L.length : Int) 64) = ((L.length % 64 : Nat) : Int) := by
    have : Int.tmod (L.length : Int) 64 = ((L.length % 64 : Nat) : Int) := by rw [Int.tmod_eq_emod_of_nonneg (by omega)]; omega
    rw [this, wrap_i64 (by omega) (by omega)]
  have hkK : padK r.length = (119 - r.length % 64) % 64 := rfl
  have hLs : L.length ≤ 200 := by omega
  by_cases hd : L.length % 64 = 56
  · have hkk : k = padK r.length := by omega
    have hd' : (((L.length % 64 : Nat) : Int) != 56) = false := by simp; omega
    rw [← hkk] at hp64
    have hpad : padS r N = L ++ be8 (N * 8) 8 := by rw [← hL, hkk]; rfl
    have hmul : IntKind.u64.wrap ((N : Int) * 8) = ((N * 8 : Nat) : Int) := by rw [wrap_u64 (by omega) (by omega)]; omega
    repeat refine St (And.intro hrem <| And.intro hd' <| hmul) ct75 ?_
    have hLs' : L.length ≤ 200 := by omega
    refine AWP.loop (G := { x : Nat × Int // x.1 ≤ 8 ∧ x.2 = 56 - 8 * (x.1 : Int) }) (fun x => ⟨[(0, .ptr 0 0 []), (2, .ptr 1 0 []), (3, .own 2), (4, .t (.int .u64 ((N * 8 : Nat) : Int))), (5, .t (.int .i64 x.1.2))], [hB s r N, .bx (.t (.ba 32 (zby 32))), .by (L ++ be8 (N * 8) x.1.1)]⟩) (fun x => 8 - x.1.1) ⟨(0, 56), by omega, rfl⟩ ((Wt (show be8 (N * 8) 0 = [] from rfl) [0, 2, 3, 4, 5] [0, 1, 2])) ?_
    intro ⟨⟨j, q⟩, hj, hq⟩
    dsimp only at hj hq ⊢
    have hbl := be8_len (N * 8) j
    by_cases hq0 : 0 ≤ q
    · have hj8 : j < 8 := by omega
      have hqn : q = ((56 - 8 * j : Nat) : Int) := by omega
      have hbyte := beB_eq N j (by omega) hj8
      have hqt : q.toNat = 56 - 8 * j := by omega
      have hq0' : ¬ q < 0 := by omega
      have hk8 : IntKind.i64.wrap (q - 8) = q - 8 := wrap_i64 (by omega) (by omega)
      have hal : (L ++ be8 (N * 8) j).length ≤ 300 := by simp [hbl]; omega
      have hsn : (L ++ be8 (N * 8) j) ++ [beB (N * 8) j] = L ++ be8 (N * 8) (j + 1) := by rw [List.append_assoc, be8_snoc]
      obtain ⟨M, hM⟩ : ∃ M, L ++ be8 (N * 8) j = M := ⟨_, rfl⟩
      rw [hM] at hal hsn ⊢
      repeat refine St (And.intro hq0 <| And.intro hq0' <| And.intro hqt <| And.intro hbyte <| And.intro hk8 <| hal) ct75 ?_
      exact ⟨⟨(j + 1, q - 8), by omega, by simp only; omega⟩, (Wt hsn [0, 2, 3, 4, 5] [0, 1, 4]), by simp only; omega⟩
    · obtain rfl : j = 8 := by omega
      rw [← hpad]
      have hpl := padS_len r N
      have hfin : finS s r N = outS (eatS s (padS r N) ((padS r N).length / 64)) := rfl
      have hps : (padS r N).length ≤ 300 := by rw [hpad]; simp [hbl]; omega
      obtain ⟨P, hP⟩ : ∃ P, padS r N = P := ⟨_, rfl⟩
      rw [hP] at hpl hfin hps ⊢
      repeat refine St (And.intro hq0 <| @T.size.eq_def) ct75 ?_
      refine AWP.weak (Weak.freeze 2) ?_
      refine AWP.weak (Weak.thawS (y := .by P) 3 rfl) ?_
      refine AWP.loop (G := { k : Nat // 64 * k ≤ P.length }) (fun k => ⟨[(2, .ptr 1 0 []), (3, .t (.by (P.drop (64 * k.1)))), (6, .ptr 2 0 [])], [hB s r N, .bx (.t (.ba 32 (zby 32))), .bx (.t (.ar 8 1 ((eatS s P k.1).l.map u32T)))]⟩) (fun k => P.length - 64 * k.1) ⟨0, by omega⟩ ((Wt (And.intro @freezeOne.eq_def <| And.intro (And.intro @eatS.eq_1 <| @eatS.eq_2) <| @Nat.mul_zero) [2, 3, 6] [0, 1, 3])) ?_
      intro ⟨k, hk⟩
      dsimp only
      have hdl : (P.drop (64 * k)).length = P.length - 64 * k := by simp
      have hnx : eatS s P (k + 1) = blkS (eatS s P k) ((P.drop (64 * k)).take 64) := rfl
      have hdd : (P.drop (64 * k)).drop 64 = P.drop (64 * (k + 1)) := by rw [List.drop_drop]; congr 1
      obtain ⟨v, hv⟩ : ∃ v, eatS s P k = v := ⟨_, rfl⟩
      obtain ⟨d, hd⟩ : ∃ d, P.drop (64 * k) = d := ⟨_, rfl⟩
      rw [hv, hd] at hnx
      rw [hd] at hdl hdd
      rw [hv, hd]
      by_cases h64 : 0 < (d.length : Int)
      · have h64' : 64 ≤ d.length := by omega
        have h64i : 64 ≤ (d.length : Int) := by omega
        have htl : (d.take 64).length = 64 := by simp; omega
        have htk := take_c1 v htl
        repeat refine St (And.intro h64 <| And.intro h64' <| And.intro h64i <| And.intro hdd <| htk) ct75 ?_
        exact ⟨⟨k + 1, by omega⟩, (Wt hnx [2, 3, 6] [0, 1, 2]), by simp only; omega⟩
      · have hkk : k = P.length / 64 := by omega
        rw [← hkk, hv] at hfin
        repeat refine St h64 ct75 ?_
        refine AWP.loop (G := { i : Nat // i ≤ 8 }) (fun i => ⟨[(2, .ptr 1 0 []), (7, .ptr 2 0 []), (59, .t (.ar 8 1 (v.l.map u32T))), (60, .t (.int .i64 (i.1 : Int)))], [hB s r N, .bx (.t (.ba 32 (zby 32))), .bx (.t (.ba 32 (outM v (4 * i.1))))]⟩) (fun i => 8 - i.1) ⟨0, by omega⟩ ((Wt (And.intro @Nat.mul_zero <| @outM_0) [2, 7, 59, 60] [0, 1, 3])) ?_
        intro ⟨i, hi⟩
        dsimp only
        by_cases hi8 : (i : Int) < 8
        case neg =>
          obtain rfl : i = 8 := by omega
          have ho := outM_32 v
          have hol := outM_len v 32
          repeat refine St (And.intro hi8 <| And.intro @T.size.eq_def <| And.intro (show 4 * 8 = 32 from rfl) <| ho) ct75 ?_
          exact AWP.ret (Fin hfin [] [0])
        have hi8' : i < 8 := by omega
        have hvl : (List.map u32T v.l).length = 8 := rfl
        have hvg := a8_get v i hi8'
        have hki : IntKind.i64.wrap ((i : Int) + 1) = ((i + 1 : Nat) : Int) := by rw [wrap_i64 (by omega) (by omega)]; omega
        repeat refine St (And.intro hi8 <| And.intro hi8' <| And.intro hvl <| hvg) ct75 ?_
        refine AWP.loop (G := { j : Nat // j ≤ 4 }) (fun j => ⟨[(2, .ptr 1 0 []), (7, .ptr 2 0 []), (8, .t (.int .i64 (i : Int))), (9, .t (.int .u32 ((v.l.getD i 0).toNat : Int))), (59, .t (.ar 8 1 (v.l.map u32T))), (60, .t (.int .i64 (i : Int))), (64, .t (.int .i64 (j.1 : Int)))], [hB s r N, .bx (.t (.ba 32 (zby 32))), .bx (.t (.ba 32 (outM v (4 * i + j.1))))]⟩) (fun j => 4 - j.1) ⟨0, by omega⟩ ((Wt trivial [2, 7, 8, 9, 59, 60, 64] [0, 1, 2])) ?_
        intro ⟨j, hj⟩
        dsimp only
        by_cases hj4 : (j : Int) < 4
        · have hj4' : j < 4 := by omega
          have hm4 : IntKind.i64.wrap (4 * (i : Int)) = ((4 * i : Nat) : Int) := by rw [wrap_i64 (by omega) (by omega)]; omega
          have hm4j : IntKind.i64.wrap (((4 * i : Nat) : Int) + (j : Int)) = ((4 * i + j : Nat) : Int) := by rw [wrap_i64 (by omega) (by omega)]; omega
          have hm8 : IntKind.i64.wrap (8 * (j : Int)) = ((8 * j : Nat) : Int) := by rw [wrap_i64 (by omega) (by omega)]; omega
          have hm24 : IntKind.i64.wrap (24 - ((8 * j : Nat) : Int)) = ((24 - 8 * j : Nat) : Int) := by rw [wrap_i64 (by omega) (by omega)]; omega
          have hnn : ¬ ((24 - 8 * j : Nat) : Int) < 0 := by omega
          have hsh := u32_shr (v.l.getD i 0) (24 - 8 * j) (by omega)
          have hob : ((v.l.getD i 0) >>> UInt32.ofNat (24 - 8 * j)).toUInt8 = outB v (4 * i + j) := by
            unfold outB
            rw [show (4 * i + j) / 4 = i by omega, show (4 * i + j) % 4 = j by omega]
          have hp32 : 4 * i + j < 32 := by omega
          have hp32i : ((4 * i + j : Nat) : Int) < 32 := by omega
          have hset := outM_set v hp32
          have hol := outM_len v (4 * i + j)
          have hkj : IntKind.i64.wrap ((j : Int) + 1) = ((j + 1 : Nat) : Int) := by rw [wrap_i64 (by omega) (by omega)]; omega
          have hof : ∀ c : UInt8, UInt8.ofNat c.toNat = c := fun c => by simp
          obtain ⟨p, hp⟩ : ∃ p, 4 * i + j = p := ⟨_, rfl⟩
          have hpn : p + 1 = 4 * i + (j + 1) := by omega
          rw [hp] at hm4j hob hp32 hp32i hset hol ⊢
          repeat refine St (And.intro hj4 <| And.intro hj4' <| And.intro hm4 <| And.intro hm4j <| And.intro hm8 <| And.intro hm24 <| And.intro hnn <| And.intro hsh <| And.intro @u8_of_u32 <| And.intro hob <| And.intro hp32 <| And.intro hp32i <| And.intro hof <| And.intro hset <| And.intro hol <| And.intro hkj <| @T.size.eq_def) ct75 ?_
          exact ⟨⟨j + 1, by omega⟩, (Wt hpn [2, 7, 8, 9, 59, 60, 64] [0, 1, 2]), by simp only; omega⟩
        · obtain rfl : j = 4 := by omega
          have hpn : 4 * i + 4 = 4 * (i + 1) := by omega
          repeat refine St (And.intro hj4 <| hki) ct75 ?_
          exact ⟨⟨i + 1, by omega⟩, (Wt hpn [2, 7, 59, 60] [0, 1, 2]), by simp only; omega⟩
  · have hd' : (((L.length % 64 : Nat) : Int) != 56) = true := by simp; omega
    repeat refine St (And.intro hrem <| And.intro hd' <| hLs) ct75 ?_
    exact ⟨⟨k + 1, by omega⟩, (Wt hnx [0, 2, 3] [0, 1, 4]), by simp only; omega⟩

end Go.Fw

end

section
/- Chapter 7: the hash of a whole message. -/
namespace Go.Fw
open Go Go.Proofs
set_option linter.unusedVariables false
set_option linter.unusedSimpArgs false

theorem eatS_app (s : S8) (l m : List UInt8) : ∀ k, 64 * k ≤ l.length → eatS s (l ++ m) k = eatS s l k
  | 0, _ => rfl
  | k + 1, h => by
    simp only [eatS]
    rw [eatS_app s l m k (by omega), List.drop_append_of_le_length (by omega), List.take_append_of_le_length (by simp; omega)]
theorem eatS_add (s : S8) (l : List UInt8) (k : Nat) : ∀ j, eatS (eatS s l k) (l.drop (64 * k)) j = eatS s l (k + j)
  | 0 => rfl
  | j + 1 => by
    rw [show k + (j + 1) = (k + j) + 1 by omega]
    simp only [eatS]
    rw [eatS_add s l k j, List.drop_drop]
    congr 3; omega

/-- A hash behind some bytes. -/
def restS (l : List UInt8) : List UInt8 := l.drop (64 * (l.length / 64))
def eatenS (l : List UInt8) : S8 := eatS h0S l (l.length / 64)
abbrev msgB (l : List UInt8) : Blk := hB (eatenS l) (restS l) l.length
def shaL (l : List UInt8) : List UInt8 := finS h0S l l.length

theorem restS_len (l : List UInt8) : (restS l).length ≤ 64 := by simp [restS]; omega
theorem rest_app (l b : List UInt8) : restS l ++ b = (l ++ b).drop (64 * (l.length / 64)) := by
  unfold restS; rw [List.drop_append_of_le_length (by omega)]

theorem write_c (l b : List UInt8) (h : l.length ≤ 1000000000000) (hb : b.length ≤ 1000000000) :
    G74 [.bx (.t (.st [.ar 8 1 ((eatenS l).l.map u32T), .by (restS l), .int .u64 (l.length : Int)]))] [.ptr 0 0 [], .t (.by b)] = some ([msgB (l ++ b)], .tup []) := by
  simp only [G74, asS8_map]
  rw [if_pos ⟨by omega, by omega, restS_len l, hb⟩]
  have hq : (l ++ b).length / 64 = l.length / 64 + (restS l ++ b).length / 64 := by simp [restS]; omega
  have h1 : eatS (eatenS l) (restS l ++ b) ((restS l ++ b).length / 64) = eatenS (l ++ b) := by
    unfold eatenS
    rw [hq, ← eatS_add, rest_app l b, eatS_app h0S l b _ (by omega)]
  have h2 : (restS l ++ b).drop (64 * ((restS l ++ b).length / 64)) = restS (l ++ b) := by
    show _ = (l ++ b).drop (64 * ((l ++ b).length / 64))
    rw [hq, rest_app l b, List.drop_drop]; congr 1; omega
  rw [h1, h2]
  simp only [msgB, hB, List.length_append, Int.natCast_add]

theorem fin_c (l : List UInt8) : finS (eatenS l) (restS l) l.length = shaL l := by
  have hk : padK (restS l).length = padK l.length := by simp [restS, padK]; omega
  have hp : padS (restS l) l.length = (padS l l.length).drop (64 * (l.length / 64)) := by
    simp only [padS, hk]
    rw [List.append_assoc, rest_app, List.append_assoc]
  have hl : (padS l l.length).length / 64 = l.length / 64 + (padS (restS l) l.length).length / 64 := by
    rw [hp]
    have : l.length ≤ (padS l l.length).length := by simp only [padS, List.length_append]; omega
    simp only [List.length_drop]; omega
  have he : eatenS l = eatS h0S (padS l l.length) (l.length / 64) := by
    simp only [eatenS, padS]
    rw [List.append_assoc, eatS_app h0S l _ _ (by omega)]
  simp only [shaL, finS]
  rw [hl, ← eatS_add, ← he, ← hp]

noncomputable def G75 : GFun
  | [], [.t .nilp] => some ([], .t (.ba 32 (shaL [])))
  | [.bx (.t (.st [.ar 8 1 xs, .by r, .int .u64 n]))], [.ptr 0 0 []] => G75r [.bx (.t (.st [.ar 8 1 xs, .by r, .int .u64 n]))] [.ptr 0 0 []]
  | _, _ => none

theorem sum_c (l : List UInt8) (h : l.length ≤ 1000000000000) :
    G75r [.bx (.t (.st [.ar 8 1 ((eatenS l).l.map u32T), .by (restS l), .int .u64 (l.length : Int)]))] [.ptr 0 0 []] = some ([msgB l], .t (.ba 32 (shaL l))) := by
  simp only [G75r, asS8_map]
  rw [if_pos ⟨by omega, by omega, restS_len l⟩, Int.toNat_natCast, fin_c]
theorem sum_0 : G75r [.bx (.t (.st [.ar 8 1 (hS.map u32T), .by [], .int .u64 0]))] [.ptr 0 0 []] = some ([.bx (.t (.st [.ar 8 1 (hS.map u32T), .by [], .int .u64 0]))], .t (.ba 32 (shaL []))) := sum_c [] (by simp)

theorem ct75b : CT [(73, ⟨[], treeG F73⟩), (75, ⟨[true], G75r⟩), (81, ⟨[true, false], G81⟩)] [0, 2, 3, 4, 5, 6, 7, 8, 9, 10, 12, 27, 37, 53, 59, 60, 61, 64, 65] [] := ⟨(.cons c73.g (.cons g75r (.cons g81 (.nil _))))⟩

noncomputable def G75n : GFun
  | [], [.t .nilp] => some ([], .t (.ba 32 (shaL [])))
  | _, _ => none

theorem g75n : GCon Try.prog 75 G75n := by
  refine gconc E_ok (rs := [.cell 2 23]) Try.func75 rfl Try.ntmps75 (by kernel_rfl) rfl (by decide) G75n (np := 1) ?_ ?_
  · intro HB xs h; unfold G75n; split <;> first | rfl | (simp at h; done)
  intro HB xs H r hG hwf hex
  unfold G75n at hG
  split at hG <;> try (cases hG; done)
  
  cases hG
  repeat refine St (And.intro @F73.eq_def <| And.intro (And.intro @gentry.eq_1 <| @gentry.eq_2) <| @sum_0) ct75b ?_
  exact AWP.ret (Fin trivial [] [])


theorem g75 : GCon Try.prog 75 G75 := by
  refine ⟨g75r.1, fun HB xs H' r hG => ?_⟩
  unfold G75 at hG
  split at hG
  · exact g75n.2 [] [.t .nilp] H' r hG
  · exact g75r.2 _ _ H' r hG
  · cases hG

end Go.Fw

end

section
/- Chapter 7: Sum, Double, Tagged. -/
namespace Go.Fw
open Go Go.Proofs
set_option linter.unusedVariables false
set_option linter.unusedSimpArgs false

theorem shaL_len (l : List UInt8) : (shaL l).length = 32 := by simp [shaL, finS, outS]

noncomputable def F66 : Fun
  | [.by b] => if b.length ≤ 1000000000 then some ([], .t (.ba 32 (shaL b))) else none
  | _ => none

theorem ct66 : CT [(73, ⟨[], treeG F73⟩), (74, ⟨[true, false], G74⟩), (75, ⟨[true], G75⟩)] [0, 2, 3] [] := ⟨(.cons c73.g (.cons g74 (.cons g75 (.nil _))))⟩

theorem msg_0 : msgB [] = .bx (.t (.st [.ar 8 1 (hS.map u32T), .by [], .int .u64 0])) := rfl

theorem c66 : ACon Try.prog 66 F66 := by
  refine aconc E_ok (rs := [.cell 2 23]) Try.func66 rfl Try.ntmps66 (by kernel_rfl) rfl (by decide) F66 (np := 1) ?_ ?_
  · intro ts h; unfold F66; split <;> first | rfl | (simp at h; done)
  intro ts H r hF hwf
  unfold F66 at hF
  split at hF <;> try (cases hF; done)
  rename_i b
  split at hF
  case isFalse => cases hF
  rename_i hb
  cases hF
  have hw : G74 [.bx (.t (.st [.ar 8 1 (hS.map u32T), .by [], .int .u64 0]))] [.ptr 0 0 [], .t (.by b)] = some ([msgB b], .tup []) := write_c [] b (by simp) hb
  have hs : G75 [msgB b] [.ptr 0 0 []] = some ([msgB b], .t (.ba 32 (shaL b))) := sum_c b (by omega)
  repeat refine St (And.intro @F73.eq_def <| hw) ct66 ?_
  repeat refine St hs ct66 ?_
  exact AWP.ret (Fin trivial [] [])

theorem shasum_c {b : List UInt8} (h : b.length ≤ 1000000000) : F66 [.by b] = some ([], .t (.ba 32 (shaL b))) := if_pos h

noncomputable def F57 : Fun
  | [.by b] => if b.length ≤ 1000000000 then some ([], .t (.ba 32 (shaL (shaL b)))) else none
  | _ => none

theorem ct57 : CT [(66, ⟨[false], treeG F66⟩)] [0, 2, 3] [] := ⟨(.cons c66.g (.nil _))⟩

theorem c57 : ACon Try.prog 57 F57 := by
  refine aconc E_ok (rs := [.cell 2 23]) Try.func57 rfl Try.ntmps57 (by kernel_rfl) rfl (by decide) F57 (np := 1) ?_ ?_
  · intro ts h; unfold F57; split <;> first | rfl | (simp at h; done)
  intro ts H r hF hwf
  unfold F57 at hF
  split at hF <;> try (cases hF; done)
  rename_i b
  split at hF
  case isFalse => cases hF
  rename_i hb
  cases hF
  have h1 := shasum_c hb
  have hl := shaL_len b
  have h2 : F66 [.by (shaL b)] = some ([], .t (.ba 32 (shaL (shaL b)))) := shasum_c (by omega)
  generalize shaL (shaL b) = y at *
  obtain ⟨x, hx⟩ : ∃ x, shaL b = x := ⟨_, rfl⟩
  rw [hx] at h1 hl h2
  have ht : x.take 32 = x := List.take_of_length_le (by omega)
  repeat refine St (And.intro h1 <| And.intro hl <| And.intro h2 <| ht) ct57 ?_
  exact AWP.ret (Fin trivial [] [])

/-- The hash of bytes behind a tag. -/
def tagL (tag b : List UInt8) : List UInt8 := shaL (shaL tag ++ shaL tag ++ b)

theorem write_c' {l b : List UInt8} (h : l.length ≤ 1000000000000) (hb : b.length ≤ 1000000000) :
    G74 [msgB l] [.ptr 0 0 [], .t (.by b)] = some ([msgB (l ++ b)], .tup []) := write_c l b h hb

end Go.Fw

end

section
/- tx: the forms. -/
namespace Go.Fw
open Go Go.Proofs
set_option linter.unusedVariables false
set_option linter.unusedSimpArgs false

theorem take32 (h : H32) : h.1.take 32 = h.1 := List.take_of_length_le (by rw [h.2]; omega)
theorem put32_t (b : List UInt8) (n : UInt32) (h : b.length ≤ 549755812000) : F67 [.by b, .int .u32 (n.toNat : Int)] = some ([.by (b ++ le 4 (n.toNat : Int))], .own 0) := put32_c _ h
theorem put64_t (b : List UInt8) (n : UInt64) (h : b.length ≤ 549755812000) : F69 [.by b, .int .u64 (n.toNat : Int)] = some ([.by (b ++ le 8 (n.toNat : Int))], .own 0) := put64_c _ h
theorem putsize_t (b : List UInt8) (n : Int) (h : b.length ≤ 549755812000) : F68 [.by b, .int .u64 n] = some ([.by (b ++ sizeB n)], .own 0) := if_pos h
theorem putbytes_t (b x : List UInt8) (h : b.length + x.length ≤ 549755800000) : F70 [.by b, .by x] = some ([.by (b ++ sizeB x.length ++ x)], .own 0) := if_pos h

noncomputable def F58 : Fun
  | [y] => match inv txT y with
    | some t => @ite _ (countsB t = true) (Classical.propDecidable _) (some ([.by (bareB t)], .own 0)) none
    | none => none
  | _ => none

theorem ct58 : CT [(67, ⟨[false, false], treeG F67⟩), (68, ⟨[false, false], treeG F68⟩), (69, ⟨[false, false], treeG F69⟩), (70, ⟨[false, false], treeG F70⟩)] [0, 1, 2, 3, 5, 7, 18, 19, 20, 21, 46, 47, 48, 49] [] := ⟨(.cons c67.g (.cons c68.g (.cons c69.g (.cons c70.g (.nil _)))))⟩

theorem scr_cat (l : List TOut) (k : Nat) (h : ∀ x ∈ l, x.scr.length ≤ 1000) (hl : l.length ≤ 20) : (cat tOutB (l.take k)).length ≤ 20340 := by
  have h1 := cat_take_le tOutB l k
  have h2 := cat_len tOutB 1017 l (fun x hx => by
    have b1 := h x hx
    have b2 := sizeB_len (x.scr.length : Int)
    simp only [tOutB, List.length_append, le_len]; omega)
  omega

set_option maxHeartbeats 2000000 in
theorem c58 : ACon Try.prog 58 F58 := by
  refine aconc E_ok (rs := [.tmp 2 35]) Try.func58 rfl Try.ntmps58 (by kernel_rfl) rfl (by decide) F58 (np := 1) ?_ ?_
  · intro ts h; unfold F58; split <;> first | rfl | (simp at h; done)
  intro ts H r hF hwf
  unfold F58 at hF
  split at hF <;> try (cases hF; done)
  split at hF <;> try (cases hF; done)
  rename_i t ht
  split at hF
  case isFalse => cases hF
  rename_i hc
  have hc := hc
  cases hF
  obtain rfl := inv_inv ht
  obtain ⟨c1, c2, c3, c4⟩ := countsB_ok hc
  obtain ⟨v, is, os, k⟩ := t
  dsimp only at c1 c2 c3 c4
  have hp := put32_t [] v (by simp)
  have hs := putsize_t (le 4 (v.toNat : Int)) is.length (by simp [le_len])
  simp only [List.nil_append] at hp
  have hw : IntKind.u64.wrap (is.length : Int) = (is.length : Int) := wrap_u64 (by omega) (by omega)
  have hw2 : IntKind.u64.wrap (os.length : Int) = (os.length : Int) := wrap_u64 (by omega) (by omega)
  have hsl := sizeB_len (is.length : Int)
  have hsl2 := sizeB_len (os.length : Int)
  repeat refine St (And.intro @txT.eq_def <| And.intro hp <| And.intro hs <| hw) ct58 ?_
  refine AWP.loop (G := { i : Nat // i ≤ is.length }) (fun i => ⟨[(1, .ptr 0 0 []), (3, .own 1), (18, .t (.sq 35 (is.map inT))), (19, .t (.int .i64 (is.length : Int))), (20, .t (.int .i64 (i.1 : Int)))], [.bx (.t (txT ⟨v, is, os, k⟩)), .by (le 4 (v.toNat : Int) ++ sizeB is.length ++ cat tInB (is.take i.1))]⟩) (fun i => is.length - i.1) ⟨0, by omega⟩ (Wt (And.intro @txT.eq_def <| And.intro @cat_nil <| @List.take_zero.{0}) [1, 3, 18, 19, 20] [0, 2]) ?_
  intro ⟨i, hi⟩
  dsimp only
  have hcl := cat_in_len (is.take i)
  have hil : (is.take i).length = i := by simp; omega
  have h4 := le_len 4 (v.toNat : Int)
  by_cases hlt : (i : Int) < (is.length : Int)
  · have hlt' : i < is.length := by omega
    have hget := in_getD is i hlt'
    have hcat := cat_take tInB dIn is i hlt'
    generalize is.getD i dIn = x at *
    have hbl : (le 4 (v.toNat : Int) ++ sizeB is.length ++ cat tInB (is.take i)).length ≤ 2000 := by simp only [List.length_append]; omega
    have p1 := put32_t (le 4 (v.toNat : Int) ++ sizeB is.length ++ cat tInB (is.take i) ++ x.prev.1) x.idx (by rw [List.length_append, x.prev.2]; omega)
    have p2 := put32_t (le 4 (v.toNat : Int) ++ sizeB is.length ++ cat tInB (is.take i) ++ x.prev.1 ++ le 4 (x.idx.toNat : Int)) x.seq (by rw [List.length_append, List.length_append, x.prev.2, le_len]; omega)
    have h32 := x.prev.2
    have htk := take32 x.prev
    have hin : tInB x = x.prev.1 ++ le 4 (x.idx.toNat : Int) ++ le 4 (x.seq.toNat : Int) := rfl
    repeat refine St (And.intro hlt <| And.intro hlt' <| And.intro hget <| And.intro @inT.eq_def <| And.intro @refT.eq_def <| And.intro @txT.eq_def <| And.intro h32 <| And.intro htk <| And.intro hbl <| And.intro p1 <| p2) ct58 ?_
    exact ⟨⟨i + 1, by omega⟩, (Wt (And.intro @txT.eq_def <| And.intro hcat <| And.intro hin <| @List.append_assoc.{0}) [1, 3, 18, 19, 20] [0, 5]), by simp only; omega⟩
  obtain rfl : i = is.length := by omega
  rw [List.take_length]
  rw [List.take_length] at hcl
  obtain ⟨A, hA⟩ : ∃ A, le 4 (v.toNat : Int) ++ sizeB is.length ++ cat tInB is = A := ⟨_, rfl⟩
  have hAl : A.length ≤ 2000 := by rw [← hA]; simp only [List.length_append]; omega
  rw [hA]
  have hps := putsize_t A os.length (by omega)
  repeat refine St (And.intro hlt <| And.intro @txT.eq_def <| And.intro hps <| hw2) ct58 ?_
  refine AWP.loop (G := { i : Nat // i ≤ os.length }) (fun i => ⟨[(1, .ptr 0 0 []), (3, .own 1), (46, .t (.sq 2 (os.map outT))), (47, .t (.int .i64 (os.length : Int))), (48, .t (.int .i64 (i.1 : Int)))], [.bx (.t (txT ⟨v, is, os, k⟩)), .by (A ++ sizeB os.length ++ cat tOutB (os.take i.1))]⟩) (fun i => os.length - i.1) ⟨0, by omega⟩ (Wt (And.intro @txT.eq_def <| And.intro @cat_nil <| @List.take_zero.{0}) [1, 3, 46, 47, 48] [0, 2]) ?_
  intro ⟨i, hi⟩
  dsimp only
  have hcl2 := scr_cat os i c3 c2
  by_cases hlt : (i : Int) < (os.length : Int)
  · have hlt' : i < os.length := by omega
    have hget := out_getD os i hlt'
    have hcat := cat_take tOutB dOut os i hlt'
    have hscr : (os.getD i dOut).scr.length ≤ 1000 := c3 _ (by simp [hlt'])
    generalize os.getD i dOut = x at *
    have p1 := put64_t (A ++ sizeB os.length ++ cat tOutB (os.take i)) x.val (by simp only [List.length_append]; omega)
    have p2 := putbytes_t (A ++ sizeB os.length ++ cat tOutB (os.take i) ++ le 8 (x.val.toNat : Int)) x.scr (by simp only [List.length_append, le_len]; omega)
    have hin : tOutB x = le 8 (x.val.toNat : Int) ++ (sizeB x.scr.length ++ x.scr) := rfl
    repeat refine St (And.intro hlt <| And.intro hlt' <| And.intro hget <| And.intro @outT.eq_def <| And.intro @txT.eq_def <| And.intro p1 <| p2) ct58 ?_
    exact ⟨⟨i + 1, by omega⟩, (Wt (And.intro @txT.eq_def <| And.intro hcat <| And.intro hin <| @List.append_assoc.{0}) [1, 3, 46, 47, 48] [0, 4]), by simp only; omega⟩
  obtain rfl : i = os.length := by omega
  rw [List.take_length]
  rw [List.take_length] at hcl2
  have p1 := put32_t (A ++ sizeB os.length ++ cat tOutB os) k (by simp only [List.length_append]; omega)
  have hb : bareB ⟨v, is, os, k⟩ = A ++ sizeB os.length ++ cat tOutB os ++ le 4 (k.toNat : Int) := by unfold bareB; rw [← hA]
  repeat refine St (And.intro hlt <| And.intro @txT.eq_def <| p1) ct58 ?_
  exact AWP.ret (Fin hb [] [2])

end Go.Fw

end

section
/- tx: the whole form, whether it fits, names, weights. -/
namespace Go.Fw
open Go Go.Proofs
set_option linter.unusedVariables false
set_option linter.unusedSimpArgs false

noncomputable def F56 : Fun
  | [y] => match inv txT y with
    | some t => @ite _ (countsB t = true) (Classical.propDecidable _) (some ([.by (wholeB t)], .own 0)) none
    | none => none
  | _ => none

theorem ct56 : CT [(58, ⟨[false], treeG F58⟩), (65, ⟨[false, false], treeG F65⟩)] [0, 1, 2, 3, 5, 9, 10, 11, 12] [] := ⟨(.cons c58.g (.cons c65.g (.nil _)))⟩

theorem bare_c {t : TTx} (h : countsB t = true) : F58 [txT t] = some ([.by (bareB t)], .own 0) := by
  simp only [F58, inv_of txT_inj]; exact if_pos h

set_option maxHeartbeats 1000000 in
theorem c56 : ACon Try.prog 56 F56 := by
  refine aconc E_ok (rs := [.tmp 2 35]) Try.func56 rfl Try.ntmps56 (by kernel_rfl) rfl (by decide) F56 (np := 1) ?_ ?_
  · intro ts h; unfold F56; split <;> first | rfl | (simp at h; done)
  intro ts H r hF hwf
  unfold F56 at hF
  split at hF <;> try (cases hF; done)
  split at hF <;> try (cases hF; done)
  rename_i t ht
  split at hF
  case isFalse => cases hF
  rename_i hc
  have hc := hc
  cases hF
  obtain rfl := inv_inv ht
  have hb := bare_c hc
  obtain ⟨hbl, hwl⟩ := counts_len hc
  have hcw : ∀ i, (cat witB (t.ins.take i)).length ≤ (wholeB t).length := fun i => by
    have := cat_take_le witB t.ins i
    unfold wholeB; rw [List.length_append]; omega
  have hwh : wholeB t = bareB t ++ cat witB t.ins := rfl
  obtain ⟨c1, c2, c3, c4⟩ := countsB_ok hc
  generalize bareB t = B at *
  generalize wholeB t = W0 at *
  obtain ⟨v, is, os, k⟩ := t
  dsimp only at c1 c2 c3 c4 hcw hwh
  have hyu : txT ⟨v, is, os, k⟩ = .st [.int .u32 (v.toNat : Int), .sq 35 (is.map inT), .sq 2 (os.map outT), .int .u32 (k.toNat : Int)] := rfl
  rw [hyu] at hb
  rw [hyu]
  repeat refine St hb ct56 ?_
  refine AWP.loop (G := { i : Nat // i ≤ is.length }) (fun i => ⟨[(3, .own 0), (9, .t (.sq 35 (is.map inT))), (10, .t (.int .i64 (is.length : Int))), (11, .t (.int .i64 (i.1 : Int)))], [.by (B ++ cat witB (is.take i.1))]⟩) (fun i => is.length - i.1) ⟨0, by omega⟩ (Wt (And.intro @cat_nil <| @List.take_zero.{0}) [3, 9, 10, 11] [1]) ?_
  intro ⟨i, hi⟩
  dsimp only
  have hci := hcw i
  by_cases hlt : (i : Int) < (is.length : Int)
  · have hlt' : i < is.length := by omega
    have hget := in_getD is i hlt'
    have hcat := cat_take witB dIn is i hlt'
    have hwx := c4 (is.getD i dIn) (by simp [hlt'])
    generalize is.getD i dIn = x at *
    have hfx := flat_le 1000 x.wit hwx.2
    have hfx2 : (flat x.wit).length ≤ 30 * 1009 := Nat.le_trans hfx (Nat.mul_le_mul_right _ hwx.1)
    have p1 := putlist_c (b := B ++ cat witB (is.take i)) (l := x.wit) (by simp only [List.length_append]; omega)
    have hin : witB x = sizeB x.wit.length ++ flat x.wit := rfl
    repeat refine St (And.intro hlt <| And.intro hlt' <| And.intro hget <| And.intro @inT.eq_def <| And.intro @refT.eq_def <| p1) ct56 ?_
    exact ⟨⟨i + 1, by omega⟩, (Wt (And.intro hcat <| And.intro hin <| @List.append_assoc.{0}) [3, 9, 10, 11] [2]), by simp only; omega⟩
  obtain rfl : i = is.length := by omega
  rw [List.take_length]
  repeat refine St hlt ct56 ?_
  exact AWP.ret (Fin hwh [] [0])

theorem whole_c {t : TTx} (h : countsB t = true) : F56 [txT t] = some ([.by (wholeB t)], .own 0) := by
  simp only [F56, inv_of txT_inj]; exact if_pos h

def F63 : Fun
  | [.by b] => some ([], .t (.bool (longB b)))
  | _ => none

theorem ct63 : CT [] [0, 2] [] := ⟨GClOk.nil _⟩

theorem c63 : ACon Try.prog 63 F63 := by
  refine aconc E_ok (rs := [.tmp 2 4]) Try.func63 rfl Try.ntmps63 (by kernel_rfl) rfl (by decide) F63 (np := 1) ?_ ?_
  · intro ts h; unfold F63; split <;> first | rfl | (simp at h; done)
  intro ts H r hF hwf
  unfold F63 at hF
  split at hF <;> try (cases hF; done)
  rename_i b
  cases hF
  have h : longB b = decide (1000 < (b.length : Int)) := rfl
  repeat refine St trivial ct63 ?_
  exact AWP.ret (Fin h [] [])

theorem long_c (b : List UInt8) : F63 [.by b] = some ([], .t (.bool (longB b))) := rfl

def F72 : Fun
  | [.sq 1 xs, .fn f] => match asBys xs with
    | some l => if f = 63 then some ([], .t (.int .i64 (fstI longB l 0))) else none
    | none => none
  | _ => none

theorem ct72 : CT [(63, ⟨[false], treeG F63⟩)] [0, 1, 4, 5, 7, 8, 9, 16] [] := ⟨(.cons c63.g (.nil _))⟩

theorem c72 : ACon Try.prog 72 F72 := by
  refine aconc E_ok (rs := [.tmp 4 3]) Try.func72 rfl Try.ntmps72 (by kernel_rfl) rfl (by decide) F72 (np := 2) ?_ ?_
  · intro ts h; unfold F72; split <;> first | rfl | (simp at h; done)
  intro ts H r hF hwf
  unfold F72 at hF
  split at hF <;> try (cases hF; done)
  split at hF <;> try (cases hF; done)
  rename_i l hl
  split at hF
  case isFalse => cases hF
  rename_i hc
  have hf := hc
  cases hF
  obtain rfl := asBys_inv hl
  subst hf
  obtain ⟨R, hR⟩ : ∃ R, fstI longB l 0 = R := ⟨_, rfl⟩
  rw [hR]
  have hg : l.length ≤ maxLen := wf_rows (hwf (.sq 1 (l.map .by)) (by simp))
  unfold maxLen at hg
  repeat refine St trivial ct72 ?_
  refine AWP.loop (G := { i : Nat // i ≤ l.length ∧ fstI longB (l.drop i) i = R }) (fun i => ⟨[(0, .t (.sq 1 (l.map .by))), (1, .t (.fn 63)), (7, .t (.int .i64 (l.length : Int))), (8, .t (.int .i64 (i.1 : Int)))], []⟩) (fun i => l.length - i.1) ⟨0, by omega, by simpa using hR⟩ (Wt trivial [0, 1, 7, 8] []) ?_
  intro ⟨i, hi, hRi⟩
  dsimp only
  by_cases hlt : (i : Int) < (l.length : Int)
  · have hlt' : i < l.length := by omega
    have hget := map_getD l i hlt'
    have hl1 := long_c (l.getD i [])
    by_cases hb : longB (l.getD i []) = true
    · rw [fstI_yes longB [] l i hlt' hb] at hRi
      rw [hb] at hl1
      repeat refine St (And.intro hlt <| And.intro hlt' <| And.intro hget <| hl1) ct72 ?_
      exact AWP.ret (Fin hRi [] [])
    · have hb' : longB (l.getD i []) = false := by simpa using hb
      rw [fstI_no longB [] l i hlt' hb'] at hRi
      rw [hb'] at hl1
      repeat refine St (And.intro hlt <| And.intro hlt' <| And.intro hget <| hl1) ct72 ?_
      exact ⟨⟨i + 1, by omega, hRi⟩, (Wt trivial [0, 1, 7, 8] []), by simp only; omega⟩
  obtain rfl : i = l.length := by omega
  rw [fstI_end] at hRi
  repeat refine St hlt ct72 ?_
  exact AWP.ret (Fin hRi [] [])

def F64 : Fun
  | [.sq 1 xs, .fn f] => match asBys xs with
    | some l => if f = 63 then some ([], .t (.bool (l.any longB))) else none
    | none => none
  | _ => none

theorem ct64 : CT [(72, ⟨[false, false], treeG F72⟩)] [0, 1, 4] [] := ⟨(.cons c72.g (.nil _))⟩

theorem c64 : ACon Try.prog 64 F64 := by
  refine aconc E_ok (rs := [.tmp 4 4]) Try.func64 rfl Try.ntmps64 (by kernel_rfl) rfl (by decide) F64 (np := 2) ?_ ?_
  · intro ts h; unfold F64; split <;> first | rfl | (simp at h; done)
  intro ts H r hF hwf
  unfold F64 at hF
  split at hF <;> try (cases hF; done)
  split at hF <;> try (cases hF; done)
  rename_i l hl
  split at hF
  case isFalse => cases hF
  rename_i hc
  have hf := hc
  cases hF
  obtain rfl := asBys_inv hl
  subst hf
  have h1 : F72 [.sq 1 (l.map .by), .fn 63] = some ([], .t (.int .i64 (fstI longB l 0))) := by
    simp only [F72, asBys_map]; first | exact if_pos rfl | exact if_pos trivial
  have h2 := fstI_any longB l 0
  repeat refine St h1 ct64 ?_
  exact AWP.ret (Fin h2 [] [])

theorem contains_c (l : List (List UInt8)) : F64 [.sq 1 (l.map .by), .fn 63] = some ([], .t (.bool (l.any longB))) := by
  simp only [F64, asBys_map]; first | exact if_pos rfl | exact if_pos trivial

noncomputable def F55 : Fun
  | [y] => match inv txT y with
    | some t => some ([], .t (.bool (countsB t)))
    | none => none
  | _ => none

theorem ct55 : CT [(63, ⟨[false], treeG F63⟩), (64, ⟨[false, false], treeG F64⟩)] [0, 1, 2, 4, 6, 16, 18, 19, 20, 21, 26, 29, 30, 31, 32, 43] [] := ⟨(.cons c63.g (.cons c64.g (.nil _)))⟩

set_option maxHeartbeats 1000000 in
theorem c55 : ACon Try.prog 55 F55 := by
  refine aconc E_ok (rs := [.tmp 2 4]) Try.func55 rfl Try.ntmps55 (by kernel_rfl) rfl (by decide) F55 (np := 1) ?_ ?_
  · intro ts h; unfold F55; split <;> first | rfl | (simp at h; done)
  intro ts H r hF hwf
  unfold F55 at hF
  split at hF <;> try (cases hF; done)
  split at hF <;> try (cases hF; done)
  rename_i t ht
  cases hF
  obtain rfl := inv_inv ht
  have hcb := countsB_eq t
  obtain ⟨c, hc⟩ : ∃ c, countsB t = c := ⟨_, rfl⟩
  rw [hc] at hcb
  rw [hc]
  obtain ⟨v, is, os, k⟩ := t
  dsimp only at hcb
  have hyu : txT ⟨v, is, os, k⟩ = .st [.int .u32 (v.toNat : Int), .sq 35 (is.map inT), .sq 2 (os.map outT), .int .u32 (k.toNat : Int)] := rfl
  rw [hyu]
  by_cases h1 : 20 < (is.length : Int)
  · have e : c = false := by rw [hcb]; have : ¬ is.length ≤ 20 := by omega
                             simp [this]
    subst e
    repeat refine St h1 ct55 ?_
    exact AWP.ret (Fin trivial [] [])
  by_cases h2 : 20 < (os.length : Int)
  · have e : c = false := by rw [hcb]; have : ¬ os.length ≤ 20 := by omega
                             simp [this]
    subst e
    repeat refine St (And.intro h1 <| h2) ct55 ?_
    exact AWP.ret (Fin trivial [] [])
  have hcb' : c = (os.all scrOk && is.all witOk) := by
    rw [hcb]
    have e1 : is.length ≤ 20 := by omega
    have e2 : os.length ≤ 20 := by omega
    simp [e1, e2]
  repeat refine St (And.intro h1 <| h2) ct55 ?_
  refine AWP.loop (G := { i : Nat // i ≤ os.length ∧ (os.take i).all scrOk = true }) (fun i => ⟨[(1, .ptr 0 0 []), (18, .t (.sq 2 (os.map outT))), (19, .t (.int .i64 (os.length : Int))), (20, .t (.int .i64 (i.1 : Int)))], [.bx (.t (.st [.int .u32 (v.toNat : Int), .sq 35 (is.map inT), .sq 2 (os.map outT), .int .u32 (k.toNat : Int)]))]⟩) (fun i => os.length - i.1) ⟨0, by omega, rfl⟩ (Wt trivial [1, 18, 19, 20] [0]) ?_
  intro ⟨i, hi, ha⟩
  dsimp only
  by_cases hlt : (i : Int) < (os.length : Int)
  · have hlt' : i < os.length := by omega
    have hget := out_getD os i hlt'
    have hal := all_take scrOk dOut os i hlt'
    have hbad := all_getD scrOk dOut os i hlt'
    have hx := scrOk_long (os.getD i dOut)
    generalize os.getD i dOut = x at *
    have hl1 := long_c x.scr
    by_cases hb : longB x.scr = true
    · rw [hb] at hl1 hx
      have e : c = false := by rw [hcb', hbad hx]; rfl
      subst e
      repeat refine St (And.intro hlt <| And.intro hlt' <| And.intro hget <| And.intro @outT.eq_def <| hl1) ct55 ?_
      exact AWP.ret (Fin trivial [] [])
    · have hb' : longB x.scr = false := by simpa using hb
      rw [hb'] at hl1 hx
      rw [ha, hx] at hal
      repeat refine St (And.intro hlt <| And.intro hlt' <| And.intro hget <| And.intro @outT.eq_def <| hl1) ct55 ?_
      exact ⟨⟨i + 1, by omega, by rw [hal]; rfl⟩, (Wt trivial [1, 18, 19, 20] [0]), by simp only; omega⟩
  obtain rfl : i = os.length := by omega
  rw [List.take_length] at ha
  rw [ha, Bool.true_and] at hcb'
  repeat refine St hlt ct55 ?_
  refine AWP.loop (G := { i : Nat // i ≤ is.length ∧ (is.take i).all witOk = true }) (fun i => ⟨[(29, .t (.sq 35 (is.map inT))), (30, .t (.int .i64 (is.length : Int))), (31, .t (.int .i64 (i.1 : Int)))], []⟩) (fun i => is.length - i.1) ⟨0, by omega, rfl⟩ (Wt trivial [29, 30, 31] []) ?_
  intro ⟨i, hi, hai⟩
  dsimp only
  by_cases hlti : (i : Int) < (is.length : Int)
  · have hlt' : i < is.length := by omega
    have hget := in_getD is i hlt'
    have hal := all_take witOk dIn is i hlt'
    have hbad := all_getD witOk dIn is i hlt'
    have hx := witOk_long (is.getD i dIn)
    generalize is.getD i dIn = x at *
    have hl1 := contains_c x.wit
    by_cases h30 : 30 < (x.wit.length : Int)
    · have e : c = false := by rw [hcb', hbad (by rw [hx]; simp [h30])]
      subst e
      repeat refine St (And.intro hlti <| And.intro hlt' <| And.intro hget <| And.intro @inT.eq_def <| And.intro @refT.eq_def <| h30) ct55 ?_
      exact AWP.ret (Fin trivial [] [])
    have h30' : decide (30 < (x.wit.length : Int)) = false := decide_eq_false h30
    by_cases hb : x.wit.any longB = true
    · rw [hb] at hl1 hx
      have e : c = false := by rw [hcb', hbad (by rw [hx]; simp)]
      subst e
      repeat refine St (And.intro hlti <| And.intro hlt' <| And.intro hget <| And.intro @inT.eq_def <| And.intro @refT.eq_def <| And.intro h30 <| hl1) ct55 ?_
      exact AWP.ret (Fin trivial [] [])
    · have hb' : x.wit.any longB = false := by simpa using hb
      rw [hb'] at hl1 hx
      rw [hai, hx, h30'] at hal
      repeat refine St (And.intro hlti <| And.intro hlt' <| And.intro hget <| And.intro @inT.eq_def <| And.intro @refT.eq_def <| And.intro h30 <| hl1) ct55 ?_
      exact ⟨⟨i + 1, by omega, by rw [hal]; rfl⟩, (Wt trivial [29, 30, 31] []), by simp only; omega⟩
  obtain rfl : i = is.length := by omega
  rw [List.take_length] at hai
  rw [hai] at hcb'
  subst hcb'
  repeat refine St hlti ct55 ?_
  exact AWP.ret (Fin trivial [] [])

theorem counts_c (t : TTx) : F55 [txT t] = some ([], .t (.bool (countsB t))) := by
  simp only [F55, inv_of txT_inj]

noncomputable def F44 : Fun
  | [y] => match inv txT y with
    | some t => some ([], .t (.int .i64 (chkE t)))
    | none => none
  | _ => none

theorem ct44 : CT [(55, ⟨[false], treeG F55⟩), (56, ⟨[false], treeG F56⟩)] [0, 1, 2, 11] [] := ⟨(.cons c55.g (.cons c56.g (.nil _)))⟩

theorem chk_cases (t : TTx) : (countsB t = false ∧ chkE t = 4) ∨ (countsB t = true ∧ 12000 < (wholeB t).length ∧ chkE t = 4) ∨ (countsB t = true ∧ (wholeB t).length ≤ 12000 ∧ chkE t = 0) := by
  unfold chkE fitsB
  cases countsB t
  · exact .inl ⟨rfl, rfl⟩
  · rcases Nat.lt_or_ge 12000 (wholeB t).length with h | h
    · refine .inr (.inl ⟨rfl, h, ?_⟩)
      have : ¬ (wholeB t).length ≤ 12000 := by omega
      simp [this]
    · refine .inr (.inr ⟨rfl, h, ?_⟩)
      have : (wholeB t).length ≤ 12000 := by omega
      simp [this]

theorem txT_st (t : TTx) : txT t = .st [.int .u32 (t.ver.toNat : Int), .sq 35 (t.ins.map inT), .sq 2 (t.outs.map outT), .int .u32 (t.lock.toNat : Int)] := rfl
theorem c44 : ACon Try.prog 44 F44 := by
  refine aconc E_ok (rs := [.tmp 2 30]) Try.func44 rfl Try.ntmps44 (by kernel_rfl) rfl (by decide) F44 (np := 1) ?_ ?_
  · intro ts h; unfold F44; split <;> first | rfl | (simp at h; done)
  intro ts H r hF hwf
  unfold F44 at hF
  split at hF <;> try (cases hF; done)
  split at hF <;> try (cases hF; done)
  rename_i t ht
  cases hF
  obtain rfl := inv_inv ht
  have h1 := counts_c t
  rcases chk_cases t with ⟨e1, e2⟩ | ⟨e1, e2, e3⟩ | ⟨e1, e2, e3⟩
  · rw [e1] at h1
    rw [txT_st] at h1 ⊢
    repeat refine St h1 ct44 ?_
    exact AWP.ret (Fin e2 [] [])
  · have h2 := whole_c e1
    rw [e1] at h1
    rw [txT_st] at h1 h2 ⊢
    generalize wholeB t = w0 at *
    have h3 : 12000 < (w0.length : Int) := by omega
    repeat refine St (And.intro h1 <| And.intro h2 <| h3) ct44 ?_
    exact AWP.ret (Fin e3 [] [])
  · have h2 := whole_c e1
    rw [e1] at h1
    rw [txT_st] at h1 h2 ⊢
    generalize wholeB t = w0 at *
    have h3 : ¬ 12000 < (w0.length : Int) := by omega
    repeat refine St (And.intro h1 <| And.intro h2 <| h3) ct44 ?_
    exact AWP.ret (Fin e3 [] [])

theorem check_c (t : TTx) : F44 [txT t] = some ([], .t (.int .i64 (chkE t))) := by
  simp only [F44, inv_of txT_inj]

theorem chk_two (t : TTx) : (chkE t = 0 ∧ countsB t = true ∧ (wholeB t).length ≤ 12000) ∨ (chkE t = 4 ∧ fitsB t = false) := by
  rcases chk_cases t with ⟨e1, e2⟩ | ⟨e1, e2, e3⟩ | ⟨e1, e2, e3⟩
  · exact .inr ⟨e2, by simp [fitsB, e1]⟩
  · exact .inr ⟨e3, by have : ¬ (wholeB t).length ≤ 12000 := by omega
                       simp [fitsB, this]⟩
  · exact .inl ⟨e3, e1, e2⟩

/-- What a form is where it fits. -/
def barO (t : TTx) : List UInt8 := if fitsB t = true then bareB t else []
def whoO (t : TTx) : List UInt8 := if fitsB t = true then wholeB t else []
theorem fit_of {t : TTx} (h1 : countsB t = true) (h2 : (wholeB t).length ≤ 12000) : fitsB t = true := by simp [fitsB, h1, h2]

theorem dbl_c {b : List UInt8} (h : b.length ≤ 1000000000) : F57 [.by b] = some ([], .t (.ba 32 (shaL (shaL b)))) := if_pos h
/-- The names of forms. -/
noncomputable def namO (t : TTx) : List UInt8 := if fitsB t = true then shaL (shaL (bareB t)) else zby 32
noncomputable def seaO (t : TTx) : List UInt8 := if fitsB t = true then shaL (shaL (wholeB t)) else zby 32
theorem namO_len (t : TTx) : (namO t).length = 32 := by unfold namO; split; exact shaL_len _; rfl
theorem seaO_len (t : TTx) : (seaO t).length = 32 := by unfold seaO; split; exact shaL_len _; rfl

noncomputable def F46 : Fun
  | [y] => match inv txT y with
    | some t => some ([], .t (.ba 32 (namO t)))
    | none => none
  | _ => none

theorem ct46 : CT [(44, ⟨[false], treeG F44⟩), (57, ⟨[false], treeG F57⟩), (58, ⟨[false], treeG F58⟩)] [0, 1, 2, 5] [] := ⟨(.cons c44.g (.cons c57.g (.cons c58.g (.nil _))))⟩

theorem c46 : ACon Try.prog 46 F46 := by
  refine aconc E_ok (rs := [.cell 2 23]) Try.func46 rfl Try.ntmps46 (by kernel_rfl) rfl (by decide) F46 (np := 1) ?_ ?_
  · intro ts h; unfold F46; split <;> first | rfl | (simp at h; done)
  intro ts H r hF hwf
  unfold F46 at hF
  split at hF <;> try (cases hF; done)
  split at hF <;> try (cases hF; done)
  rename_i t ht
  cases hF
  obtain rfl := inv_inv ht
  have h1 := check_c t
  rcases chk_two t with ⟨e1, e2, e3⟩ | ⟨e1, e2⟩
  · have h2 := bare_c e2
    have hl := counts_len e2
    have e4 : namO t = shaL (shaL (bareB t)) := if_pos (fit_of e2 e3)
    have h3 := dbl_c (b := bareB t) (by omega)
    rw [e1] at h1
    rw [e4]
    rw [txT_st] at h1 h2 ⊢
    generalize shaL (shaL (bareB t)) = x at *
    generalize bareB t = w0 at *
    repeat refine St (And.intro h1 <| And.intro h2 <| h3) ct46 ?_
    exact AWP.ret (Fin trivial [] [])
  · have e4 : namO t = zby 32 := if_neg (by simp [e2])
    rw [e1] at h1
    rw [e4]
    rw [txT_st] at h1 ⊢
    repeat refine St h1 ct46 ?_
    exact AWP.ret (Fin trivial [] [])


end Go.Fw

end

section
/- view: what a transaction takes; coins taken. -/
namespace Go.Fw
open Go Go.Proofs
set_option linter.unusedVariables false
set_option linter.unusedSimpArgs false

noncomputable def F34 : Fun
  | [x, .bool first] => match inv txT x with
    | some t => @ite _ ((t.ins.length ≤ 1000000)) (Classical.propDecidable _) ((some ([], .t (refsT (insR t first))))) none
    | none => none
  | _ => none

theorem ct34 : CT [] [0, 1, 2, 4, 5, 7, 8, 11, 12, 13, 14] [] := ⟨GClOk.nil _⟩

set_option maxHeartbeats 1000000 in
theorem c34 : ACon Try.prog 34 F34 := by
  refine aconc E_ok (rs := [.tmp 4 81]) Try.func34 rfl Try.ntmps34 (by kernel_rfl) rfl (by decide) F34 (np := 2) ?_ ?_
  · intro ts h; unfold F34; split <;> first | rfl | (simp at h; done)
  intro ts H r hF hwf
  unfold F34 at hF
  split at hF <;> try (cases hF; done)
  rename_i x first
  split at hF <;> try (cases hF; done)
  rename_i t ht
  split at hF
  case isFalse => cases hF
  rename_i hlen
  cases hF
  obtain rfl := inv_inv ht
  have hml : (t.ins.map inT).length = t.ins.length := List.length_map ..
  simp only [txT_st, refsT, insR]
  cases first with
  | true =>
    repeat refine St trivial ct34 ?_
    exact AWP.ret (Fin (@List.map_nil.{0, 0}) [] [])
  | false =>
    repeat refine St hml ct34 ?_
    refine AWP.weak (Wo 5 (.sq 33 [])) ?_
    have hin : ∀ i, i < t.ins.length → (t.ins.map inT).getD i default = .st [.st [.ba 32 (t.ins.getD i dIn).prev.1, .int .u32 ((t.ins.getD i dIn).idx.toNat : Int)], .int .u32 ((t.ins.getD i dIn).seq.toNat : Int), .sq 1 ((t.ins.getD i dIn).wit.map .by)] := fun i hi => by simp [hi, inT, refT]
    refine AWP.loop (G := { i : Nat // i ≤ t.ins.length }) (fun i => ⟨[(2, .ptr 0 0 []), (5, .own 1), (11, .t (.sq 35 (t.ins.map inT))), (12, .t (.int .i64 (t.ins.length : Int))), (13, .t (.int .i64 (i.1 : Int)))], [.bx (.t (.st [.int .u32 (t.ver.toNat : Int), .sq 35 (t.ins.map inT), .sq 2 (t.outs.map outT), .int .u32 (t.lock.toNat : Int)])), .sq 33 (((t.ins.take i.1).map fun x => (⟨x.prev, x.idx⟩ : TRef)).map rfT)]⟩) (fun i => t.ins.length - i.1) ⟨0, Nat.zero_le _⟩ (Wt (And.intro @List.take_zero.{0} <| @List.map_nil.{0, 0}) [2, 5, 11, 12, 13] [0, 1]) ?_
    rintro ⟨i, hi⟩
    dsimp only
    by_cases hlt : i < t.ins.length
    · have hlt2 : (i : Int) < (t.ins.length : Int) := by omega
      have hw1 : IntKind.i64.wrap ((i : Int) + 1) = ((i + 1 : Nat) : Int) := by rw [wrap_i64 (by omega) (by omega)]; omega
      have hg := hin i hlt
      have ht : ((t.ins.take (i + 1)).map fun x => (⟨x.prev, x.idx⟩ : TRef)).map rfT = ((t.ins.take i).map fun x => (⟨x.prev, x.idx⟩ : TRef)).map rfT ++ [.st [.ba 32 (t.ins.getD i dIn).prev.1, .int .u32 ((t.ins.getD i dIn).idx.toNat : Int)]] := by
        rw [List.take_add_one, List.getElem?_eq_getElem hlt, List.map_append, List.map_append]
        simp [List.getD_eq_getElem?_getD, hlt, rfT]
      have htl : (((t.ins.take i).map fun x => (⟨x.prev, x.idx⟩ : TRef)).map rfT).length ≤ 1000000 := by rw [List.length_map, List.length_map, List.length_take]; omega
      generalize t.ins.getD i dIn = y at *
      generalize hX : ((t.ins.take i).map fun x => (⟨x.prev, x.idx⟩ : TRef)).map rfT = X at *
      repeat refine St (And.intro hlt <| And.intro hlt2 <| And.intro hml <| And.intro hw1 <| And.intro hg <| htl) ct34 ?_
      exact ⟨⟨i + 1, by omega⟩, (Wt ht [2, 5, 11, 12, 13] [0, 4]), by simp only; omega⟩
    obtain rfl : i = t.ins.length := by omega
    have hlt2 : ¬ (t.ins.length : Int) < (t.ins.length : Int) := by omega
    rw [List.take_length]
    have hz : (if false = true then ([] : List TRef) else t.ins.map fun x => (⟨x.prev, x.idx⟩ : TRef)) = t.ins.map fun x => (⟨x.prev, x.idx⟩ : TRef) := if_neg (by simp)
    rw [hz]
    generalize (t.ins.map fun x => (⟨x.prev, x.idx⟩ : TRef)).map rfT = X at *
    repeat refine St hlt2 ct34 ?_
    exact AWP.ret (Fin trivial [1] [])
theorem inputs_c (t : TTx) (first : Bool) (h : t.ins.length ≤ 1000000) : F34 [.st [.int .u32 (t.ver.toNat : Int), .sq 35 (t.ins.map inT), .sq 2 (t.outs.map outT), .int .u32 (t.lock.toNat : Int)], .bool first] = some ([], .t (refsT (insR t first))) := by
  show F34 [txT t, .bool first] = _
  simp only [F34, inv_of txT_inj]
  exact if_pos h

noncomputable def G45 : GFun
  | HB, [.ptr 0 0 [], .t y] => match inv vwH HB, inv refsT y with
    | some l, some rs => @ite _ ((l.length ≤ 1000000 ∧ lowL l = true ∧ rs.length ≤ 1000000)) (Classical.propDecidable _) ((some (vwN (takeV l rs []).1, .tup [.t (.sq 37 ((takeV l rs []).2.1.map coinT)), .t (.int .i64 (takeV l rs []).2.2)]))) none
    | _, _ => none
  | _, _ => none

theorem ct45 : CT [(14, ⟨[true, false], G14⟩)] [0, 1, 4, 5, 6, 8, 9, 10, 11, 12, 13, 14, 24] [] := ⟨(.cons g14 (.nil _))⟩

set_option maxHeartbeats 2000000 in
theorem g45 : GCon Try.prog 45 G45 := by
  refine gconc E_ok (rs := [.tmp 4 22, .tmp 5 30]) Try.func45 rfl Try.ntmps45 (by kernel_rfl) rfl (by decide) G45 (np := 2) ?_ ?_
  · intro HB xs h; unfold G45; split <;> first | rfl | (simp at h; done)
  intro HB xs H r hG hwf hex
  unfold G45 at hG
  split at hG <;> try (cases hG; done)
  split at hG <;> try (cases hG; done)
  rename_i l rs hl hr
  split at hG
  case isFalse => cases hG
  rename_i hcc
  cases hG
  obtain ⟨hlen, hlow, hrl⟩ := hcc
  obtain rfl := inv_inv hl
  obtain rfl := inv_inv hr
  have hml : (rs.map rfT).length = rs.length := List.length_map ..
  obtain ⟨R, hR⟩ : ∃ R, takeV l rs [] = R := ⟨_, rfl⟩
  rw [hR]
  simp only [vwH, refsT]
  repeat refine St (And.intro (And.intro @gentry.eq_1 <| @gentry.eq_2) <| hml) ct45 ?_
  refine AWP.weak (Wo 6 (.sq 37 [])) ?_
  refine AWP.weak (Weak.moveBx (v' := _) 0 1 [0] 0 _ rfl rfl rfl (by decide) (by simp only [W, eqq, ↓reduceIte, Nat.reduceEqDiff, Nat.reduceLT, Nat.reduceLeDiff, Nat.reduceAdd, Nat.reduceMul, Nat.reduceSub, Nat.reduceBEq, Int.reduceLE, Int.reduceLT, Int.reduceNeg, Int.reduceToNat, Int.reduceEq, Int.reduceBEq, Int.reduceBNe, Nat.reduceBNe, bne_self_eq_false, reduceCtorEq, gt_iff_lt, ge_iff_le]) (by simp only [W, eqq, ↓reduceIte, Nat.reduceEqDiff, Nat.reduceLT, Nat.reduceLeDiff, Nat.reduceAdd, Nat.reduceMul, Nat.reduceSub, Nat.reduceBEq, Int.reduceLE, Int.reduceLT, Int.reduceNeg, Int.reduceToNat, Int.reduceEq, Int.reduceBEq, Int.reduceBNe, Nat.reduceBNe, bne_self_eq_false, reduceCtorEq, gt_iff_lt, ge_iff_le]) (by simp only [W, eqq, ↓reduceIte, Nat.reduceEqDiff, Nat.reduceLT, Nat.reduceLeDiff, Nat.reduceAdd, Nat.reduceMul, Nat.reduceSub, Nat.reduceBEq, Int.reduceLE, Int.reduceLT, Int.reduceNeg, Int.reduceToNat, Int.reduceEq, Int.reduceBEq, Int.reduceBNe, Nat.reduceBNe, bne_self_eq_false, reduceCtorEq, gt_iff_lt, ge_iff_le]; rfl)) ?_
  refine AWP.loop (G := { x : Nat × List TCoin × List TCoin // x.1 ≤ rs.length ∧ x.2.1.length ≤ 1000000 ∧ lowL x.2.1 = true ∧ x.2.2.length ≤ x.1 ∧ takeV x.2.1 (rs.drop x.1) x.2.2 = R }) (fun x => ⟨[(0, .ptr 0 0 []), (6, .own 3), (11, .t (.sq 33 (rs.map rfT))), (12, .t (.int .i64 (rs.length : Int))), (13, .t (.int .i64 (x.1.1 : Int)))], [.bx (.st [.own 2]), .no, .sq 37 (x.1.2.1.map coinT), .sq 37 (x.1.2.2.map coinT)]⟩) (fun x => rs.length - x.1.1) ⟨⟨0, l, []⟩, Nat.zero_le _, hlen, hlow, Nat.le_refl _, hR⟩ (Wt (@List.map_nil.{0, 0}) [0, 6, 11, 12, 13] [0, 1, 3, 2]) ?_
  rintro ⟨⟨i, L, A⟩, hi, hL, hLl, hA, hT⟩
  dsimp only at hi hL hLl hA hT ⊢
  clear hlen hlow hR
  by_cases hlt : i < rs.length
  · have hlt2 : (i : Int) < (rs.length : Int) := by omega
    have hw1 : IntKind.i64.wrap ((i : Int) + 1) = ((i + 1 : Nat) : Int) := by rw [wrap_i64 (by omega) (by omega)]; omega
    have hg := ref_getD rs i hlt
    have hdr : rs.drop i = rs.getD i dRef :: rs.drop (i + 1) := by
      rw [List.drop_eq_getElem_cons hlt]
      simp [List.getD_eq_getElem?_getD, hlt]
    rw [hdr, takeV] at hT
    have hsp := spend_vc L (rs.getD i dRef) hL hLl
    obtain ⟨s1, s2, s3⟩ := spdV_ok hLl (rs.getD i dRef)
    simp only [rfT] at hg
    generalize rs.getD i dRef = r at *
    generalize spdV L r = S at *
    obtain ⟨L', c, e⟩ := S
    dsimp only at hT hsp s1 s2 s3
    simp only [vwN] at hsp
    by_cases he : e = 0
    · subst he
      rw [if_neg (by simp)] at hT
      have hal : (A.map coinT).length ≤ 1000000 := by rw [List.length_map]; omega
      have hap : (A ++ [c]).map coinT = A.map coinT ++ [.st [.st [.ba 32 c.r.h.1, .int .u32 (c.r.i.toNat : Int)], .st [.int .u64 (c.out.val.toNat : Int), .by c.out.scr], .int .u32 (c.ht.toNat : Int), .bool c.first]] := by rw [List.map_append]; rfl
      simp only [coinT_st c] at hsp
      have hd0 : ((0 : Int) != 0) = false := rfl
      generalize hX : A.map coinT = X at *
      repeat refine St (And.intro hlt <| And.intro hlt2 <| And.intro hml <| And.intro hw1 <| And.intro hg <| And.intro hsp <| And.intro hal <| hd0) ct45 ?_
      exact ⟨⟨⟨i + 1, L', A ++ [c]⟩, by show i + 1 ≤ rs.length; omega, by show L'.length ≤ 1000000; omega, s1, by show (A ++ [c]).length ≤ i + 1; simp; omega, hT⟩, (Wt hap [0, 6, 11, 12, 13] [0, 1, 5, 8]), by simp only; omega⟩
    · rw [if_pos he] at hT
      have he2 : (e != 0) = true := by simpa using he
      subst hT
      simp only [coinT_st c] at hsp
      dsimp only
      repeat refine St (And.intro hlt <| And.intro hlt2 <| And.intro hml <| And.intro hw1 <| And.intro hg <| And.intro hsp <| he2) ct45 ?_
      exact AWP.ret (Fin (And.intro @vwN.eq_def <| @List.map_nil.{0, 0}) [] [0, 1, 5])
  obtain rfl : i = rs.length := by omega
  have hlt2 : ¬ (rs.length : Int) < (rs.length : Int) := by omega
  rw [List.drop_length, takeV] at hT
  subst hT
  dsimp only
  repeat refine St hlt2 ct45 ?_
  exact AWP.ret (Fin @vwN.eq_def [3] [0, 1, 2])
theorem take_vc (l : List TCoin) (rs : List TRef) (h : l.length ≤ 1000000) (h2 : lowL l = true) (h3 : rs.length ≤ 1000000) : G45 [.bx (.st [.own 1]), .sq 37 (l.map coinT)] [.ptr 0 0 [], .t (refsT rs)] = some (vwN (takeV l rs []).1, .tup [.t (.sq 37 ((takeV l rs []).2.1.map coinT)), .t (.int .i64 (takeV l rs []).2.2)]) := by
  show G45 (vwH l) _ = _
  simp only [G45, inv_of vwH_inj, inv_of refsT_inj]
  exact if_pos ⟨h, h2, h3⟩

end Go.Fw

end
