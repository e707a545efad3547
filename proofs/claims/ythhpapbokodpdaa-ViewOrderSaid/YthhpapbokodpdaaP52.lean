/- The abstract machine, and the contracts of the code: part 52. -/
import Derived.Test.YthhpapbokodpdaaP51

section
/- view: coins loaded. -/
namespace Go.Fw
open Go Go.Proofs
set_option linter.unusedVariables false
set_option linter.unusedSimpArgs false

noncomputable def loadR (R : List TCoin × Int) : List Blk × AV := @ite _ (R.2 = 0) (Classical.propDecidable _) (vwH R.1, .tup [.ptr 0 0 [], .t (.int .i64 0)]) ([], .tup [.t .nilp, .t (.int .i64 R.2)])
noncomputable def F9 : Fun
  | [.sq 37 y] => match inv (List.map coinT) y with
    | some l => @ite _ ((l.length ≤ 900000 ∧ lowL l = true)) (Classical.propDecidable _) ((some (loadR (addsV [] l)))) none
    | none => none
  | _ => none

theorem ct9 : CT [(24, ⟨[true, false], G24⟩), (26, ⟨[], treeG F26⟩)] [0, 2, 3, 4, 6, 7, 9, 10, 11, 12, 19] [] := ⟨(.cons g24 (.cons c26.g (.nil _)))⟩

set_option maxHeartbeats 2000000 in
theorem c9 : ACon Try.prog 9 F9 := by
  refine aconc E_ok (rs := [.tmp 2 29, .tmp 3 30]) Try.func9 rfl Try.ntmps9 (by kernel_rfl) rfl (by decide) F9 (np := 1) ?_ ?_
  · intro ts h; unfold F9; split <;> first | rfl | (simp at h; done)
  intro ts H r hF hwf
  unfold F9 at hF
  split at hF <;> try (cases hF; done)
  split at hF <;> try (cases hF; done)
  rename_i l hl
  split at hF
  case isFalse => cases hF
  rename_i hcc
  obtain ⟨hlen, hlow⟩ := hcc
  obtain rfl := inv_inv hl
  have hml : (l.map coinT).length = l.length := List.length_map ..
  obtain ⟨R, hR⟩ : ∃ R, addsV [] l = R := ⟨_, rfl⟩
  rw [hR] at hF
  repeat refine St (And.intro @F26.eq_def <| And.intro @vwH.eq_def <| And.intro @List.map_nil.{0, 0} <| hml) ct9 ?_
  refine AWP.weak (Weak.moveBx (v' := _) 0 1 [0] 0 _ rfl rfl rfl (by decide) (by simp only [W, eqq, ↓reduceIte, Nat.reduceEqDiff, Nat.reduceLT, Nat.reduceLeDiff, Nat.reduceAdd, Nat.reduceMul, Nat.reduceSub, Nat.reduceBEq, Int.reduceLE, Int.reduceLT, Int.reduceNeg, Int.reduceToNat, Int.reduceEq, Int.reduceBEq, Int.reduceBNe, Nat.reduceBNe, bne_self_eq_false, reduceCtorEq, gt_iff_lt, ge_iff_le]) (by simp only [W, eqq, ↓reduceIte, Nat.reduceEqDiff, Nat.reduceLT, Nat.reduceLeDiff, Nat.reduceAdd, Nat.reduceMul, Nat.reduceSub, Nat.reduceBEq, Int.reduceLE, Int.reduceLT, Int.reduceNeg, Int.reduceToNat, Int.reduceEq, Int.reduceBEq, Int.reduceBNe, Nat.reduceBNe, bne_self_eq_false, reduceCtorEq, gt_iff_lt, ge_iff_le]) (by simp only [W, eqq, ↓reduceIte, Nat.reduceEqDiff, Nat.reduceLT, Nat.reduceLeDiff, Nat.reduceAdd, Nat.reduceMul, Nat.reduceSub, Nat.reduceBEq, Int.reduceLE, Int.reduceLT, Int.reduceNeg, Int.reduceToNat, Int.reduceEq, Int.reduceBEq, Int.reduceBNe, Nat.reduceBNe, bne_self_eq_false, reduceCtorEq, gt_iff_lt, ge_iff_le]; rfl)) ?_
  refine AWP.loop (G := { x : Nat × List TCoin // x.1 ≤ l.length ∧ x.2.length ≤ x.1 ∧ lowL x.2 = true ∧ addsV x.2 (l.drop x.1) = R }) (fun x => ⟨[(4, .ptr 0 0 []), (9, .t (.sq 37 (l.map coinT))), (10, .t (.int .i64 (l.length : Int))), (11, .t (.int .i64 (x.1.1 : Int)))], [.bx (.st [.own 2]), .no, .sq 37 (x.1.2.map coinT)]⟩) (fun x => l.length - x.1.1) ⟨⟨0, []⟩, Nat.zero_le _, Nat.le_refl _, rfl, hR⟩ (Wt (@List.map_nil.{0, 0}) [4, 9, 10, 11] [0, 1, 2]) ?_
  rintro ⟨⟨i, L⟩, hi, hL, hLl, hT⟩
  dsimp only at hi hL hLl hT ⊢
  clear hR
  by_cases hlt : i < l.length
  · have hlt2 : (i : Int) < (l.length : Int) := by omega
    have hw1 : IntKind.i64.wrap ((i : Int) + 1) = ((i + 1 : Nat) : Int) := by rw [wrap_i64 (by omega) (by omega)]; omega
    have hg := coin_getD l i hlt
    have hlw := lowL_get hlow hlt
    have hdr : l.drop i = l.getD i dCoin :: l.drop (i + 1) := by
      rw [List.drop_eq_getElem_cons hlt]
      simp [List.getD_eq_getElem?_getD, hlt]
    rw [hdr, addsV] at hT
    have had := add_c L (l.getD i dCoin) (by omega) hlw
    obtain ⟨a1, a2⟩ := addV_ok hLl hlw
    rw [coinT_st] at hg
    generalize l.getD i dCoin = c at *
    generalize addV L c = A at *
    obtain ⟨L', e⟩ := A
    dsimp only at hT had a1 a2
    simp only [vwN] at had
    by_cases he : e = 0
    · subst he
      rw [if_neg (by simp)] at hT
      have hd0 : ((0 : Int) != 0) = false := rfl
      repeat refine St (And.intro hlt <| And.intro hlt2 <| And.intro hml <| And.intro hw1 <| And.intro hg <| And.intro had <| hd0) ct9 ?_
      exact ⟨⟨⟨i + 1, L'⟩, by show i + 1 ≤ l.length; omega, by show L'.length ≤ i + 1; omega, a1, hT⟩, (Wt trivial [4, 9, 10, 11] [0, 1, 4]), by simp only; omega⟩
    · rw [if_pos he] at hT
      have he2 : (e != 0) = true := by simpa using he
      subst hT
      rw [show loadR (L', e) = ([], .tup [.t .nilp, .t (.int .i64 e)]) from if_neg he] at hF
      cases hF
      repeat refine St (And.intro hlt <| And.intro hlt2 <| And.intro hml <| And.intro hw1 <| And.intro hg <| And.intro had <| he2) ct9 ?_
      exact AWP.ret (Fin trivial [] [])
  obtain rfl : i = l.length := by omega
  have hlt2 : ¬ (l.length : Int) < (l.length : Int) := by omega
  rw [List.drop_length, addsV] at hT
  subst hT
  rw [show loadR (L, 0) = (vwH L, .tup [.ptr 0 0 [], .t (.int .i64 0)]) from if_pos rfl] at hF
  cases hF
  repeat refine St hlt2 ct9 ?_
  exact AWP.ret (Fin @vwH.eq_def [] [0, 2])
theorem load_c (l : List TCoin) (h : l.length ≤ 900000) (h2 : lowL l = true) : F9 [.sq 37 (l.map coinT)] = some (loadR (addsV [] l)) := by
  have hi : inv (List.map coinT) (l.map coinT) = some l := inv_of (f := List.map coinT) (fun a b h => coins_inj a b h) l
  simp only [F9, hi]
  exact if_pos ⟨h, h2⟩

end Go.Fw

end
