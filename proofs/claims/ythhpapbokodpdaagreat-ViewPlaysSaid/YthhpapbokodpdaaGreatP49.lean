/- The abstract machine, and the contracts of the code: part 49. -/
import Derived.Test.YthhpapbokodpdaaGreatP48
set_option linter.unusedVariables false
set_option linter.unusedSimpArgs false

section
namespace Go.Fw
open Go Go.Proofs
noncomputable def nmH (t : TTx) : H32 := ⟨namO t, namO_len t⟩
theorem name_tc (t : TTx) : F57 [txT t] = some ([], .t (.ba 32 (namO t))) := by simp only [F57, inv_of txT_inj]
noncomputable def G36 : GFun
 | HB, [.ptr 0 0 [], .t x, .t y, .t (.bool first)] => match inv vwH HB, inv txT x, inv h32T y with
   | some l, some t, some ht => @ite _ ((l.length ≤ 900000 ∧ lowL l = true)) (Classical.propDecidable _) ((some (vwN (applyV l t (nmH t) ht first).1, .tup [.t (.sq 37 ((applyV l t (nmH t) ht first).2.1.map coinT)), .t (.int .i64 (applyV l t (nmH t) ht first).2.2)]))) none
   | _, _, _ => none
 | _, _ => none
theorem ct36 : CT [(20, ⟨[true, false], G20⟩), (43, ⟨[false, false], treeG F43⟩), (55, ⟨[false], treeG F55⟩), (56, ⟨[true, false], G56⟩), (57, ⟨[false], treeG F57⟩)] [0, 1, 2, 3, 5, 8, 9, 10, 11, 12, 13, 14, 15, 18, 28, 33, 34, 35, 36, 51] [] := ⟨(.cons g20 (.cons c43.g (.cons c55.g (.cons g56 (.cons c57.g (.nil _))))))⟩
set_option maxRecDepth 8000 in
set_option maxHeartbeats 8000000 in
theorem g36 : GCon Tryz.prog 36 G36 := by
 refine gconc E_ok (rs := [.tmp 8 22, .tmp 9 27]) Tryz.func36 rfl Tryz.ntmps36 (by kernel_rfl) rfl (by decide) G36 (np := 4) ?_ ?_
 · intro HB xs h; unfold G36; split <;> first | rfl | (simp at h; done)
 intro HB xs H r hG hwf hex
 unfold G36 at hG
 split at hG <;> try (cases hG; done)
 rename_i x y first
 split at hG <;> try (cases hG; done)
 rename_i l t ht hl htx hht
 split at hG
 case isFalse => cases hG
 rename_i hcc
 cases hG
 obtain ⟨hlen, hlow⟩ := hcc
 obtain rfl := inv_inv hl
 obtain rfl := inv_inv htx
 obtain rfl := inv_inv hht
 have hck := check_c t
 have hnm := name_tc t
 have hml : (t.outs.map outT).length = t.outs.length := List.length_map ..
 rw [txT_st] at hck hnm ⊢
 simp only [vwH, h32T]
 unfold applyV
 rcases chk_two t with ⟨e1, e2, e3⟩ | ⟨e1, e2⟩
 rotate_left
 · rw [e1] at hck
   rw [if_pos (by rw [e1]; decide)]
   dsimp only
   repeat refine St (And.intro (And.intro @gentry.eq_1 <| @gentry.eq_2) <| hck) ct36 ?_
   refine AWP.weak (Weak.moveBx (v' := _) 0 1 [0] 0 _ rfl rfl rfl (by decide) (by simp only [W, eqq, ↓reduceIte, Nat.reduceEqDiff, Nat.reduceLT, Nat.reduceLeDiff, Nat.reduceAdd, Nat.reduceMul, Nat.reduceSub, Nat.reduceBEq, Int.reduceLE, Int.reduceLT, Int.reduceNeg, Int.reduceToNat, Int.reduceEq, Int.reduceBEq, Int.reduceBNe, Nat.reduceBNe, bne_self_eq_false, reduceCtorEq, gt_iff_lt, ge_iff_le]) (by simp only [W, eqq, ↓reduceIte, Nat.reduceEqDiff, Nat.reduceLT, Nat.reduceLeDiff, Nat.reduceAdd, Nat.reduceMul, Nat.reduceSub, Nat.reduceBEq, Int.reduceLE, Int.reduceLT, Int.reduceNeg, Int.reduceToNat, Int.reduceEq, Int.reduceBEq, Int.reduceBNe, Nat.reduceBNe, bne_self_eq_false, reduceCtorEq, gt_iff_lt, ge_iff_le]) (by simp only [W, eqq, ↓reduceIte, Nat.reduceEqDiff, Nat.reduceLT, Nat.reduceLeDiff, Nat.reduceAdd, Nat.reduceMul, Nat.reduceSub, Nat.reduceBEq, Int.reduceLE, Int.reduceLT, Int.reduceNeg, Int.reduceToNat, Int.reduceEq, Int.reduceBEq, Int.reduceBNe, Nat.reduceBNe, bne_self_eq_false, reduceCtorEq, gt_iff_lt, ge_iff_le]; rfl)) ?_
   exact AWP.ret (Fin (And.intro @vwN.eq_def <| @List.map_nil.{0, 0}) [] [0, 1, 3])
 rw [e1] at hck
 rw [if_neg (by rw [e1]; simp)]
 obtain ⟨c1, c2, c3, _⟩ := countsB_ok e2
 have hin := inputs_c t first (by omega)
 have hrl : (insR t first).length ≤ 20 := by unfold insR; split <;> simp <;> omega
 have htk := take_vc l (insR t first) (by omega) hlow (by omega)
 obtain ⟨t1, t2, t3, t4⟩ := takeV_ok (insR t first) l [] hlow rfl
 generalize takeV l (insR t first) [] = K at *
 generalize insR t first = I at *
 obtain ⟨L1, sp, e⟩ := K
 dsimp only at htk t1 t2 t3 t4 ⊢
 simp only [vwN, refsT] at htk hin
 by_cases he : e = 0
 rotate_left
 · rw [if_pos he]
   have he2 : (e != 0) = true := by simpa using he
   dsimp only
   repeat refine St (And.intro (And.intro @gentry.eq_1 <| @gentry.eq_2) <| And.intro hck <| And.intro hin <| And.intro htk <| he2) ct36 ?_
   exact AWP.ret (Fin (And.intro @vwN.eq_def <| @List.map_nil.{0, 0}) [] [0, 1, 3])
 subst he
 rw [if_neg (by simp)]
 obtain ⟨R, hR⟩ : ∃ R, addsV L1 (madeC t (nmH t) ht first) = R := ⟨_, rfl⟩
 rw [hR]
 have hd0 : ((0 : Int) != 0) = false := rfl
 have hmk := madeC_low e2 (nmH t) ht first
 have hout : ∀ i, i < t.outs.length → (t.outs.map outT).getD i default = .st [.int .u64 ((t.outs.getD i dOut).val.toNat : Int), .by (t.outs.getD i dOut).scr] := fun i hi => by simp [hi, outT]
 have hol : ∀ i, i < t.outs.length → (t.outs.getD i dOut).scr.length ≤ 1000 := fun i hi => c3 _ (by simp [List.getD_eq_getElem?_getD, hi])
 have hnl : namO t = (nmH t).1 := rfl
 rw [hnl] at hnm
 generalize hN : nmH t = N at *
 repeat refine St (And.intro (And.intro @gentry.eq_1 <| @gentry.eq_2) <| And.intro hck <| And.intro hin <| And.intro htk <| And.intro hd0 <| And.intro hnm <| hml) ct36 ?_
 refine AWP.loop (G := { x : Nat × List TCoin // x.1 ≤ t.outs.length ∧ x.2.length ≤ 900000 + x.1 ∧ lowL x.2 = true ∧ addsV x.2 ((madeC t N ht first).drop x.1) = R }) (fun x => ⟨[(0, .ptr 0 0 []), (2, .t (.int .u32 (ht.toNat : Int))), (3, .t (.bool first)), (10, .t (.sq 37 (sp.map coinT))), (12, .ptr 3 0 []), (33, .t (.sq 2 (t.outs.map outT))), (34, .t (.int .i64 (t.outs.length : Int))), (35, .t (.int .i64 (x.1.1 : Int)))], [.bx (.st [.own 2]), .no, .sq 37 (x.1.2.map coinT), .bx (.t (.ba 32 N.1))]⟩) (fun x => t.outs.length - x.1.1) ⟨⟨0, L1⟩, Nat.zero_le _, by show L1.length ≤ 900000 + 0; omega, t1, hR⟩ (Wt trivial [0, 2, 3, 10, 12, 33, 34, 35] [0, 1, 3, 4]) ?_
 rintro ⟨⟨i, L⟩, hi, hLl, hLo, hT⟩
 dsimp only at hi hLl hLo hT ⊢
 clear hR htk t1 t2 t3 t4 hlen hlow
 by_cases hlt : i < t.outs.length
 · have hlt2 : (i : Int) < (t.outs.length : Int) := by omega
   have hw1 : IntKind.i64.wrap ((i : Int) + 1) = ((i + 1 : Nat) : Int) := by rw [wrap_i64 (by omega) (by omega)]; omega
   have hw2 : IntKind.u32.wrap (i : Int) = ((UInt32.ofNat i).toNat : Int) := by
     rw [wrap_u32 (by omega) (by omega), UInt32.toNat_ofNat', Nat.mod_eq_of_lt (by omega)]
   have hg := hout i hlt
   have hlc := hol i hlt
   rw [madeC_drop t N ht first hlt, addsV] at hT
   have had := add_c L ⟨⟨N, UInt32.ofNat i⟩, t.outs.getD i dOut, ht, first⟩ (by omega) (by unfold lowC; rw [decide_eq_true_eq]; dsimp only; omega)
   obtain ⟨a1, a2⟩ := addV_ok (l := L) hLo (c := ⟨⟨N, UInt32.ofNat i⟩, t.outs.getD i dOut, ht, first⟩) (by unfold lowC; rw [decide_eq_true_eq]; dsimp only; omega)
   generalize addV L ⟨⟨N, UInt32.ofNat i⟩, t.outs.getD i dOut, ht, first⟩ = A at *
   obtain ⟨L', e⟩ := A
   dsimp only at hT had a1 a2
   generalize t.outs.getD i dOut = o at *
   generalize UInt32.ofNat i = ui at *
   simp only [vwN] at had
   by_cases he : e = 0
   · subst he
     rw [if_neg (by simp)] at hT
     repeat refine St (And.intro hlt <| And.intro hlt2 <| And.intro hml <| And.intro hw1 <| And.intro hw2 <| And.intro hg <| And.intro had <| hd0) ct36 ?_
     exact ⟨⟨⟨i + 1, L'⟩, by show i + 1 ≤ t.outs.length; omega, by show L'.length ≤ 900000 + (i + 1); omega, a1, hT⟩, (Wt trivial [0, 2, 3, 10, 12, 33, 34, 35] [0, 1, 5, 3]), by simp only; omega⟩
   · rw [if_pos he] at hT
     have he2 : (e != 0) = true := by simpa using he
     subst hT
     dsimp only
     rw [if_pos he]
     dsimp only
     repeat refine St (And.intro hlt <| And.intro hlt2 <| And.intro hml <| And.intro hw1 <| And.intro hw2 <| And.intro hg <| And.intro had <| he2) ct36 ?_
     exact AWP.ret (Fin (And.intro @vwN.eq_def <| @List.map_nil.{0, 0}) [] [0, 1, 5])
 obtain rfl : i = t.outs.length := by omega
 have hlt2 : ¬ (t.outs.length : Int) < (t.outs.length : Int) := by omega
 rw [show (madeC t N ht first).drop t.outs.length = [] from List.drop_of_length_le (by rw [madeC_len]; omega), addsV] at hT
 subst hT
 dsimp only
 rw [if_neg (by simp)]
 repeat refine St hlt2 ct36 ?_
 exact AWP.ret (Fin @vwN.eq_def [] [0, 1, 2])
theorem apply_vc (l : List TCoin) (t : TTx) (ht : UInt32) (first : Bool) (h : l.length ≤ 900000) (h2 : lowL l = true) : G36 [.bx (.st [.own 1]), .sq 37 (l.map coinT)] [.ptr 0 0 [], .t (txT t), .t (.int .u32 (ht.toNat : Int)), .t (.bool first)] = some (vwN (applyV l t (nmH t) ht first).1, .tup [.t (.sq 37 ((applyV l t (nmH t) ht first).2.1.map coinT)), .t (.int .i64 (applyV l t (nmH t) ht first).2.2)]) := by
 show G36 (vwH l) [.ptr 0 0 [], .t (txT t), .t (h32T ht), .t (.bool first)] = _
 simp only [G36, inv_of vwH_inj, inv_of txT_inj, inv_of h32T_inj]
 exact if_pos ⟨h, h2⟩
end Go.Fw

end

section
namespace Go.Fw
open Go Go.Proofs
theorem AWP.noK {gl : GCalls} {keep : List Nat} {ds : List (Nat × List Info)} {kp N id d j : Nat} {l : List Oper} {o : Oper} {t t' e : TypeId} {sz : Nat} {b : List T} {Q : Exit → AS → Prop} {S S1 : AS} {F : Prop} (hF : F) (ct : CT gl keep ds)
   (hQ : ∀ r : Bool, (r = true → b = []) → Q .normal ⟨prune keep ((d, .t (.bool r)) :: S1.s), S1.H⟩)
   (hop : o.op = .binOp .eql t (.tmp j) (.const (.slice none 0 0)) t' := by rfl) (hd : o.dst = some d := by rfl) (hdN : d < N := by decide) (ht : (E t).ty = .sl e := by rfl)
   (h : F → gops E eqq gl N (l ++ [o]) l S = some S1 := by (intro hF; simp only [W, eqq, ↓reduceIte, Nat.reduceEqDiff, Nat.reduceLT, Nat.reduceLeDiff, Nat.reduceAdd, Nat.reduceMul, Nat.reduceSub, Nat.reduceBEq, Int.reduceLE, Int.reduceLT, Int.reduceNeg, Int.reduceToNat, Int.reduceEq, Int.reduceBEq, Int.reduceBNe, Nat.reduceBNe, bne_self_eq_false, reduceCtorEq, gt_iff_lt, ge_iff_le, hF]; with_reducible rfl)) (hw : wantA (l ++ [o]) S1.s o = some true := by rfl) {x : Nat} (hsl : lk j S1.s = .own x := by rfl) (hbl : S1.H[x]? = some (.sq sz b) := by rfl) :
   AWP kp Tryz.prog N (.region id (l ++ [o]).toArray false) Q S := AWP.gnilO X_ok ct.cl keep hop hd hdN ht (h hF) hw hsl hbl hQ
end Go.Fw

end

section
namespace Go.Fw
open Go Go.Proofs
noncomputable def G54 : GFun
 | HB, [.own 0] => match inv csH HB with
   | some l => @ite _ ((l.length ≤ 1000000)) (Classical.propDecidable _) ((some (csH l ++ csH l, .own 1))) none
   | none => none
 | _, _ => none
theorem ct54 : CT [] [0, 2, 4] [] := ⟨GClOk.nil _⟩
theorem g54 : GCon Tryz.prog 54 G54 := by
 refine gconc E_ok (rs := [.tmp 2 22]) Tryz.func54 rfl Tryz.ntmps54 (by kernel_rfl) rfl (by decide) G54 (np := 1) ?_ ?_
 · intro HB xs h; unfold G54; split <;> first | rfl | (simp at h; done)
 intro HB xs H r hG hwf hex
 unfold G54 at hG
 split at hG <;> try (cases hG; done)
 split at hG <;> try (cases hG; done)
 rename_i l hl
 split at hG
 case isFalse => cases hG
 rename_i hlen
 cases hG
 obtain rfl := inv_inv hl
 have hml : (l.map coinT).length ≤ 1000000 := by rw [List.length_map]; exact hlen
 simp only [csH, List.cons_append, List.nil_append]
 generalize l.map coinT = X at *
 refine St (And.intro @gentry.eq_1 <| @gentry.eq_2) ct54 ?_
 refine St (And.intro @gentry.eq_1 <| @gentry.eq_2) ct54 ?_
 refine St (And.intro @gentry.eq_1 <| @gentry.eq_2) ct54 ?_
 refine AWP.seq ?_
 refine AWP.noK (l := [_]) trivial ct54 (fun r hr => ?_)
 show AWP _ _ _ _ _ _
 cases r
 · repeat refine St (And.intro (And.intro @gentry.eq_1 <| @gentry.eq_2) <| hml) ct54 ?_
   exact AWP.ret (Fin trivial [] [0, 2])
 · obtain rfl := hr rfl
   repeat refine St (And.intro @gentry.eq_1 <| @gentry.eq_2) ct54 ?_
   refine AWP.weak (Wo 2 (.sq 37 [])) ?_
   exact AWP.ret (Fin trivial [] [0, 1])
theorem clone_vc (l : List TCoin) (h : l.length ≤ 1000000) : G54 [.sq 37 (l.map coinT)] [.own 0] = some ([.sq 37 (l.map coinT), .sq 37 (l.map coinT)], .own 1) := by
 show G54 (csH l) [.own 0] = _
 simp only [G54, inv_of csH_inj]
 exact if_pos h
structure ApX where
 l : List TCoin
 t : TTx
 ht : UInt32
 first : Bool
noncomputable def apH (x : ApX) : List Blk := [.bx (.st [.own 1]), .sq 37 (x.l.map coinT), .bx (.t (txT x.t)), .bx (.t (h32T x.ht)), .bx (.t (.bool x.first)), .bx (.t .nil)]
theorem apH_inj (a b : ApX) (h : apH a = apH b) : a = b := by
 obtain ⟨l1, t1, h1, f1⟩ := a
 obtain ⟨l2, t2, h2, f2⟩ := b
 simp only [apH, List.cons.injEq, Blk.sq.injEq, Blk.bx.injEq, AV.t.injEq, T.bool.injEq, true_and, and_true] at h
 obtain ⟨g1, g2, g3, g4⟩ := h
 rw [coins_inj _ _ g1, txT_inj _ _ g2, h32T_inj _ _ g3, g4]
noncomputable def apN (x : ApX) (l sp : List TCoin) : List Blk := [.bx (.st [.own 6]), .no, .bx (.t (txT x.t)), .bx (.t (h32T x.ht)), .bx (.t (.bool x.first)), .bx (.t (.sq 37 (sp.map coinT))), .sq 37 (l.map coinT)]
noncomputable def ap1 (x : ApX) : List TCoin × List TCoin × Int := applyV x.l x.t (nmH x.t) x.ht x.first
noncomputable def G35 : GFun
 | HB, [.ptr 0 0 [], .ptr 2 0 [], .ptr 3 0 [], .ptr 4 0 [], .ptr 5 0 []] => match inv apH HB with
   | some x => @ite _ ((x.l.length ≤ 900000 ∧ lowL x.l = true)) (Classical.propDecidable _) ((some (apN x (ap1 x).1 (ap1 x).2.1, .t (.int .i64 (ap1 x).2.2)))) none
   | none => none
 | _, _ => none
theorem ct35 : CT [(36, ⟨[true, false, false, false], G36⟩)] [0, 1, 2, 3, 4, 6, 7, 8] [] := ⟨(.cons g36 (.nil _))⟩
set_option maxHeartbeats 2000000 in
theorem g35 : GCon Tryz.prog 35 G35 := by
 refine gconc E_ok (rs := [.tmp 6 27]) Tryz.func35 rfl Tryz.ntmps35 (by kernel_rfl) rfl (by decide) G35 (np := 5) ?_ ?_
 · intro HB xs h; unfold G35; split <;> first | rfl | (simp at h; done)
 intro HB xs H r hG hwf hex
 unfold G35 at hG
 split at hG <;> try (cases hG; done)
 split at hG <;> try (cases hG; done)
 rename_i x hx
 split at hG
 case isFalse => cases hG
 rename_i hcc
 cases hG
 obtain ⟨hlen, hlow⟩ := hcc
 obtain rfl := inv_inv hx
 have h := apply_vc x.l x.t x.ht x.first hlen hlow
 obtain ⟨l, t, ht, first⟩ := x
 dsimp only at h hlen hlow
 simp only [apH, apN, ap1, h32T]
 generalize applyV l t (nmH t) ht first = R at *
 obtain ⟨L, sp, e⟩ := R
 dsimp only at h ⊢
 rw [txT_st] at h ⊢
 simp only [vwN] at h
 repeat refine St (And.intro (And.intro @gentry.eq_1 <| @gentry.eq_2) <| h) ct35 ?_
 exact AWP.ret (Fin trivial [] [0, 1, 2, 3, 4, 5, 6])
theorem ap1_c (x : ApX) (h : x.l.length ≤ 900000) (h2 : lowL x.l = true) : G35 [.bx (.st [.own 1]), .sq 37 (x.l.map coinT), .bx (.t (txT x.t)), .bx (.t (.int .u32 (x.ht.toNat : Int))), .bx (.t (.bool x.first)), .bx (.t .nil)] [.ptr 0 0 [], .ptr 2 0 [], .ptr 3 0 [], .ptr 4 0 [], .ptr 5 0 []] = some (apN x (ap1 x).1 (ap1 x).2.1, .t (.int .i64 (ap1 x).2.2)) := by
 show G35 (apH x) _ = _
 simp only [G35, inv_of apH_inj]
 exact if_pos ⟨h, h2⟩
noncomputable def G34A : GFun
 | HB, [.ptr 0 0 [], .clo 35 [.ptr 2 0 [], .ptr 3 0 [], .ptr 4 0 [], .ptr 5 0 []]] => match inv apH HB with
   | some x => @ite _ ((x.l.length ≤ 900000 ∧ lowL x.l = true)) (Classical.propDecidable _) ((some (apN x (if (ap1 x).2.2 = 0 then (ap1 x).1 else x.l) (ap1 x).2.1, .t (.int .i64 (ap1 x).2.2)))) none
   | none => none
 | _, _ => none
theorem ct34A : CT [(35, ⟨[true, true, true, true, true], G35⟩), (54, ⟨[true], G54⟩)] [0, 1, 4, 5, 6, 18] [] := ⟨(.cons g35 (.cons g54 (.nil _)))⟩
set_option maxHeartbeats 4000000 in
theorem g34A : GCon Tryz.prog 34 G34A := by
 refine gconc E_ok (rs := [.tmp 4 27]) Tryz.func34 rfl Tryz.ntmps34 (by kernel_rfl) rfl (by decide) G34A (np := 2) ?_ ?_
 · intro HB xs h; unfold G34A; split <;> first | rfl | (simp at h; done)
 intro HB xs H r hG hwf hex
 unfold G34A at hG
 split at hG <;> try (cases hG; done)
 
 split at hG <;> try (cases hG; done)
 rename_i x hx
 split at hG
 case isFalse => cases hG
 rename_i hcc
 cases hG
 obtain ⟨hlen, hlow⟩ := hcc
 obtain rfl := inv_inv hx
 have h := ap1_c x hlen hlow
 have hcl := clone_vc x.l (by omega)
 generalize ap1 x = R at *
 obtain ⟨l, t, ht, first⟩ := x
 obtain ⟨L, sp, e⟩ := R
 dsimp only at h hcl ⊢
 simp only [apH, apN, h32T] at h ⊢
 rw [txT_st] at h ⊢
 by_cases he : e = 0
 · subst he
   rw [if_pos rfl]
   have he2 : ((0 : Int) == 0) = true := rfl
   repeat refine St (And.intro (And.intro @gentry.eq_1 <| @gentry.eq_2) <| And.intro hcl <| And.intro h <| he2) ct34A ?_
   refine AWP.weak (Weak.drop 1 _ rfl rfl) ?_
   exact AWP.ret (Fin trivial [] [0, 1, 2, 3, 4, 5, 8])
 · rw [if_neg he]
   have he2 : (e == 0) = false := by simpa using he
   repeat refine St (And.intro (And.intro @gentry.eq_1 <| @gentry.eq_2) <| And.intro hcl <| And.intro h <| he2) ct34A ?_
   refine AWP.weak (Weak.moveBx (v' := _) 0 1 [0] 0 _ rfl rfl rfl (by decide) (by simp only [W, eqq, ↓reduceIte, Nat.reduceEqDiff, Nat.reduceLT, Nat.reduceLeDiff, Nat.reduceAdd, Nat.reduceMul, Nat.reduceSub, Nat.reduceBEq, Int.reduceLE, Int.reduceLT, Int.reduceNeg, Int.reduceToNat, Int.reduceEq, Int.reduceBEq, Int.reduceBNe, Nat.reduceBNe, bne_self_eq_false, reduceCtorEq, gt_iff_lt, ge_iff_le]) (by simp only [W, eqq, ↓reduceIte, Nat.reduceEqDiff, Nat.reduceLT, Nat.reduceLeDiff, Nat.reduceAdd, Nat.reduceMul, Nat.reduceSub, Nat.reduceBEq, Int.reduceLE, Int.reduceLT, Int.reduceNeg, Int.reduceToNat, Int.reduceEq, Int.reduceBEq, Int.reduceBNe, Nat.reduceBNe, bne_self_eq_false, reduceCtorEq, gt_iff_lt, ge_iff_le]) (by simp only [W, eqq, ↓reduceIte, Nat.reduceEqDiff, Nat.reduceLT, Nat.reduceLeDiff, Nat.reduceAdd, Nat.reduceMul, Nat.reduceSub, Nat.reduceBEq, Int.reduceLE, Int.reduceLT, Int.reduceNeg, Int.reduceToNat, Int.reduceEq, Int.reduceBEq, Int.reduceBNe, Nat.reduceBNe, bne_self_eq_false, reduceCtorEq, gt_iff_lt, ge_iff_le]; rfl)) ?_
   exact AWP.ret (Fin trivial [] [0, 1, 2, 3, 4, 5, 9])
theorem trialA_c (x : ApX) (h : x.l.length ≤ 900000) (h2 : lowL x.l = true) : G34A [.bx (.st [.own 1]), .sq 37 (x.l.map coinT), .bx (.t (txT x.t)), .bx (.t (.int .u32 (x.ht.toNat : Int))), .bx (.t (.bool x.first)), .bx (.t .nil)] [.ptr 0 0 [], .clo 35 [.ptr 2 0 [], .ptr 3 0 [], .ptr 4 0 [], .ptr 5 0 []]] = some (apN x (if (ap1 x).2.2 = 0 then (ap1 x).1 else x.l) (ap1 x).2.1, .t (.int .i64 (ap1 x).2.2)) := by
 show G34A (apH x) _ = _
 simp only [G34A, inv_of apH_inj]
 exact if_pos ⟨h, h2⟩
noncomputable def appV (l : List TCoin) (t : TTx) (ht : UInt32) (first : Bool) : List TCoin × List TCoin × Int :=
 (if (applyV l t (nmH t) ht first).2.2 = 0 then (applyV l t (nmH t) ht first).1 else l, (applyV l t (nmH t) ht first).2.1, (applyV l t (nmH t) ht first).2.2)
noncomputable def G18 : GFun
 | [], [.t .nilp, .t x, .t y, .t (.bool first)] => match inv txT x, inv h32T y with
   | some t, some ht => some ([], .tup [.t (.sq 37 []), .t (.int .i64 1)])
   | _, _ => none
 | HB, [.ptr 0 0 [], .t x, .t y, .t (.bool first)] => match inv vwH HB, inv txT x, inv h32T y with
   | some l, some t, some ht => @ite _ ((l.length ≤ 900000 ∧ lowL l = true)) (Classical.propDecidable _) ((some (vwN (appV l t ht first).1, .tup [.t (.sq 37 ((appV l t ht first).2.1.map coinT)), .t (.int .i64 (appV l t ht first).2.2)]))) none
   | _, _, _ => none
 | _, _ => none
theorem ct18 : CT [(34, ⟨[true, true], G34A⟩)] [0, 1, 2, 3, 5, 6, 7, 8, 9, 10, 11, 13] [] := ⟨(.cons g34A (.nil _))⟩
set_option maxHeartbeats 4000000 in
theorem g18 : GCon Tryz.prog 18 G18 := by
 refine gconc E_ok (rs := [.tmp 8 22, .tmp 9 27]) Tryz.func18 rfl Tryz.ntmps18 (by kernel_rfl) rfl (by decide) G18 (np := 4) ?_ ?_
 · intro HB xs h; unfold G18; split <;> first | rfl | (simp at h; done)
 intro HB xs H r hG hwf hex
 unfold G18 at hG
 split at hG <;> try (cases hG; done)
 · rename_i x y first
   split at hG <;> try (cases hG; done)
   rename_i t ht htx hht
   cases hG
   obtain rfl := inv_inv htx
   obtain rfl := inv_inv hht
   rw [txT_st]
   simp only [h32T]
   repeat refine St (And.intro @gentry.eq_1 <| @gentry.eq_2) ct18 ?_
   exact AWP.ret (Fin trivial [] [])
 rename_i x y first
 split at hG <;> try (cases hG; done)
 rename_i l t ht hl htx hht
 split at hG
 case isFalse => cases hG
 rename_i hcc
 cases hG
 obtain ⟨hlen, hlow⟩ := hcc
 obtain rfl := inv_inv hl
 obtain rfl := inv_inv htx
 obtain rfl := inv_inv hht
 have h := trialA_c ⟨l, t, ht, first⟩ hlen hlow
 rw [show appV l t ht first = (if (ap1 ⟨l, t, ht, first⟩).2.2 = 0 then (ap1 ⟨l, t, ht, first⟩).1 else l, (ap1 ⟨l, t, ht, first⟩).2.1, (ap1 ⟨l, t, ht, first⟩).2.2) from rfl]
 generalize ap1 ⟨l, t, ht, first⟩ = R at *
 obtain ⟨L, sp, e⟩ := R
 dsimp only at h ⊢
 generalize (if e = 0 then L else l) = Z at *
 simp only [vwH, apN, h32T] at h ⊢
 rw [txT_st] at h ⊢
 repeat refine St (And.intro (And.intro @gentry.eq_1 <| @gentry.eq_2) <| h) ct18 ?_
 exact AWP.ret (Fin @vwN.eq_def [] [0, 1, 6])
theorem appl_c (l : List TCoin) (t : TTx) (ht : UInt32) (first : Bool) (h : l.length ≤ 900000) (h2 : lowL l = true) : G18 [.bx (.st [.own 1]), .sq 37 (l.map coinT)] [.ptr 0 0 [], .t (txT t), .t (.int .u32 (ht.toNat : Int)), .t (.bool first)] = some (vwN (appV l t ht first).1, .tup [.t (.sq 37 ((appV l t ht first).2.1.map coinT)), .t (.int .i64 (appV l t ht first).2.2)]) := by
 show G18 (vwH l) [.ptr 0 0 [], .t (txT t), .t (h32T ht), .t (.bool first)] = _
 simp only [G18, inv_of vwH_inj, inv_of txT_inj, inv_of h32T_inj]
 exact if_pos ⟨h, h2⟩
end Go.Fw

end

section
namespace Go.Fw
open Go Go.Proofs
theorem AWP.sK {gl : GCalls} {keep : List Nat} {ds : List (Nat × List Info)} {kp N id : Nat} {l1 l2 : List Oper} {Q : Exit → AS → Prop} {S S1 S2 S3 : AS} {F : Prop} (hF : F) (ct : CT gl keep ds)
   (hw : Weak kp N S1 S2) (hQ : Q .normal ⟨prune keep S3.s, S3.H⟩)
   (h1 : F → gops E eqq gl N (l1 ++ l2) l1 S = some S1 := by (intro hF; simp only [W, eqq, ↓reduceIte, Nat.reduceEqDiff, Nat.reduceLT, Nat.reduceLeDiff, Nat.reduceAdd, Nat.reduceMul, Nat.reduceSub, Nat.reduceBEq, Int.reduceLE, Int.reduceLT, Int.reduceNeg, Int.reduceToNat, Int.reduceEq, Int.reduceBEq, Int.reduceBNe, Nat.reduceBNe, bne_self_eq_false, reduceCtorEq, gt_iff_lt, ge_iff_le, hF]; with_reducible rfl))
   (h2 : F → gops E eqq gl N (l1 ++ l2) l2 S2 = some S3 := by (intro hF; simp only [W, eqq, ↓reduceIte, Nat.reduceEqDiff, Nat.reduceLT, Nat.reduceLeDiff, Nat.reduceAdd, Nat.reduceMul, Nat.reduceSub, Nat.reduceBEq, Int.reduceLE, Int.reduceLT, Int.reduceNeg, Int.reduceToNat, Int.reduceEq, Int.reduceBEq, Int.reduceBNe, Nat.reduceBNe, bne_self_eq_false, reduceCtorEq, gt_iff_lt, ge_iff_le, hF]; with_reducible rfl)) : AWP kp Tryz.prog N (.region id (l1 ++ l2).toArray false) Q S :=
 AWP.gsplit X_ok ct.cl keep (h1 hF) hw (h2 hF) hQ
end Go.Fw

end

section
namespace Go.Fw
open Go Go.Proofs
def tx0 : TTx := ⟨0, [], [⟨1, []⟩, ⟨2, []⟩], 0⟩
theorem bare0 : bareB tx0 = [0, 0, 0, 0, 0, 2, 1, 0, 0, 0, 0, 0, 0, 0, 0, 2, 0, 0, 0, 0, 0, 0, 0, 0, 0, 0, 0, 0] := by decide +kernel
theorem name0 : shaL (shaL (bareB tx0)) ≠ List.replicate 32 0 := by
 rw [bare0]
 decide +kernel
theorem fits0 : fitsB tx0 = true := by decide +kernel
theorem nm0 : (nmH tx0).1 ≠ zH.1 := by
 show namO tx0 ≠ List.replicate 32 0
 unfold namO
 rw [if_pos fits0]
 exact name0
noncomputable def live0 : TCoin := ⟨⟨nmH tx0, 0⟩, ⟨1, []⟩, 7, true⟩
noncomputable def live1 : TCoin := ⟨⟨nmH tx0, 1⟩, ⟨2, []⟩, 7, true⟩
theorem live_app : appV [] tx0 7 true = ([live0, live1], [], 0) := by
 have hc : chkE tx0 = 0 := by unfold chkE; rw [if_pos fits0]
 have hm : madeC tx0 (nmH tx0) 7 true = [live0, live1] := rfl
 have ht : takeV [] (insR tx0 true) [] = ([], [], 0) := rfl
 have a0 : addV [] live0 = ([live0], 0) := by
   unfold addV
   rw [if_neg (by simp [plB])]
   rfl
 have hp : plN [live0] live1.r = 1 := by
   have e : cmpR live0.r live1.r = -1 := by
     show (if cmpL (nmH tx0).1 (nmH tx0).1 = 0 then cmpI ((0 : UInt32).toNat : Int) ((1 : UInt32).toNat : Int) else cmpL (nmH tx0).1 (nmH tx0).1) = -1
     rw [if_pos (cmpL_self _)]
     rfl
   unfold plN
   rw [bs_step (by simp) (by simp)]
   have e2 : cmpR (([live0] : List TCoin).getD ((0 + [live0].length) / 2) dCoin).r live1.r = -1 := e
   rw [if_pos (by rw [e2]; decide)]
   exact bs_end (by simp)
 have a1 : addV [live0] live1 = ([live0, live1], 0) := by
   unfold addV
   rw [if_neg (by unfold plB; rw [hp]; simp), hp]
   rfl
 have hA : addsV [] [live0, live1] = ([live0, live1], 0) := by
   unfold addsV
   rw [a0, if_neg (by simp)]
   unfold addsV
   rw [a1, if_neg (by simp)]
   rfl
 have hV : applyV [] tx0 (nmH tx0) 7 true = ([live0, live1], [], 0) := by
   unfold applyV
   rw [hc, if_neg (by simp), ht]
   dsimp only
   rw [if_neg (by simp), hm, hA]
   rfl
 unfold appV
 rw [hV]
 rfl
theorem two_get (a b d : TCoin) : ∀ i, i < 2 → ([a, b] : List TCoin).getD i d = a ∨ ([a, b] : List TCoin).getD i d = b
 | 0, _ => .inl rfl
 | 1, _ => .inr rfl
theorem live_spend : spdV [live0, live1] ⟨zH, 0⟩ = ([live0, live1], dCoin, 33) := by
 have hne : ∀ i, i < 2 → cmpR (([live0, live1] : List TCoin).getD i dCoin).r ⟨zH, 0⟩ ≠ 0 := by
   intro i hi h
   have key : ∀ c : TCoin, c.r.h = nmH tx0 → cmpR c.r ⟨zH, 0⟩ ≠ 0 := by
     intro c hc h
     unfold cmpR at h
     rw [hc] at h
     split at h
     · rename_i h0
       exact nm0 (cmpL_eq _ _ h0)
     · rename_i h0
       exact h0 h
   rcases two_get live0 live1 dCoin i hi with e | e
   · rw [e] at h; exact key live0 rfl h
   · rw [e] at h; exact key live1 rfl h
 have hb : plB [live0, live1] ⟨zH, 0⟩ = false := by
   unfold plB
   by_cases h : plN [live0, live1] ⟨zH, 0⟩ < [live0, live1].length
   · rw [decide_eq_true h, Bool.true_and, decide_eq_false_iff_not]
     exact hne _ h
   · rw [decide_eq_false h]; rfl
 unfold spdV
 rw [hb]
 rfl
def F5 : Fun
 | [] => some ([], .t (.bool true))
 | _ => none
theorem ct5 : CT [(14, ⟨[true], G14⟩), (15, ⟨[true], G15⟩), (17, ⟨[], treeG F17⟩), (18, ⟨[true, false, false, false], G18⟩), (19, ⟨[true, false], G19⟩)] [0, 1, 2, 3, 4, 6, 9] [] := ⟨(.cons g14 (.cons g15 (.cons c17.g (.cons g18 (.cons g19 (.nil _))))))⟩
set_option maxRecDepth 8000 in
set_option maxHeartbeats 4000000 in
theorem c5 : ACon Tryz.prog 5 F5 := by
 refine aconc E_ok (rs := [.tmp 0 4]) Tryz.func5 rfl Tryz.ntmps5 (by kernel_rfl) rfl (by decide) F5 (np := 0) ?_ ?_
 · intro ts h; unfold F5; split <;> first | rfl | (simp at h; done)
 intro ts H r hF hwf
 unfold F5 at hF
 split at hF <;> try (cases hF; done)
 cases hF
 have hA := appl_c [] tx0 7 true (by simp) rfl
 rw [live_app] at hA
 have hL := list_c [live0, live1] (by simp) rfl
 have hSp := spend_vc [live0, live1] ⟨zH, 0⟩ (by simp) rfl
 rw [live_spend] at hSp
 have hN : G15 [.bx (.st [.own 1]), .sq 37 ([live0, live1].map coinT)] [.ptr 0 0 []] = some (vwH [live0, live1], .t (.int .i64 2)) := by
   show G15 (vwH [live0, live1]) _ = _
   simp only [G15, inv_of vwH_inj]
   rfl
 have e0 : coinT live0 = .st [.st [.ba 32 (nmH tx0).1, .int .u32 0], .st [.int .u64 1, .by []], .int .u32 7, .bool true] := rfl
 have e1 : coinT live1 = .st [.st [.ba 32 (nmH tx0).1, .int .u32 1], .st [.int .u64 2, .by []], .int .u32 7, .bool true] := rfl
 have et : txT tx0 = .st [.int .u32 0, .sq 35 [], .sq 2 [.st [.int .u64 1, .by []], .st [.int .u64 2, .by []]], .int .u32 0] := rfl
 have h7 : ((7 : UInt32).toNat : Int) = 7 := rfl
 have h0 : ((0 : UInt32).toNat : Int) = 0 := rfl
 have hz : zH.1 = zby 32 := rfl
 simp only [vwH, vwN, List.map_cons, List.map_nil, e0, e1, et, h7, h0, hz, dCoin_T, List.cons_append, List.nil_append] at hA hL hSp hN
 generalize nmH tx0 = N at *
 repeat refine St (And.intro @F17.eq_def <| And.intro @vwH.eq_def <| And.intro @List.map_nil.{0, 0} <| And.intro hA <| And.intro hL <| And.intro hSp <| hN) ct5 ?_
 refine AWP.sK (l1 := [_, _, _, _]) (And.intro hA <| And.intro hL <| And.intro hSp <| hN) ct5 (Weak.trans (Weak.freeze 2) (Weak.thawS (y := .sq 2 [.st [.int .u64 1, .by []], .st [.int .u64 2, .by []]]) 14 rfl)) ?_
 show AWP _ _ _ _ _ _
 repeat refine St (And.intro @F17.eq_def <| And.intro @vwH.eq_def <| And.intro @List.map_nil.{0, 0} <| And.intro hA <| And.intro hL <| And.intro hSp <| hN) ct5 ?_
 exact AWP.ret (Fin trivial [] [])
end Go.Fw

end

section
namespace Go.Fw
open Go Go.Proofs
def F77 : Fun
 | [.by b, .int .u64 n, .int .i64 m] => if b.length ≤ 549755813000 ∧ 0 ≤ m ∧ m ≤ 16 then some ([.by (b ++ le m.toNat n)], .own 0) else none
 | _ => none
theorem ct77 : CT [] [0, 1, 2, 6, 7, 8, 14] [] := ⟨GClOk.nil _⟩
theorem c77 : ACon Tryz.prog 77 F77 := by
 refine aconc E_ok (rs := [.tmp 6 37]) Tryz.func77 rfl Tryz.ntmps77 (by kernel_rfl) rfl (by decide) F77 (np := 3) ?_ ?_
 · intro ts h; unfold F77; split <;> first | rfl | (simp at h; done)
 intro ts H r hF hwf
 unfold F77 at hF
 split at hF <;> try (cases hF; done)
 rename_i b n m
 split at hF
 case isFalse => cases hF
 rename_i hc
 obtain ⟨hb, h0, h1⟩ := hc
 cases hF
 have hn := inK_u64 (hwf (.int .u64 n) (by simp))
 repeat refine St trivial ct77 ?_
 refine AWP.loop (G := { k : Nat // k ≤ m.toNat }) (fun k => ⟨[(1, .t (.int .u64 (shrB k.1 n))), (2, .t (.int .i64 m)), (7, .own 0), (8, .t (.int .i64 (k.1 : Int)))], [.by (b ++ le k.1 n)]⟩)
   (fun k => m.toNat - k.1) ⟨0, by omega⟩ (Wt (And.intro (And.intro @shrB.eq_1 <| @shrB.eq_2) <| (And.intro @le.eq_1 <| @le.eq_2)) [1, 2, 7, 8] [1]) ?_
 intro ⟨k, hk⟩
 dsimp only
 by_cases hlt : (k : Int) < m
 · have hl : (b ++ le k n).length ≤ 549755813100 := by simp [le_len]; omega
   have hr := shrB_range k n hn.1 hn.2
   have hq : IntKind.u64.wrap ((shrB k n).tdiv 256) = (shrB k n).fdiv 256 := by
     rw [tdiv_256 hr.1]
     have := shrB_range (k + 1) n hn.1 hn.2
     exact wrap_u64 this.1 this.2
   repeat refine St (And.intro hq <| @le_len) ct77 ?_
   exact ⟨⟨k + 1, by omega⟩, (Wt (And.intro (And.intro @shrB.eq_1 <| @shrB.eq_2) <| And.intro (And.intro @le.eq_1 <| @le.eq_2) <| @List.append_assoc.{0}) [1, 2, 7, 8] [2]), by simp only; omega⟩
 · obtain rfl : k = m.toNat := by omega
   repeat refine St trivial ct77 ?_
   exact AWP.ret (Fin trivial [] [0])
theorem put_c {b : List UInt8} (n : Int) (m : Int) (hb : b.length ≤ 549755813000) (h0 : 0 ≤ m) (h1 : m ≤ 16) : F77 [.by b, .int .u64 n, .int .i64 m] = some ([.by (b ++ le m.toNat n)], .own 0) := if_pos ⟨hb, h0, h1⟩
def F78 : Fun
 | [.by b, .int .u64 n] => if b.length ≤ 549755812000 then some ([.by (b ++ sizeB n)], .own 0) else none
 | _ => none
theorem ct78 : CT [(77, ⟨[false, false, false], treeG F77⟩)] [0, 1, 4, 5, 11, 18] [] := ⟨(.cons c77.g (.nil _))⟩
theorem c78 : ACon Tryz.prog 78 F78 := by
 refine aconc E_ok (rs := [.tmp 4 37]) Tryz.func78 rfl Tryz.ntmps78 (by kernel_rfl) rfl (by decide) F78 (np := 2) ?_ ?_
 · intro ts h; unfold F78; split <;> first | rfl | (simp at h; done)
 intro ts H r hF hwf
 unfold F78 at hF
 split at hF <;> try (cases hF; done)
 rename_i b n
 split at hF
 case isFalse => cases hF
 rename_i hc
 have hb := hc
 cases hF
 have hn := inK_u64 (hwf (.int .u64 n) (by simp))
 have h8 : ∀ c : Int, F77 [.by b, .int .u64 c, .int .i64 1] = some ([.by (b ++ le 1 c)], .own 0) := fun c => put_c c 1 (by omega) (by omega) (by omega)
 have hl : ∀ c : Int, (b ++ le 1 c).length ≤ 549755813000 := fun c => by simp [le_len]; omega
 have h16 : ∀ c d : Int, F77 [.by (b ++ le 1 c), .int .u64 d, .int .i64 2] = some ([.by (b ++ le 1 c ++ le 2 d)], .own 0) := fun c d => put_c d 2 (hl c) (by omega) (by omega)
 have h32 : ∀ c d : Int, F77 [.by (b ++ le 1 c), .int .u64 d, .int .i64 4] = some ([.by (b ++ le 1 c ++ le 4 d)], .own 0) := fun c d => put_c d 4 (hl c) (by omega) (by omega)
 have h64 : ∀ c d : Int, F77 [.by (b ++ le 1 c), .int .u64 d, .int .i64 8] = some ([.by (b ++ le 1 c ++ le 8 d)], .own 0) := fun c d => put_c d 8 (hl c) (by omega) (by omega)
 by_cases h1 : n < 253
 · repeat refine St h8 ct78 ?_
   exact AWP.ret (Fin (And.intro @sizeB.eq_def <| h1) [] [0])
 by_cases h2 : n < 65536
 · repeat refine St (And.intro h8 <| h16) ct78 ?_
   exact AWP.ret (Fin (And.intro @sizeB.eq_def <| And.intro h1 <| And.intro h2 <| @List.append_assoc.{0}) [] [1])
 by_cases h3 : n < 4294967296
 · repeat refine St (And.intro h8 <| h32) ct78 ?_
   exact AWP.ret (Fin (And.intro @sizeB.eq_def <| And.intro h1 <| And.intro h2 <| And.intro h3 <| @List.append_assoc.{0}) [] [1])
 repeat refine St (And.intro h8 <| h64) ct78 ?_
 exact AWP.ret (Fin (And.intro @sizeB.eq_def <| And.intro h1 <| And.intro h2 <| And.intro h3 <| @List.append_assoc.{0}) [] [1])
def F79 : Fun
 | [.by b, .by x] => if b.length + x.length ≤ 549755800000 then some ([.by (b ++ sizeB x.length ++ x)], .own 0) else none
 | _ => none
theorem ct79 : CT [(78, ⟨[false, false], treeG F78⟩)] [0, 1, 4, 5] [] := ⟨(.cons c78.g (.nil _))⟩
theorem c79 : ACon Tryz.prog 79 F79 := by
 refine aconc E_ok (rs := [.tmp 4 37]) Tryz.func79 rfl Tryz.ntmps79 (by kernel_rfl) rfl (by decide) F79 (np := 2) ?_ ?_
 · intro ts h; unfold F79; split <;> first | rfl | (simp at h; done)
 intro ts H r hF hwf
 unfold F79 at hF
 split at hF <;> try (cases hF; done)
 rename_i b x
 split at hF
 case isFalse => cases hF
 rename_i hc
 have hb := hc
 cases hF
 have hs := sizeB_len (x.length : Int)
 have h : F78 [.by b, .int .u64 (x.length : Int)] = some ([.by (b ++ sizeB x.length)], .own 0) := if_pos (by omega)
 have hl : (b ++ sizeB x.length).length ≤ 549755812000 := by simp; omega
 repeat refine St h ct79 ?_
 exact AWP.ret (Fin trivial [] [1])
def F75 : Fun
 | [.by b, .sq 1 xs] => match asBys xs with
   | some l => if b.length + (flat l).length ≤ 549755700000 then some ([.by (b ++ sizeB l.length ++ flat l)], .own 0) else none
   | none => none
 | _ => none
theorem ct75 : CT [(78, ⟨[false, false], treeG F78⟩), (79, ⟨[false, false], treeG F79⟩)] [0, 1, 4, 5, 6, 15] [] := ⟨(.cons c78.g (.cons c79.g (.nil _)))⟩
theorem c75 : ACon Tryz.prog 75 F75 := by
 refine aconc E_ok (rs := [.tmp 4 37]) Tryz.func75 rfl Tryz.ntmps75 (by kernel_rfl) rfl (by decide) F75 (np := 2) ?_ ?_
 · intro ts h; unfold F75; split <;> first | rfl | (simp at h; done)
 intro ts H r hF hwf
 unfold F75 at hF
 split at hF <;> try (cases hF; done)
 rename_i b xs
 split at hF <;> try (cases hF; done)
 rename_i l hl
 split at hF
 case isFalse => cases hF
 rename_i hc
 have hb := hc
 cases hF
 obtain rfl := asBys_inv hl
 have hlen := len_le_flat l
 have hs := sizeB_len (l.length : Int)
 have h : F78 [.by b, .int .u64 (l.length : Int)] = some ([.by (b ++ sizeB l.length)], .own 0) := if_pos (by omega)
 repeat refine St h ct75 ?_
 refine AWP.loop (G := { k : Nat // k ≤ l.length }) (fun k => ⟨[(1, .t (.sq 1 (l.map .by))), (5, .own 0), (6, .t (.int .i64 (k.1 : Int)))], [.by (b ++ sizeB l.length ++ flat (l.take k.1))]⟩)
   (fun k => l.length - k.1) ⟨0, by omega⟩ (Wt (And.intro @List.take_zero.{0} <| (And.intro @flat.eq_1 <| @flat.eq_2)) [1, 5, 6] [0]) ?_
 intro ⟨k, hk⟩
 dsimp only
 by_cases hlt : (k : Int) < (l.length : Int)
 · have hlt' : k < l.length := by omega
   have hget := map_getD l k hlt'
   have hfl := flat_get_len l k hlt'
   have hft := flat_take l k hlt'
   have h2 : F79 [.by (b ++ sizeB l.length ++ flat (l.take k)), .by (l.getD k [])] = some ([.by (b ++ sizeB l.length ++ flat (l.take k) ++ sizeB (l.getD k []).length ++ l.getD k [])], .own 0) := if_pos (by simp only [List.length_append]; omega)
   repeat refine St (And.intro hlt' <| And.intro hget <| h2) ct75 ?_
   exact ⟨⟨k + 1, by omega⟩, (Wt (And.intro hft <| @List.append_assoc.{0}) [1, 5, 6] [1]), by simp only; omega⟩
 · obtain rfl : k = l.length := by omega
   repeat refine St trivial ct75 ?_
   exact AWP.ret (Fin (@List.take_length.{0}) [] [0])
end Go.Fw

end

section
namespace Go.Fw
open Go Go.Proofs
theorem wordR (a b c d : UInt32) : ((a <<< 8 ||| b) <<< 8 ||| c) <<< 8 ||| d = a <<< 24 ||| b <<< 16 ||| c <<< 8 ||| d := by
 have h1 : ∀ x : UInt32, x <<< 8 <<< 8 = x <<< 16 := fun x => by
   rw [← UInt32.shiftLeft_add (by decide) (by decide) (by decide)]; rfl
 have h2 : ∀ x : UInt32, x <<< 16 <<< 8 = x <<< 24 := fun x => by
   rw [← UInt32.shiftLeft_add (by decide) (by decide) (by decide)]; rfl
 simp only [UInt32.shiftLeft_or, h1, h2]
def F102 : Fun
 | [.int .u32 n, .int .u64 k] => if 1 ≤ k ∧ k ≤ 31 then some ([], .t (u32T (tr (UInt32.ofNat n.toNat) k.toNat))) else none
 | _ => none
theorem ct102 : CT [] [0, 1, 4] [] := ⟨GClOk.nil _⟩
theorem c102 : ACon Tryz.prog 102 F102 := by
 refine aconc E_ok (rs := [.tmp 4 33]) Tryz.func102 rfl Tryz.ntmps102 (by kernel_rfl) rfl (by decide) F102 (np := 2) ?_ ?_
 · intro ts h; unfold F102; split <;> first | rfl | (simp at h; done)
 intro ts H r hF hwf
 unfold F102 at hF
 split at hF <;> try (cases hF; done)
 rename_i n k
 split at hF
 case isFalse => cases hF
 rename_i hc
 obtain ⟨h1, h2⟩ := hc
 cases hF
 have hn := u32_of (by have := hwf _ (List.mem_cons_self); simpa only [T.wf] using this : inK .u32 n)
 generalize UInt32.ofNat n.toNat = x at *
 subst hn
 obtain ⟨r, rfl⟩ : ∃ r : Nat, k = (r : Int) := ⟨k.toNat, by omega⟩
 have hk : IntKind.u64.wrap (32 - (r : Int)) = ((32 - r : Nat) : Int) := by rw [wrap_u64 (by omega) (by omega)]; omega
 have h4 := u32_shl x (32 - r) (by omega)
 have h5 := u32_shr x r (by omega)
 have e0 : ¬ (r : Int) < 0 := by omega
 have e1 : ¬ ((32 - r : Nat) : Int) < 0 := by omega
 repeat refine St (And.intro hk <| And.intro e0 <| And.intro e1 <| And.intro h4 <| And.intro h5 <| @u32_or) ct102 ?_
 exact AWP.ret (Fin (And.intro @u32T.eq_def <| @tr.eq_def) [] [])
theorem turn_c (x : UInt32) (r : Nat) (h : 1 ≤ r) (h1 : r ≤ 31) : F102 [.int .u32 (x.toNat : Int), .int .u64 (r : Int)] = some ([], .t (.int .u32 ((tr x r).toNat : Int))) := by
 simp only [F102]
 rw [if_pos ⟨by omega, by omega⟩]
 simp [u32T]
theorem turn2 (x : UInt32) : F102 [.int .u32 (x.toNat : Int), .int .u64 2] = some ([], .t (.int .u32 ((tr x 2).toNat : Int))) := turn_c x 2 (by omega) (by omega)
theorem turn6 (x : UInt32) : F102 [.int .u32 (x.toNat : Int), .int .u64 6] = some ([], .t (.int .u32 ((tr x 6).toNat : Int))) := turn_c x 6 (by omega) (by omega)
theorem turn7 (x : UInt32) : F102 [.int .u32 (x.toNat : Int), .int .u64 7] = some ([], .t (.int .u32 ((tr x 7).toNat : Int))) := turn_c x 7 (by omega) (by omega)
theorem turn11 (x : UInt32) : F102 [.int .u32 (x.toNat : Int), .int .u64 11] = some ([], .t (.int .u32 ((tr x 11).toNat : Int))) := turn_c x 11 (by omega) (by omega)
theorem turn13 (x : UInt32) : F102 [.int .u32 (x.toNat : Int), .int .u64 13] = some ([], .t (.int .u32 ((tr x 13).toNat : Int))) := turn_c x 13 (by omega) (by omega)
theorem turn17 (x : UInt32) : F102 [.int .u32 (x.toNat : Int), .int .u64 17] = some ([], .t (.int .u32 ((tr x 17).toNat : Int))) := turn_c x 17 (by omega) (by omega)
theorem turn18 (x : UInt32) : F102 [.int .u32 (x.toNat : Int), .int .u64 18] = some ([], .t (.int .u32 ((tr x 18).toNat : Int))) := turn_c x 18 (by omega) (by omega)
theorem turn19 (x : UInt32) : F102 [.int .u32 (x.toNat : Int), .int .u64 19] = some ([], .t (.int .u32 ((tr x 19).toNat : Int))) := turn_c x 19 (by omega) (by omega)
theorem turn22 (x : UInt32) : F102 [.int .u32 (x.toNat : Int), .int .u64 22] = some ([], .t (.int .u32 ((tr x 22).toNat : Int))) := turn_c x 22 (by omega) (by omega)
theorem turn25 (x : UInt32) : F102 [.int .u32 (x.toNat : Int), .int .u64 25] = some ([], .t (.int .u32 ((tr x 25).toNat : Int))) := turn_c x 25 (by omega) (by omega)
def F92 : Fun
 | [.by b] => if b.length ≤ 1000000000 then some ([.by (padS b b.length)], .own 0) else none
 | _ => none
theorem ct92 : CT [] [0, 2, 3, 4, 5, 15, 24] [] := ⟨GClOk.nil _⟩
theorem c92 : ACon Tryz.prog 92 F92 := by
 refine aconc E_ok (rs := [.tmp 2 37]) Tryz.func92 rfl Tryz.ntmps92 (by kernel_rfl) rfl (by decide) F92 (np := 1) ?_ ?_
 · intro ts h; unfold F92; split <;> first | rfl | (simp at h; done)
 intro ts H r hF hwf
 unfold F92 at hF
 split at hF <;> try (cases hF; done)
 rename_i r
 split at hF
 case isFalse => cases hF
 rename_i hc
 have hr := hc
 cases hF
 have e128 : ∀ l : List UInt8, (l ++ [128]).length = l.length + 1 := fun l => by simp
 repeat refine St (And.intro hr <| e128) ct92 ?_
 have hp64 : (r ++ UInt8.ofNat 128 :: repl (padK r.length) 0).length % 64 = 56 := by simp only [List.length_append, List.length_cons, repl_len, padK]; omega
 refine AWP.loop (G := { k : Nat // k ≤ padK r.length }) (fun k => ⟨[(0, .t (.by r)), (3, .own 0)], [.by (r ++ (UInt8.ofNat 128 :: repl k.1 0))]⟩) (fun k => padK r.length - k.1) ⟨0, by omega⟩ (Wt @repl_0 [0, 3] [3]) ?_
 intro ⟨k, hk⟩
 dsimp only
 obtain ⟨L, hL⟩ : ∃ L, r ++ (UInt8.ofNat 128 :: repl k (0 : UInt8)) = L := ⟨_, rfl⟩
 have hLl : L.length = r.length + 1 + k := by rw [← hL]; simp only [List.length_append, List.length_cons, repl_len]; omega
 have hnx : L ++ [UInt8.ofNat 0] = r ++ (UInt8.ofNat 128 :: repl (k + 1) 0) := by rw [← hL, ← repl_snoc]; simp
 rw [hL]
 have hrem : IntKind.i64.wrap (Int.tmod (L.length : Int) 64) = ((L.length % 64 : Nat) : Int) := by
   have : Int.tmod (L.length : Int) 64 = ((L.length % 64 : Nat) : Int) := by rw [Int.tmod_eq_emod_of_nonneg (by omega)]; omega
   rw [this, wrap_i64 (by omega) (by omega)]
 have hkK : padK r.length = (119 - r.length % 64) % 64 := rfl
 by_cases hd : L.length % 64 = 56
 · have hkk : k = padK r.length := by omega
   have hd' : (((L.length % 64 : Nat) : Int) != 56) = false := by simp; omega
   rw [← hkk] at hp64
   have hpad : padS r r.length = L ++ be8 (r.length * 8) 8 := by rw [← hL, hkk]; rfl
   have hcv : IntKind.u64.wrap (r.length : Int) = (r.length : Int) := wrap_u64 (by omega) (by omega)
   have hmul : IntKind.u64.wrap ((r.length : Int) * 8) = ((r.length * 8 : Nat) : Int) := by rw [wrap_u64 (by omega) (by omega)]; omega
   repeat refine St (And.intro hrem <| And.intro hd' <| And.intro hcv <| hmul) ct92 ?_
   refine AWP.loop (G := { j : Nat // j ≤ 8 }) (fun j => ⟨[(3, .own 0), (4, .t (.int .u64 ((r.length * 8 : Nat) : Int))), (5, .t (.int .i64 (j.1 : Int)))], [.by (L ++ be8 (r.length * 8) j.1)]⟩) (fun j => 8 - j.1) ⟨0, by omega⟩ (Wt (show be8 (r.length * 8) 0 = [] from rfl) [3, 4, 5] [0]) ?_
   intro ⟨j, hj⟩
   dsimp only
   have hbl := be8_len (r.length * 8) j
   by_cases hj8 : (j : Int) < 8
   · have hbyte := beB_eq r.length j (by omega) (by omega)
     have hm1 : IntKind.i64.wrap (8 * (j : Int)) = ((8 * j : Nat) : Int) := by rw [wrap_i64 (by omega) (by omega)]; omega
     have hm2 : IntKind.i64.wrap (56 - ((8 * j : Nat) : Int)) = ((56 - 8 * j : Nat) : Int) := by rw [wrap_i64 (by omega) (by omega)]; omega
     have hm3 : IntKind.u64.wrap ((56 - 8 * j : Nat) : Int) = ((56 - 8 * j : Nat) : Int) := wrap_u64 (by omega) (by omega)
     have hnn : ¬ ((56 - 8 * j : Nat) : Int) < 0 := by omega
     have hk8 : IntKind.i64.wrap ((j : Int) + 1) = ((j + 1 : Nat) : Int) := by rw [wrap_i64 (by omega) (by omega)]; omega
     have hsn : (L ++ be8 (r.length * 8) j) ++ [beB (r.length * 8) j] = L ++ be8 (r.length * 8) (j + 1) := by rw [List.append_assoc, be8_snoc]
     have hal : (L ++ be8 (r.length * 8) j).length ≤ 1000000300 := by simp [hbl]; omega
     obtain ⟨M, hM⟩ : ∃ M, L ++ be8 (r.length * 8) j = M := ⟨_, rfl⟩
     rw [hM] at hal hsn ⊢
     repeat refine St (And.intro hj8 <| And.intro hm1 <| And.intro hm2 <| And.intro hm3 <| And.intro hnn <| And.intro hbyte <| And.intro hk8 <| hal) ct92 ?_
     exact ⟨⟨j + 1, by omega⟩, (Wt hsn [3, 4, 5] [2]), by simp only; omega⟩
   · obtain rfl : j = 8 := by omega
     rw [← hpad]
     repeat refine St hj8 ct92 ?_
     exact AWP.ret (Fin trivial [] [0])
 · have hd' : (((L.length % 64 : Nat) : Int) != 56) = true := by simp; omega
   have hLs : L.length ≤ 1000000200 := by omega
   repeat refine St (And.intro hrem <| And.intro hd' <| hLs) ct92 ?_
   exact ⟨⟨k + 1, by omega⟩, (Wt hnx [0, 3] [2]), by simp only; omega⟩
end Go.Fw

end

section
namespace Go.Fw
open Go Go.Proofs
def mixV (s v : S8) (i : Nat) : List T := ((s.add v).l.take i ++ v.l.drop i).map u32T
theorem mixV_len (s v : S8) : ∀ i, i ≤ 8 → (mixV s v i).length = 8
 | 0, _ => rfl | 1, _ => rfl | 2, _ => rfl | 3, _ => rfl | 4, _ => rfl | 5, _ => rfl | 6, _ => rfl | 7, _ => rfl | 8, _ => rfl
 | i + 9, h => by omega
theorem mixV_get (s v : S8) : ∀ i, i < 8 → (mixV s v i).getD i default = .int .u32 ((v.l.getD i 0).toNat : Int)
 | 0, _ => rfl | 1, _ => rfl | 2, _ => rfl | 3, _ => rfl | 4, _ => rfl | 5, _ => rfl | 6, _ => rfl | 7, _ => rfl
 | i + 8, h => by omega
theorem mixV_set0 (s v : S8) : ∀ i, i < 8 → (mixV s v i).set i (.int .u32 ((s.l.getD i 0 + v.l.getD i 0).toNat : Int)) = mixV s v (i + 1)
 | 0, _ => rfl | 1, _ => rfl | 2, _ => rfl | 3, _ => rfl | 4, _ => rfl | 5, _ => rfl | 6, _ => rfl | 7, _ => rfl
 | i + 8, h => by omega
theorem mixV_set (s v : S8) (i : Nat) (h : i < 8) : (mixV s v i).set i (.int .u32 ((v.l.getD i 0 + s.l.getD i 0).toNat : Int)) = mixV s v (i + 1) := by
 rw [UInt32.add_comm]; exact mixV_set0 s v i h
theorem mixV_0 (s v : S8) : mixV s v 0 = a8 v := rfl
theorem mixV_8 (s v : S8) : mixV s v 8 = (s.add v).l.map u32T := rfl
theorem clean_u32 (l : List UInt32) : T.cleanL (l.map u32T) = true := by
 induction l with
 | nil => rfl
 | cons x l ih => simp only [List.map_cons, T.cleanL, ih]; rfl
theorem sch_snoc (b : List UInt8) (t : Nat) : (sch b (t + 1)).map u32T = (sch b t).map u32T ++ [u32T (next b (sch b t) t)] := by simp [sch]
open Classical in
noncomputable def F93 : Fun
 | [.sq 1 hs, .sq 1 ks, .by b] => match asS8 hs with
   | some s => if ks = kS.map u32T ∧ b.length = 64 then some ([.sq 1 ((blkS s b).l.map u32T)], .own 0) else none
   | none => none
 | _ => none
theorem block_c (s : S8) {b : List UInt8} (h : b.length = 64) : F93 [.sq 1 (s.l.map u32T), .sq 1 (kS.map u32T), .by b] = some ([.sq 1 ((blkS s b).l.map u32T)], .own 0) := by
 simp only [F93, asS8_map]; rw [if_pos ⟨trivial, h⟩]
theorem ct93 : CT [(102, ⟨[false, false], treeG F102⟩)] [0, 1, 2, 6, 7, 8, 9, 10, 11, 12, 13, 14, 15, 16, 17, 18, 19, 20, 23, 27, 112, 211] [(6, (List.cons (⟨0, [7], [], []⟩ : Info) <| List.cons (⟨0, [2], [], []⟩ : Info) <| List.cons (⟨0, [8], [], []⟩ : Info) <| List.cons (⟨0, [30], [], []⟩ : Info) <| List.cons (⟨1, [29, 31], [], []⟩ : Info) <| List.cons (⟨1, [32], [4], []⟩ : Info) <| List.cons (⟨1, [33], [4, 5], []⟩ : Info) <| List.cons (⟨0, [34], [4, 5, 6], []⟩ : Info) <| List.cons (⟨0, [2], [], []⟩ : Info) <| List.cons (⟨0, [8], [], []⟩ : Info) <| List.cons (⟨0, [37], [], []⟩ : Info) <| List.cons (⟨0, [38], [], []⟩ : Info) <| List.cons (⟨1, [36, 39], [], []⟩ : Info) <| List.cons (⟨1, [40], [12], []⟩ : Info) <| List.cons (⟨1, [41], [12, 13], []⟩ : Info) <| List.cons (⟨0, [42], [12, 13, 14], []⟩ : Info) <| List.cons (⟨0, [35, 43], [4, 5, 6, 12, 13, 14], []⟩ : Info) <| List.cons (⟨0, [2], [], []⟩ : Info) <| List.cons (⟨0, [8], [], []⟩ : Info) <| List.cons (⟨0, [46], [], []⟩ : Info) <| List.cons (⟨0, [47], [], []⟩ : Info) <| List.cons (⟨1, [45, 48], [], []⟩ : Info) <| List.cons (⟨1, [49], [21], []⟩ : Info) <| List.cons (⟨1, [50], [21, 22], []⟩ : Info) <| List.cons (⟨0, [51], [21, 22, 23], []⟩ : Info) <| List.cons (⟨0, [44, 52], [4, 5, 6, 12, 13, 14, 21, 22, 23], []⟩ : Info) <| List.cons (⟨0, [2], [], []⟩ : Info) <| List.cons (⟨0, [8], [], []⟩ : Info) <| List.cons (⟨0, [55], [], []⟩ : Info) <| List.cons (⟨0, [56], [], []⟩ : Info) <| List.cons (⟨1, [54, 57], [], []⟩ : Info) <| List.cons (⟨1, [58], [30], []⟩ : Info) <| List.cons (⟨1, [59], [30, 31], []⟩ : Info) <| List.cons (⟨0, [53, 60], [4, 5, 6, 12, 13, 14, 21, 22, 23, 30, 31, 32], []⟩ : Info) <| List.cons (⟨1, [61], [4, 5, 6, 12, 13, 14, 21, 22, 23, 30, 31, 32], []⟩ : Info) <| List.cons (⟨2, [28, 62], [4, 5, 6, 12, 13, 14, 21, 22, 23, 30, 31, 32, 34], []⟩ : Info) <| List.cons (⟨0, [63], [4, 5, 6, 12, 13, 14, 21, 22, 23, 30, 31, 32, 34, 35], []⟩ : Info) <| [])), (7, [⟨0, [7], [], []⟩, ⟨0, [8], [], []⟩, ⟨0, [65], [], []⟩, ⟨1, [64, 66], [], []⟩, ⟨1, [67], [3], []⟩, ⟨0, [7], [], []⟩, ⟨0, [8], [], []⟩, ⟨0, [70], [], []⟩, ⟨1, [69, 71], [], []⟩, ⟨1, [72], [8], []⟩, ⟨0, [68], [3, 4], []⟩, ⟨0, [73], [3, 4, 8, 9], []⟩]), (10, [⟨0, [7], [], []⟩, ⟨0, [12], [], []⟩, ⟨0, [7], [], []⟩, ⟨0, [8], [], []⟩, ⟨0, [93], [], []⟩, ⟨1, [92, 94], [], []⟩, ⟨1, [95], [5], []⟩, ⟨0, [91, 96], [5, 6], []⟩, ⟨0, [11], [], []⟩, ⟨0, [97, 98], [5, 6], []⟩, ⟨0, [7], [], []⟩, ⟨0, [8], [], []⟩, ⟨0, [101], [], []⟩, ⟨1, [100, 102], [], []⟩, ⟨1, [103], [13], []⟩, ⟨0, [99, 104], [5, 6, 13, 14], []⟩, ⟨1, [105], [5, 6, 13, 14], []⟩, ⟨2, [90, 106], [5, 6, 13, 14, 16], []⟩, ⟨0, [107], [5, 6, 13, 14, 16, 17], []⟩]), (15, [⟨0, [13], [], []⟩, ⟨1, [115], [], []⟩, ⟨1, [116], [1], []⟩, ⟨0, [13], [], []⟩, ⟨1, [118], [], []⟩, ⟨1, [119], [4], []⟩, ⟨0, [13], [], []⟩, ⟨1, [121], [], []⟩, ⟨1, [122], [7], []⟩, ⟨0, [117], [1, 2], []⟩, ⟨0, [120], [1, 2, 4, 5], []⟩, ⟨0, [123], [1, 2, 4, 5, 7, 8], []⟩]), (16, (List.cons (⟨0, [13], [], []⟩ : Info) <| List.cons (⟨1, [124], [], []⟩ : Info) <| List.cons (⟨1, [125], [1], []⟩ : Info) <| List.cons (⟨0, [17], [], []⟩ : Info) <| List.cons (⟨1, [127], [], []⟩ : Info) <| List.cons (⟨0, [17], [], []⟩ : Info) <| List.cons (⟨1, [129], [4], []⟩ : Info) <| List.cons (⟨0, [128, 130], [4, 6], []⟩ : Info) <| List.cons (⟨0, [17], [], []⟩ : Info) <| List.cons (⟨1, [132], [4, 6], []⟩ : Info) <| List.cons (⟨0, [131, 133], [4, 6, 9], []⟩ : Info) <| List.cons (⟨0, [126, 134], [1, 2, 4, 6, 9], []⟩ : Info) <| List.cons (⟨0, [17], [], []⟩ : Info) <| List.cons (⟨0, [13], [], []⟩ : Info) <| List.cons (⟨1, [137], [], []⟩ : Info) <| List.cons (⟨1, [138], [14], []⟩ : Info) <| List.cons (⟨0, [136, 139], [14, 15], []⟩ : Info) <| List.cons (⟨0, [17], [], []⟩ : Info) <| List.cons (⟨0, [141], [], []⟩ : Info) <| List.cons (⟨0, [13], [], []⟩ : Info) <| List.cons (⟨1, [143], [], []⟩ : Info) <| List.cons (⟨1, [144], [20], []⟩ : Info) <| List.cons (⟨0, [142, 145], [20, 21], []⟩ : Info) <| List.cons (⟨0, [140, 146], [14, 15, 20, 21], []⟩ : Info) <| List.cons (⟨0, [135, 147], [1, 2, 4, 6, 9, 14, 15, 20, 21], []⟩ : Info) <| List.cons (⟨0, [1], [], []⟩ : Info) <| List.cons (⟨0, [14], [], []⟩ : Info) <| List.cons (⟨1, [149, 150], [], []⟩ : Info) <| List.cons (⟨1, [151], [27], []⟩ : Info) <| List.cons (⟨0, [148, 152], [1, 2, 4, 6, 9, 14, 15, 20, 21, 27, 28], []⟩ : Info) <| List.cons (⟨0, [7], [], []⟩ : Info) <| List.cons (⟨0, [14], [], []⟩ : Info) <| List.cons (⟨1, [154, 155], [], []⟩ : Info) <| List.cons (⟨1, [156], [32], []⟩ : Info) <| List.cons (⟨0, [153, 157], [1, 2, 4, 6, 9, 14, 15, 20, 21, 27, 28, 32, 33], []⟩ : Info) <| List.cons (⟨0, [158], [1, 2, 4, 6, 9, 14, 15, 20, 21, 27, 28, 32, 33], []⟩ : Info) <| [])), (17, [⟨0, [15], [], []⟩, ⟨1, [159], [], []⟩, ⟨0, [15], [], []⟩, ⟨1, [161], [1], []⟩, ⟨0, [160, 162], [1, 3], []⟩, ⟨0, [15], [], []⟩, ⟨1, [164], [1, 3], []⟩, ⟨0, [163, 165], [1, 3, 6], []⟩, ⟨0, [15], [], []⟩, ⟨0, [13], [], []⟩, ⟨1, [168], [], []⟩, ⟨1, [169], [10], []⟩, ⟨0, [167, 170], [10, 11], []⟩, ⟨0, [15], [], []⟩, ⟨0, [16], [], []⟩, ⟨0, [172, 173], [], []⟩, ⟨0, [171, 174], [10, 11], []⟩, ⟨0, [13], [], []⟩, ⟨1, [176], [], []⟩, ⟨1, [177], [18], []⟩, ⟨0, [16], [], []⟩, ⟨0, [178, 179], [18, 19], []⟩, ⟨0, [175, 180], [10, 11, 18, 19], []⟩, ⟨0, [166, 181], [1, 3, 6, 10, 11, 18, 19], []⟩, ⟨0, [182], [1, 3, 6, 10, 11, 18, 19], []⟩]), (18, [⟨0, [18], [], []⟩, ⟨0, [19], [], []⟩, ⟨0, [183, 184], [], []⟩, ⟨0, [13], [], []⟩, ⟨1, [186], [], []⟩, ⟨1, [187], [4], []⟩, ⟨0, [13], [], []⟩, ⟨1, [189], [], []⟩, ⟨1, [190], [7], []⟩, ⟨0, [13], [], []⟩, ⟨1, [192], [], []⟩, ⟨1, [193], [10], []⟩, ⟨0, [13], [], []⟩, ⟨1, [195], [], []⟩, ⟨1, [196], [13], []⟩, ⟨0, [18], [], []⟩, ⟨0, [197, 198], [13, 14], []⟩, ⟨0, [13], [], []⟩, ⟨1, [200], [], []⟩, ⟨1, [201], [18], []⟩, ⟨0, [13], [], []⟩, ⟨1, [203], [], []⟩, ⟨1, [204], [21], []⟩, ⟨0, [13], [], []⟩, ⟨1, [206], [], []⟩, ⟨1, [207], [24], []⟩, ⟨1, [185, 188, 191, 194, 199, 202, 205, 208], [4, 5, 7, 8, 10, 11, 13, 14, 18, 19, 21, 22, 24, 25], []⟩, ⟨0, [209], [4, 5, 7, 8, 10, 11, 13, 14, 18, 19, 21, 22, 24, 25, 26], []⟩]), (22, [⟨0, [13], [], []⟩, ⟨0, [20], [], []⟩, ⟨0, [13], [], []⟩, ⟨0, [20], [], []⟩, ⟨1, [216, 217], [], []⟩, ⟨1, [218], [4], []⟩, ⟨0, [0], [], []⟩, ⟨0, [20], [], []⟩, ⟨1, [220, 221], [], []⟩, ⟨1, [222], [8], []⟩, ⟨0, [219, 223], [4, 5, 8, 9], []⟩, ⟨1, [214, 215], [4, 5, 8, 9], []⟩, ⟨2, [224, 225], [4, 5, 8, 9, 11], []⟩])] := ⟨(.cons c102.g (.nil _))⟩
set_option maxRecDepth 100000 in
set_option maxHeartbeats 4000000 in
theorem c93 : ACon Tryz.prog 93 F93 := by
 refine aconc E_ok (rs := [.tmp 6 130]) Tryz.func93 rfl Tryz.ntmps93 (by kernel_rfl) rfl (by decide) F93 (np := 3) ?_ ?_
 · intro ts h; unfold F93; split <;> first | rfl | (simp at h; done)
 intro ts H r hF hwf
 unfold F93 at hF
 split at hF <;> try (cases hF; done)
 rename_i hs ks b
 split at hF
 case h_2 => cases hF
 rename_i s hs
 split at hF
 case isFalse => cases hF
 rename_i hc
 obtain ⟨hk, hb⟩ := hc
 cases hF
 subst hk
 obtain rfl := asS8_inv hs
 repeat refine St trivial ct93 ?_
 refine AWP.loop (G := { t : Nat // t ≤ 64 }) (fun t => ⟨[(0, .t (.sq 1 (s.l.map u32T))), (1, .t (.sq 1 (kS.map u32T))), (2, .t (.by b)), (7, .own 0), (8, .t (.int .i64 (t.1 : Int)))], [.sq 1 ((sch b t.1).map u32T)]⟩) (fun t => 64 - t.1) ⟨0, by omega⟩ (Wt (And.intro @sch.eq_1 <| @sch.eq_2) [0, 1, 2, 7, 8] [0]) ?_
 intro ⟨t, ht⟩
 dsimp only
 have hsl : (List.map u32T (sch b t)).length = t := by simp [sch_len]
 by_cases hlt : (t : Int) < 64
 case pos =>
   have hk1 : IntKind.i64.wrap ((t : Int) + 1) = ((t + 1 : Nat) : Int) := by rw [wrap_i64 (by omega) (by omega)]; omega
   have hsn := sch_snoc b t
   by_cases h16 : (t : Int) < 16
   · have m4 : IntKind.i64.wrap (4 * (t : Int)) = ((4 * t : Nat) : Int) := by rw [wrap_i64 (by omega) (by omega)]; omega
     have m41 : IntKind.i64.wrap (((4 * t : Nat) : Int) + 1) = ((4 * t + 1 : Nat) : Int) := by rw [wrap_i64 (by omega) (by omega)]; omega
     have m42 : IntKind.i64.wrap (((4 * t : Nat) : Int) + 2) = ((4 * t + 2 : Nat) : Int) := by rw [wrap_i64 (by omega) (by omega)]; omega
     have m43 : IntKind.i64.wrap (((4 * t : Nat) : Int) + 3) = ((4 * t + 3 : Nat) : Int) := by rw [wrap_i64 (by omega) (by omega)]; omega
     have l0 : 4 * t < b.length := by omega
     have l1 : 4 * t + 1 < b.length := by omega
     have l2 : 4 * t + 2 < b.length := by omega
     have l3 : 4 * t + 3 < b.length := by omega
     have s24 := fun x => u32_shl x 24 (by omega)
     have s16 := fun x => u32_shl x 16 (by omega)
     have s8 := fun x => u32_shl x 8 (by omega)
     have hw : (b.getD (4 * t) 0).toUInt32 <<< UInt32.ofNat 24 ||| (b.getD (4 * t + 1) 0).toUInt32 <<< UInt32.ofNat 16 ||| (b.getD (4 * t + 2) 0).toUInt32 <<< UInt32.ofNat 8 ||| (b.getD (4 * t + 3) 0).toUInt32 = next b (sch b t) t := by
       unfold next word
       rw [if_pos (by omega), wordR]; rfl
     repeat refine St (And.intro hlt <| And.intro h16 <| And.intro m4 <| And.intro m41 <| And.intro m42 <| And.intro m43 <| And.intro l0 <| And.intro l1 <| And.intro l2 <| And.intro l3 <| And.intro @u8.eq_def <| And.intro @u32_of_u8 <| And.intro s24 <| And.intro s16 <| And.intro s8 <| And.intro @u32_or <| And.intro hsl <| hk1) ct93 ?_
     exact ⟨⟨t + 1, by omega⟩, (Wt (And.intro hsn <| And.intro hw <| @u32T.eq_def) [0, 1, 2, 7, 8] [2]), by simp only; omega⟩
   · have g15 : ((sch b t).map u32T).getD (t - 15) default = _ := u32T_getD (by rw [sch_len]; omega)
     have g2 : ((sch b t).map u32T).getD (t - 2) default = _ := u32T_getD (by rw [sch_len]; omega)
     have g7 : ((sch b t).map u32T).getD (t - 7) default = _ := u32T_getD (by rw [sch_len]; omega)
     have g16 : ((sch b t).map u32T).getD (t - 16) default = _ := u32T_getD (by rw [sch_len]; omega)
     have m15 : IntKind.i64.wrap ((t : Int) - 15) = ((t - 15 : Nat) : Int) := by rw [wrap_i64 (by omega) (by omega)]; omega
     have m2 : IntKind.i64.wrap ((t : Int) - 2) = ((t - 2 : Nat) : Int) := by rw [wrap_i64 (by omega) (by omega)]; omega
     have m7 : IntKind.i64.wrap ((t : Int) - 7) = ((t - 7 : Nat) : Int) := by rw [wrap_i64 (by omega) (by omega)]; omega
     have m16 : IntKind.i64.wrap ((t : Int) - 16) = ((t - 16 : Nat) : Int) := by rw [wrap_i64 (by omega) (by omega)]; omega
     have l15 : t - 15 < t := by omega
     have l2 : t - 2 < t := by omega
     have l7 : t - 7 < t := by omega
     have l16 : t - 16 < t := by omega
     have i15 : ((t - 15 : Nat) : Int) < (t : Int) := by omega
     have i2 : ((t - 2 : Nat) : Int) < (t : Int) := by omega
     have i7 : ((t - 7 : Nat) : Int) < (t : Int) := by omega
     have i16 : ((t - 16 : Nat) : Int) < (t : Int) := by omega
     have r3 := fun x => u32_shr x 3 (by omega)
     have r10 := fun x => u32_shr x 10 (by omega)
     have hw : sg1 ((sch b t).getD (t - 2) 0) + (sch b t).getD (t - 7) 0 + sg0 ((sch b t).getD (t - 15) 0) + (sch b t).getD (t - 16) 0 = next b (sch b t) t := by
       unfold next
       rw [if_neg (by omega)]
       ac_rfl
     have hs0 : ∀ x, tr x 7 ^^^ tr x 18 ^^^ x >>> UInt32.ofNat 3 = sg0 x := fun x => rfl
     have hs1 : ∀ x, tr x 17 ^^^ tr x 19 ^^^ x >>> UInt32.ofNat 10 = sg1 x := fun x => rfl
     repeat refine St (And.intro hlt <| And.intro h16 <| And.intro @g15 <| And.intro g2 <| And.intro g7 <| And.intro g16 <| And.intro m15 <| And.intro m2 <| And.intro m7 <| And.intro m16 <| And.intro l15 <| And.intro l2 <| And.intro l7 <| And.intro l16 <| And.intro i15 <| And.intro i2 <| And.intro i7 <| And.intro i16 <| And.intro r3 <| And.intro r10 <| And.intro @turn7 <| And.intro @turn18 <| And.intro @turn17 <| And.intro @turn19 <| And.intro @u32_xor <| And.intro @u32_add <| And.intro hs0 <| And.intro hs1 <| And.intro hsl <| hk1) ct93 ?_
     exact ⟨⟨t + 1, by omega⟩, (Wt (And.intro hsn <| And.intro hw <| @u32T.eq_def) [0, 1, 2, 7, 8] [2]), by simp only; omega⟩
 obtain rfl : t = 64 := by omega
 repeat refine St (And.intro hlt <| And.intro @a8_eq <| @a8.eq_def) ct93 ?_
 refine AWP.loop (G := { t : Nat // t ≤ 64 }) (fun t => ⟨[(0, .t (.sq 1 (s.l.map u32T))), (1, .t (.sq 1 (kS.map u32T))), (7, .own 0), (13, .own 1), (14, .t (.int .i64 (t.1 : Int)))], [.sq 1 ((sch b 64).map u32T), .sq 1 (a8 (rnds b s t.1))]⟩) (fun t => 64 - t.1) ⟨0, by omega⟩ (Wt (And.intro (And.intro @rnds.eq_1 <| @rnds.eq_2) <| And.intro @a8.eq_def <| @a8_eq) [0, 1, 7, 13, 14] [0, 2]) ?_
 intro ⟨t, ht⟩
 dsimp only
 by_cases hlt : (t : Int) < 64
 case neg =>
   obtain rfl : t = 64 := by omega
   repeat refine St hlt ct93 ?_
   refine AWP.loop (G := { i : Nat // i ≤ 8 }) (fun i => ⟨[(0, .t (.sq 1 (s.l.map u32T))), (13, .own 0), (20, .t (.int .i64 (i.1 : Int)))], [.sq 1 (mixV s (rnds b s 64) i.1)]⟩) (fun i => 8 - i.1) ⟨0, by omega⟩ (Wt @mixV_0 [0, 13, 20] [1]) ?_
   intro ⟨i, hi⟩
   dsimp only
   generalize hv : rnds b s 64 = v
   by_cases hl8 : (i : Int) < 8
   case neg =>
     obtain rfl : i = 8 := by omega
     have hfin : blkS s b = s.add v := by rw [← hv]; rfl
     repeat refine St hl8 ct93 ?_
     exact AWP.ret (Fin (And.intro @mixV_8 <| hfin) [] [0])
   have hi8 : i < 8 := by omega
   have hml := mixV_len s v i (by omega)
   have hsl : (List.map u32T s.l).length = 8 := rfl
   have g1 := mixV_get s v i hi8
   have g2 := a8_get s i hi8
   have g3 := mixV_set s v i hi8
   have hk1 : IntKind.i64.wrap ((i : Int) + 1) = ((i + 1 : Nat) : Int) := by rw [wrap_i64 (by omega) (by omega)]; omega
   repeat refine St (And.intro hl8 <| And.intro hi8 <| And.intro hml <| And.intro hsl <| And.intro g1 <| And.intro g2 <| And.intro g3 <| And.intro @u32_add <| And.intro hk1 <| @T.size.eq_def) ct93 ?_
   exact ⟨⟨i + 1, by omega⟩, (Wt trivial [0, 13, 20] [0]), by simp only; omega⟩
 have ht64 : t < 64 := by omega
 have hk1 : IntKind.i64.wrap ((t : Int) + 1) = ((t + 1 : Nat) : Int) := by rw [wrap_i64 (by omega) (by omega)]; omega
 have hkl : (List.map u32T kS).length = 64 := by simp [kS_len]
 have hwl : (List.map u32T (sch b 64)).length = 64 := by simp [sch_len]
 have hkg : (List.map u32T kS).getD t default = .int .u32 ((kS.getD t 0).toNat : Int) := u32T_getD (by rw [kS_len]; exact ht64)
 have hwg : (List.map u32T (sch b 64)).getD t default = .int .u32 (((sch b 64).getD t 0).toNat : Int) := u32T_getD (by rw [sch_len]; exact ht64)
 have hnx : rnds b s (t + 1) = rnd (rnds b s t) (kS.getD t 0) ((sch b 64).getD t 0) := rfl
 generalize rnds b s t = v at *
 generalize kS.getD t 0 = k at *
 generalize (sch b 64).getD t 0 = w at *
 repeat refine St (And.intro hlt <| And.intro @a8.eq_def <| And.intro hkl <| And.intro hwl <| And.intro hkg <| And.intro hwg <| And.intro ht64 <| And.intro hk1 <| And.intro @turn2 <| And.intro @turn6 <| And.intro @turn11 <| And.intro @turn13 <| And.intro @turn22 <| And.intro @turn25 <| And.intro @u32_xor <| And.intro @u32_and <| And.intro @u32_add <| And.intro @u32_xff <| @T.size.eq_def) ct93 ?_
 exact ⟨⟨t + 1, by omega⟩, (Wt (And.intro hnx <| And.intro @rnd.eq_def <| And.intro @t1S.eq_def <| And.intro @t2S.eq_def <| @a8.eq_def) [0, 1, 7, 13, 14] [0, 2]), by simp only; omega⟩
end Go.Fw

end

section
namespace Go.Fw
open Go Go.Proofs
def F91 : Fun
 | [] => some ([.sq 1 (kS.map u32T)], .own 0)
 | _ => none
theorem ct91 : CT [] [0] [] := ⟨GClOk.nil _⟩
set_option maxRecDepth 100000 in
theorem c91 : ACon Tryz.prog 91 F91 := by
 refine aconc E_ok (rs := [.tmp 0 130]) Tryz.func91 rfl Tryz.ntmps91 (by kernel_rfl) rfl (by decide) F91 (np := 0) ?_ ?_
 · intro ts h; unfold F91; split <;> first | rfl | (simp at h; done)
 intro ts H r hF hwf
 unfold F91 at hF
 split at hF <;> try (cases hF; done)
 cases hF
 repeat refine St trivial ct91 ?_
 exact AWP.ret (Fin @kT_eq [] [0])
noncomputable def F76 : Fun
 | [.by b] => if b.length ≤ 1000000000 then some ([], .t (.ba 32 (shaL b))) else none
 | _ => none
theorem ct76 : CT [(91, ⟨[], treeG F91⟩), (92, ⟨[false], treeG F92⟩), (93, ⟨[false, false, false], treeG F93⟩)] [0, 2, 3, 4, 5, 6, 7, 8, 16, 29] [] := ⟨(.cons c91.g (.cons c92.g (.cons c93.g (.nil _))))⟩
theorem padS_long (b : List UInt8) : (padS b b.length).length ≤ b.length + 73 := by
 simp only [padS, List.length_append, List.length_cons, repl_len, be8_len, padK]; omega
set_option maxRecDepth 100000 in
set_option maxHeartbeats 2000000 in
theorem c76 : ACon Tryz.prog 76 F76 := by
 refine aconc E_ok (rs := [.cell 2 32]) Tryz.func76 rfl Tryz.ntmps76 (by kernel_rfl) rfl (by decide) F76 (np := 1) ?_ ?_
 · intro ts h; unfold F76; split <;> first | rfl | (simp at h; done)
 intro ts H r hF hwf
 unfold F76 at hF
 split at hF <;> try (cases hF; done)
 rename_i b
 split at hF
 case isFalse => cases hF
 rename_i hc
 have hb := hc
 cases hF
 have hpd : F92 [.by b] = some ([.by (padS b b.length)], .own 0) := if_pos hb
 have hpl := padS_len b b.length
 have hps := padS_long b
 have hfin : shaL b = outS (eatS h0S (padS b b.length) ((padS b b.length).length / 64)) := rfl
 obtain ⟨P, hP⟩ : ∃ P, padS b b.length = P := ⟨_, rfl⟩
 rw [hP] at hpl hfin hps hpd
 repeat refine St (And.intro hpd <| @F91.eq_def) ct76 ?_
 refine AWP.loop (G := { k : Nat // 64 * k ≤ P.length }) (fun k => ⟨[(2, .ptr 0 0 []), (3, .own 1), (4, .own 2), (5, .own 3), (6, .t (.int .i64 ((64 * k.1 : Nat) : Int)))], [.bx (.t (.ba 32 (zby 32))), .sq 1 ((eatS h0S P k.1).l.map u32T), .sq 1 (kS.map u32T), .by P]⟩) (fun k => P.length - 64 * k.1) ⟨0, by omega⟩ (Wt (And.intro (And.intro @eatS.eq_1 <| @eatS.eq_2) <| And.intro @a8_eq <| And.intro @a8.eq_def <| And.intro @h0S.eq_def <| @Nat.mul_zero) [2, 3, 4, 5, 6] [0, 1, 2, 3]) ?_
 intro ⟨k, hk⟩
 dsimp only
 have hnx : eatS h0S P (k + 1) = blkS (eatS h0S P k) ((P.drop (64 * k)).take 64) := rfl
 obtain ⟨v, hv⟩ : ∃ v, eatS h0S P k = v := ⟨_, rfl⟩
 rw [hv] at hnx ⊢
 by_cases hlt : ((64 * k : Nat) : Int) < (P.length : Int)
 case pos =>
   have h64' : 64 * k + 64 ≤ P.length := by omega
   have htl : ((P.drop (64 * k)).take 64).length = 64 := by simp; omega
   have hte : 64 * k + 64 - 64 * k = 64 := by omega
   have hbl := block_c v htl
   have hk1 : IntKind.i64.wrap (((64 * k : Nat) : Int) + 64) = ((64 * k + 64 : Nat) : Int) := by rw [wrap_i64 (by omega) (by omega)]; omega
   have hk2 : 64 * k + 64 = 64 * (k + 1) := by omega
   repeat refine St (And.intro hlt <| And.intro hk1 <| And.intro hte <| And.intro hbl <| @clean_u32) ct76 ?_
   exact ⟨⟨k + 1, by omega⟩, (Wt (And.intro hnx <| hk2) [2, 3, 4, 5, 6] [0, 4, 2, 3]), by simp only; omega⟩
 have hkk : k = P.length / 64 := by omega
 rw [← hkk, hv] at hfin
 repeat refine St hlt ct76 ?_
 refine AWP.loop (G := { p : Nat // p ≤ 32 }) (fun p => ⟨[(2, .ptr 0 0 []), (3, .own 1), (7, .ptr 2 0 []), (8, .t (.int .i64 (p.1 : Int)))], [.bx (.t (.ba 32 (zby 32))), .sq 1 (v.l.map u32T), .bx (.t (.ba 32 (outM v p.1)))]⟩) (fun p => 32 - p.1) ⟨0, by omega⟩ (Wt @outM_0 [2, 3, 7, 8] [0, 1, 4]) ?_
 intro ⟨p, hp⟩
 dsimp only
 have hol := outM_len v p
 by_cases hp32i : (p : Int) < 32
 case neg =>
   obtain rfl : p = 32 := by omega
   have ho := outM_32 v
   repeat refine St (And.intro hp32i <| And.intro @T.size.eq_def <| And.intro ho <| hol) ct76 ?_
   exact AWP.ret (Fin hfin [] [])
 have hp32 : p < 32 := by omega
 have hvl : (List.map u32T v.l).length = 8 := rfl
 have hp8 : p / 4 < 8 := by omega
 have hp8i : ((p / 4 : Nat) : Int) < 8 := by omega
 have hvg := a8_get v (p / 4) hp8
 have hq : IntKind.i64.wrap (Int.tdiv (p : Int) 4) = ((p / 4 : Nat) : Int) := by
   rw [Int.tdiv_eq_ediv_of_nonneg (by omega), wrap_i64 (by omega) (by omega)]; omega
 have hr : IntKind.i64.wrap (Int.tmod (p : Int) 4) = ((p % 4 : Nat) : Int) := by
   rw [Int.tmod_eq_emod_of_nonneg (by omega), wrap_i64 (by omega) (by omega)]; omega
 have hm8 : IntKind.i64.wrap (8 * ((p % 4 : Nat) : Int)) = ((8 * (p % 4) : Nat) : Int) := by rw [wrap_i64 (by omega) (by omega)]; omega
 have hm24 : IntKind.i64.wrap (24 - ((8 * (p % 4) : Nat) : Int)) = ((24 - 8 * (p % 4) : Nat) : Int) := by rw [wrap_i64 (by omega) (by omega)]; omega
 have hmu : IntKind.u64.wrap ((24 - 8 * (p % 4) : Nat) : Int) = ((24 - 8 * (p % 4) : Nat) : Int) := wrap_u64 (by omega) (by omega)
 have hnn : ¬ ((24 - 8 * (p % 4) : Nat) : Int) < 0 := by omega
 have hsh := u32_shr (v.l.getD (p / 4) 0) (24 - 8 * (p % 4)) (by omega)
 have hob : ((v.l.getD (p / 4) 0) >>> UInt32.ofNat (24 - 8 * (p % 4))).toUInt8 = outB v p := rfl
 have hset := outM_set v hp32
 have hof : ∀ c : UInt8, UInt8.ofNat c.toNat = c := fun c => by simp
 have hkj : IntKind.i64.wrap ((p : Int) + 1) = ((p + 1 : Nat) : Int) := by rw [wrap_i64 (by omega) (by omega)]; omega
 repeat refine St (And.intro hp32i <| And.intro hp32 <| And.intro hvl <| And.intro hp8 <| And.intro hp8i <| And.intro hvg <| And.intro hq <| And.intro hr <| And.intro hm8 <| And.intro hm24 <| And.intro hmu <| And.intro hnn <| And.intro hsh <| And.intro @u8_of_u32 <| And.intro hob <| And.intro hof <| And.intro hset <| And.intro hol <| And.intro hkj <| @T.size.eq_def) ct76 ?_
 exact ⟨⟨p + 1, by omega⟩, (Wt trivial [2, 3, 7, 8] [0, 1, 2]), by simp only; omega⟩
theorem refsum_c {b : List UInt8} (h : b.length ≤ 1000000000) : F76 [.by b] = some ([], .t (.ba 32 (shaL b))) := if_pos h
noncomputable def F65 : Fun
 | [.by b] => if b.length ≤ 1000000000 then some ([], .t (.ba 32 (shaL (shaL b)))) else none
 | _ => none
theorem ct65 : CT [(76, ⟨[false], treeG F76⟩)] [0, 2, 3] [] := ⟨(.cons c76.g (.nil _))⟩
theorem c65 : ACon Tryz.prog 65 F65 := by
 refine aconc E_ok (rs := [.cell 2 32]) Tryz.func65 rfl Tryz.ntmps65 (by kernel_rfl) rfl (by decide) F65 (np := 1) ?_ ?_
 · intro ts h; unfold F65; split <;> first | rfl | (simp at h; done)
 intro ts H r hF hwf
 unfold F65 at hF
 split at hF <;> try (cases hF; done)
 rename_i b
 split at hF
 case isFalse => cases hF
 rename_i hc
 have hb := hc
 cases hF
 have h1 := refsum_c hb
 have hl := shaL_len b
 have h2 : F76 [.by (shaL b)] = some ([], .t (.ba 32 (shaL (shaL b)))) := refsum_c (by omega)
 generalize shaL (shaL b) = y at *
 obtain ⟨x, hx⟩ : ∃ x, shaL b = x := ⟨_, rfl⟩
 rw [hx] at h1 hl h2
 have ht : x.take 32 = x := List.take_of_length_le (by omega)
 repeat refine St (And.intro h1 <| And.intro hl <| And.intro h2 <| ht) ct65 ?_
 exact AWP.ret (Fin trivial [] [])
end Go.Fw

end

section
namespace Go.Fw
open Go Go.Proofs
noncomputable def F63 : Fun
 | [y] => match inv txT y with
   | some t => some ([], .t (.bool (countsB t)))
   | none => none
 | _ => none
theorem ct63 : CT [] [0, 1, 2, 3, 4, 5, 15, 20, 30, 35, 45, 54, 67] [] := ⟨GClOk.nil _⟩
set_option maxHeartbeats 1000000 in
theorem c63 : ACon Tryz.prog 63 F63 := by
 refine aconc E_ok (rs := [.tmp 2 4]) Tryz.func63 rfl Tryz.ntmps63 (by kernel_rfl) rfl (by decide) F63 (np := 1) ?_ ?_
 · intro ts h; unfold F63; split <;> first | rfl | (simp at h; done)
 intro ts H r hF hwf
 unfold F63 at hF
 split at hF <;> try (cases hF; done)
 split at hF <;> try (cases hF; done)
 rename_i t ht
 cases hF
 obtain rfl := inv_inv ht
 have hcb := countsB_eq t
 obtain ⟨c, hc⟩ : ∃ c, countsB t = c := ⟨_, rfl⟩
 rw [hc] at hcb
 rw [hc]
 obtain ⟨v, is, os, k⟩ := t
 dsimp only at hcb
 have hyu : txT ⟨v, is, os, k⟩ = .st [.int .u32 (v.toNat : Int), .sq 35 (is.map inT), .sq 2 (os.map outT), .int .u32 (k.toNat : Int)] := rfl
 rw [hyu]
 by_cases h1 : 20 < (is.length : Int)
 · have e : c = false := by rw [hcb]; have : ¬ is.length ≤ 20 := by omega
                            simp [this]
   subst e
   repeat refine St h1 ct63 ?_
   exact AWP.ret (Fin trivial [] [])
 by_cases h2 : 20 < (os.length : Int)
 · have e : c = false := by rw [hcb]; have : ¬ os.length ≤ 20 := by omega
                            simp [this]
   subst e
   repeat refine St (And.intro h1 <| h2) ct63 ?_
   exact AWP.ret (Fin trivial [] [])
 have hcb' : c = (os.all scrOk && is.all witOk) := by
   rw [hcb]
   have e1 : is.length ≤ 20 := by omega
   have e2 : os.length ≤ 20 := by omega
   simp [e1, e2]
 repeat refine St (And.intro h1 <| h2) ct63 ?_
 refine AWP.loop (G := { i : Nat // i ≤ os.length ∧ (os.take i).all scrOk = true }) (fun i => ⟨[(1, .ptr 0 0 []), (3, .t (.int .i64 (i.1 : Int)))], [.bx (.t (.st [.int .u32 (v.toNat : Int), .sq 35 (is.map inT), .sq 2 (os.map outT), .int .u32 (k.toNat : Int)]))]⟩) (fun i => os.length - i.1) ⟨0, by omega, rfl⟩ (Wt trivial [1, 3] [0]) ?_
 intro ⟨i, hi, ha⟩
 dsimp only
 by_cases hlt : (i : Int) < (os.length : Int)
 · have hlt' : i < os.length := by omega
   have hget := out_getD os i hlt'
   have hal := all_take scrOk dOut os i hlt'
   have hbad := all_getD scrOk dOut os i hlt'
   generalize os.getD i dOut = x at *
   by_cases hb : 1000 < (x.scr.length : Int)
   · have hx : scrOk x = false := decide_eq_false (by omega)
     have e : c = false := by rw [hcb', hbad hx]; rfl
     subst e
     repeat refine St (And.intro hlt <| And.intro hlt' <| And.intro hget <| And.intro @outT.eq_def <| hb) ct63 ?_
     exact AWP.ret (Fin trivial [] [])
   · have hx : scrOk x = true := decide_eq_true (by omega)
     rw [ha, hx] at hal
     repeat refine St (And.intro hlt <| And.intro hlt' <| And.intro hget <| And.intro @outT.eq_def <| hb) ct63 ?_
     exact ⟨⟨i + 1, by omega, by rw [hal]; rfl⟩, (Wt trivial [1, 3] [0]), by simp only; omega⟩
 obtain rfl : i = os.length := by omega
 rw [List.take_length] at ha
 rw [ha, Bool.true_and] at hcb'
 repeat refine St hlt ct63 ?_
 refine AWP.loop (G := { i : Nat // i ≤ is.length ∧ (is.take i).all witOk = true }) (fun i => ⟨[(1, .ptr 0 0 []), (4, .t (.int .i64 (i.1 : Int)))], [.bx (.t (.st [.int .u32 (v.toNat : Int), .sq 35 (is.map inT), .sq 2 (os.map outT), .int .u32 (k.toNat : Int)]))]⟩) (fun i => is.length - i.1) ⟨0, by omega, rfl⟩ (Wt trivial [1, 4] [0]) ?_
 intro ⟨i, hi, hai⟩
 dsimp only
 by_cases hlti : (i : Int) < (is.length : Int)
 · have hlt' : i < is.length := by omega
   have hget := in_getD is i hlt'
   have hal := all_take witOk dIn is i hlt'
   have hbad := all_getD witOk dIn is i hlt'
   generalize is.getD i dIn = x at *
   have hxe : witOk x = (decide (x.wit.length ≤ 30) && x.wit.all fun y => decide (y.length ≤ 1000)) := rfl
   by_cases h30 : 30 < (x.wit.length : Int)
   · have e : c = false := by rw [hcb', hbad (by rw [hxe]; have : ¬ x.wit.length ≤ 30 := by omega
                                                 simp [this])]
     subst e
     repeat refine St (And.intro hlti <| And.intro hlt' <| And.intro hget <| And.intro @inT.eq_def <| And.intro @refT.eq_def <| h30) ct63 ?_
     exact AWP.ret (Fin trivial [] [])
   have h30' : decide (x.wit.length ≤ 30) = true := decide_eq_true (by omega)
   rw [h30', Bool.true_and] at hxe
   repeat refine St (And.intro hlti <| And.intro hlt' <| And.intro hget <| And.intro @inT.eq_def <| And.intro @refT.eq_def <| h30) ct63 ?_
   refine AWP.loop (G := { j : Nat // j ≤ x.wit.length ∧ (x.wit.take j).all (fun y => decide (y.length ≤ 1000)) = true }) (fun j => ⟨[(1, .ptr 0 0 []), (4, .t (.int .i64 (i : Int))), (5, .t (.int .i64 (j.1 : Int)))], [.bx (.t (.st [.int .u32 (v.toNat : Int), .sq 35 (is.map inT), .sq 2 (os.map outT), .int .u32 (k.toNat : Int)]))]⟩) (fun j => x.wit.length - j.1) ⟨0, by omega, rfl⟩ (Wt trivial [1, 4, 5] [0]) ?_
   intro ⟨j, hj, haj⟩
   dsimp only
   by_cases hltj : (j : Int) < (x.wit.length : Int)
   · have hltj' : j < x.wit.length := by omega
     have hgetj := map_getD x.wit j hltj'
     have halj := all_take (fun y : List UInt8 => decide (y.length ≤ 1000)) [] x.wit j hltj'
     have hbadj := all_getD (fun y : List UInt8 => decide (y.length ≤ 1000)) [] x.wit j hltj'
     generalize x.wit.getD j [] = y at *
     by_cases hb : 1000 < (y.length : Int)
     · have hx : decide (y.length ≤ 1000) = false := decide_eq_false (by omega)
       have e : c = false := by rw [hcb', hbad (by rw [hxe]; exact hbadj hx)]
       subst e
       repeat refine St (And.intro hlti <| And.intro hlt' <| And.intro hget <| And.intro @inT.eq_def <| And.intro @refT.eq_def <| And.intro hltj <| And.intro hltj' <| And.intro hgetj <| hb) ct63 ?_
       exact AWP.ret (Fin trivial [] [])
     · have hx : decide (y.length ≤ 1000) = true := decide_eq_true (by omega)
       rw [haj, hx] at halj
       repeat refine St (And.intro hlti <| And.intro hlt' <| And.intro hget <| And.intro @inT.eq_def <| And.intro @refT.eq_def <| And.intro hltj <| And.intro hltj' <| And.intro hgetj <| hb) ct63 ?_
       exact ⟨⟨j + 1, by omega, by rw [halj]; rfl⟩, (Wt trivial [1, 4, 5] [0]), by simp only; omega⟩
   obtain rfl : j = x.wit.length := by omega
   rw [List.take_length] at haj
   rw [haj] at hxe
   rw [hai, hxe] at hal
   repeat refine St (And.intro hlti <| And.intro hlt' <| And.intro hget <| And.intro @inT.eq_def <| And.intro @refT.eq_def <| hltj) ct63 ?_
   exact ⟨⟨i + 1, by omega, by rw [hal]; rfl⟩, (Wt trivial [1, 4] [0]), by simp only; omega⟩
 obtain rfl : i = is.length := by omega
 rw [List.take_length] at hai
 rw [hai] at hcb'
 subst hcb'
 repeat refine St hlti ct63 ?_
 exact AWP.ret (Fin trivial [] [])
theorem rcounts_c (t : TTx) : F63 [txT t] = some ([], .t (.bool (countsB t))) := by
 simp only [F63, inv_of txT_inj]
noncomputable def F39 : Fun
 | [y] => match inv txT y with
   | some t => some ([], .t (.bool (smallT t)))
   | none => none
 | _ => none
theorem ct39 : CT [] [0, 1, 2, 3, 4, 5, 15, 20, 30, 35, 45, 54, 67] [] := ⟨GClOk.nil _⟩
set_option maxHeartbeats 1000000 in
theorem c39 : ACon Tryz.prog 39 F39 := by
 refine aconc E_ok (rs := [.tmp 2 4]) Tryz.func39 rfl Tryz.ntmps39 (by kernel_rfl) rfl (by decide) F39 (np := 1) ?_ ?_
 · intro ts h; unfold F39; split <;> first | rfl | (simp at h; done)
 intro ts H r hF hwf
 unfold F39 at hF
 split at hF <;> try (cases hF; done)
 split at hF <;> try (cases hF; done)
 rename_i t ht
 cases hF
 obtain rfl := inv_inv ht
 have hcb := smallT_eq t
 obtain ⟨c, hc⟩ : ∃ c, smallT t = c := ⟨_, rfl⟩
 rw [hc] at hcb
 rw [hc]
 obtain ⟨v, is, os, k⟩ := t
 dsimp only at hcb
 have hyu : txT ⟨v, is, os, k⟩ = .st [.int .u32 (v.toNat : Int), .sq 35 (is.map inT), .sq 2 (os.map outT), .int .u32 (k.toNat : Int)] := rfl
 rw [hyu]
 by_cases h1 : 6 < (is.length : Int)
 · have e : c = false := by rw [hcb]; have : ¬ is.length ≤ 6 := by omega
                            simp [this]
   subst e
   repeat refine St h1 ct39 ?_
   exact AWP.ret (Fin trivial [] [])
 by_cases h2 : 6 < (os.length : Int)
 · have e : c = false := by rw [hcb]; have : ¬ os.length ≤ 6 := by omega
                            simp [this]
   subst e
   repeat refine St (And.intro h1 <| h2) ct39 ?_
   exact AWP.ret (Fin trivial [] [])
 have hcb' : c = (os.all scrS && is.all witS) := by
   rw [hcb]
   have e1 : is.length ≤ 6 := by omega
   have e2 : os.length ≤ 6 := by omega
   simp [e1, e2]
 repeat refine St (And.intro h1 <| h2) ct39 ?_
 refine AWP.loop (G := { i : Nat // i ≤ os.length ∧ (os.take i).all scrS = true }) (fun i => ⟨[(1, .ptr 0 0 []), (3, .t (.int .i64 (i.1 : Int)))], [.bx (.t (.st [.int .u32 (v.toNat : Int), .sq 35 (is.map inT), .sq 2 (os.map outT), .int .u32 (k.toNat : Int)]))]⟩) (fun i => os.length - i.1) ⟨0, by omega, rfl⟩ (Wt trivial [1, 3] [0]) ?_
 intro ⟨i, hi, ha⟩
 dsimp only
 by_cases hlt : (i : Int) < (os.length : Int)
 · have hlt' : i < os.length := by omega
   have hget := out_getD os i hlt'
   have hal := all_take scrS dOut os i hlt'
   have hbad := all_getD scrS dOut os i hlt'
   generalize os.getD i dOut = x at *
   by_cases hb : 600 < (x.scr.length : Int)
   · have hx : scrS x = false := decide_eq_false (by omega)
     have e : c = false := by rw [hcb', hbad hx]; rfl
     subst e
     repeat refine St (And.intro hlt <| And.intro hlt' <| And.intro hget <| And.intro @outT.eq_def <| hb) ct39 ?_
     exact AWP.ret (Fin trivial [] [])
   · have hx : scrS x = true := decide_eq_true (by omega)
     rw [ha, hx] at hal
     repeat refine St (And.intro hlt <| And.intro hlt' <| And.intro hget <| And.intro @outT.eq_def <| hb) ct39 ?_
     exact ⟨⟨i + 1, by omega, by rw [hal]; rfl⟩, (Wt trivial [1, 3] [0]), by simp only; omega⟩
 obtain rfl : i = os.length := by omega
 rw [List.take_length] at ha
 rw [ha, Bool.true_and] at hcb'
 repeat refine St hlt ct39 ?_
 refine AWP.loop (G := { i : Nat // i ≤ is.length ∧ (is.take i).all witS = true }) (fun i => ⟨[(1, .ptr 0 0 []), (4, .t (.int .i64 (i.1 : Int)))], [.bx (.t (.st [.int .u32 (v.toNat : Int), .sq 35 (is.map inT), .sq 2 (os.map outT), .int .u32 (k.toNat : Int)]))]⟩) (fun i => is.length - i.1) ⟨0, by omega, rfl⟩ (Wt trivial [1, 4] [0]) ?_
 intro ⟨i, hi, hai⟩
 dsimp only
 by_cases hlti : (i : Int) < (is.length : Int)
 · have hlt' : i < is.length := by omega
   have hget := in_getD is i hlt'
   have hal := all_take witS dIn is i hlt'
   have hbad := all_getD witS dIn is i hlt'
   generalize is.getD i dIn = x at *
   have hxe : witS x = (decide (x.wit.length ≤ 6) && x.wit.all fun y => decide (y.length ≤ 600)) := rfl
   by_cases h30 : 6 < (x.wit.length : Int)
   · have e : c = false := by rw [hcb', hbad (by rw [hxe]; have : ¬ x.wit.length ≤ 6 := by omega
                                                 simp [this])]
     subst e
     repeat refine St (And.intro hlti <| And.intro hlt' <| And.intro hget <| And.intro @inT.eq_def <| And.intro @refT.eq_def <| h30) ct39 ?_
     exact AWP.ret (Fin trivial [] [])
   have h30' : decide (x.wit.length ≤ 6) = true := decide_eq_true (by omega)
   rw [h30', Bool.true_and] at hxe
   repeat refine St (And.intro hlti <| And.intro hlt' <| And.intro hget <| And.intro @inT.eq_def <| And.intro @refT.eq_def <| h30) ct39 ?_
   refine AWP.loop (G := { j : Nat // j ≤ x.wit.length ∧ (x.wit.take j).all (fun y => decide (y.length ≤ 600)) = true }) (fun j => ⟨[(1, .ptr 0 0 []), (4, .t (.int .i64 (i : Int))), (5, .t (.int .i64 (j.1 : Int)))], [.bx (.t (.st [.int .u32 (v.toNat : Int), .sq 35 (is.map inT), .sq 2 (os.map outT), .int .u32 (k.toNat : Int)]))]⟩) (fun j => x.wit.length - j.1) ⟨0, by omega, rfl⟩ (Wt trivial [1, 4, 5] [0]) ?_
   intro ⟨j, hj, haj⟩
   dsimp only
   by_cases hltj : (j : Int) < (x.wit.length : Int)
   · have hltj' : j < x.wit.length := by omega
     have hgetj := map_getD x.wit j hltj'
     have halj := all_take (fun y : List UInt8 => decide (y.length ≤ 600)) [] x.wit j hltj'
     have hbadj := all_getD (fun y : List UInt8 => decide (y.length ≤ 600)) [] x.wit j hltj'
     generalize x.wit.getD j [] = y at *
     by_cases hb : 600 < (y.length : Int)
     · have hx : decide (y.length ≤ 600) = false := decide_eq_false (by omega)
       have e : c = false := by rw [hcb', hbad (by rw [hxe]; exact hbadj hx)]
       subst e
       repeat refine St (And.intro hlti <| And.intro hlt' <| And.intro hget <| And.intro @inT.eq_def <| And.intro @refT.eq_def <| And.intro hltj <| And.intro hltj' <| And.intro hgetj <| hb) ct39 ?_
       exact AWP.ret (Fin trivial [] [])
     · have hx : decide (y.length ≤ 600) = true := decide_eq_true (by omega)
       rw [haj, hx] at halj
       repeat refine St (And.intro hlti <| And.intro hlt' <| And.intro hget <| And.intro @inT.eq_def <| And.intro @refT.eq_def <| And.intro hltj <| And.intro hltj' <| And.intro hgetj <| hb) ct39 ?_
       exact ⟨⟨j + 1, by omega, by rw [halj]; rfl⟩, (Wt trivial [1, 4, 5] [0]), by simp only; omega⟩
   obtain rfl : j = x.wit.length := by omega
   rw [List.take_length] at haj
   rw [haj] at hxe
   rw [hai, hxe] at hal
   repeat refine St (And.intro hlti <| And.intro hlt' <| And.intro hget <| And.intro @inT.eq_def <| And.intro @refT.eq_def <| hltj) ct39 ?_
   exact ⟨⟨i + 1, by omega, by rw [hal]; rfl⟩, (Wt trivial [1, 4] [0]), by simp only; omega⟩
 obtain rfl : i = is.length := by omega
 rw [List.take_length] at hai
 rw [hai] at hcb'
 subst hcb'
 repeat refine St hlti ct39 ?_
 exact AWP.ret (Fin trivial [] [])
theorem rSmall_c (t : TTx) : F39 [txT t] = some ([], .t (.bool (smallT t))) := by
 simp only [F39, inv_of txT_inj]
noncomputable def F66 : Fun
 | [y] => match inv txT y with
   | some t => @ite _ (countsB t = true) (Classical.propDecidable _) (some ([.by (bareB t)], .own 0)) none
   | none => none
 | _ => none
theorem ct66 : CT [(77, ⟨[false, false, false], treeG F77⟩), (78, ⟨[false, false], treeG F78⟩), (79, ⟨[false, false], treeG F79⟩)] [0, 1, 2, 3, 4, 5, 20, 61] [] := ⟨(.cons c77.g (.cons c78.g (.cons c79.g (.nil _))))⟩
theorem rput4 (b : List UInt8) (n : UInt32) (h : b.length ≤ 549755812000) : F77 [.by b, .int .u64 (n.toNat : Int), .int .i64 4] = some ([.by (b ++ le 4 (n.toNat : Int))], .own 0) := put_c (n.toNat : Int) 4 (by omega) (by omega) (by omega)
theorem rput8 (b : List UInt8) (n : UInt64) (h : b.length ≤ 549755812000) : F77 [.by b, .int .u64 (n.toNat : Int), .int .i64 8] = some ([.by (b ++ le 8 (n.toNat : Int))], .own 0) := put_c (n.toNat : Int) 8 (by omega) (by omega) (by omega)
theorem rputsize (b : List UInt8) (n : Int) (h : b.length ≤ 549755812000) : F78 [.by b, .int .u64 n] = some ([.by (b ++ sizeB n)], .own 0) := if_pos h
theorem rputbytes (b x : List UInt8) (h : b.length + x.length ≤ 549755800000) : F79 [.by b, .by x] = some ([.by (b ++ sizeB x.length ++ x)], .own 0) := if_pos h
theorem rputlist (b : List UInt8) (l : List (List UInt8)) (h : b.length + (flat l).length ≤ 549755700000) : F75 [.by b, .sq 1 (l.map .by)] = some ([.by (b ++ sizeB l.length ++ flat l)], .own 0) := by
 simp only [F75, asBys_map]; exact if_pos h
theorem u32u64 (n : UInt32) : IntKind.u64.wrap (n.toNat : Int) = (n.toNat : Int) := by have := n.toNat_lt; exact wrap_u64 (by omega) (by omega)
set_option maxHeartbeats 2000000 in
theorem c66 : ACon Tryz.prog 66 F66 := by
 refine aconc E_ok (rs := [.tmp 2 37]) Tryz.func66 rfl Tryz.ntmps66 (by kernel_rfl) rfl (by decide) F66 (np := 1) ?_ ?_
 · intro ts h; unfold F66; split <;> first | rfl | (simp at h; done)
 intro ts H r hF hwf
 unfold F66 at hF
 split at hF <;> try (cases hF; done)
 split at hF <;> try (cases hF; done)
 rename_i t ht
 split at hF
 case isFalse => cases hF
 rename_i hc
 have hc := hc
 cases hF
 obtain rfl := inv_inv ht
 obtain ⟨c1, c2, c3, c4⟩ := countsB_ok hc
 obtain ⟨v, is, os, k⟩ := t
 dsimp only at c1 c2 c3 c4
 have hp := rput4 [] v (by simp)
 have hs := rputsize (le 4 (v.toNat : Int)) is.length (by simp [le_len])
 simp only [List.nil_append] at hp
 have hw : IntKind.u64.wrap (is.length : Int) = (is.length : Int) := wrap_u64 (by omega) (by omega)
 have hw2 : IntKind.u64.wrap (os.length : Int) = (os.length : Int) := wrap_u64 (by omega) (by omega)
 have hsl := sizeB_len (is.length : Int)
 have hsl2 := sizeB_len (os.length : Int)
 have hyu : txT ⟨v, is, os, k⟩ = .st [.int .u32 (v.toNat : Int), .sq 35 (is.map inT), .sq 2 (os.map outT), .int .u32 (k.toNat : Int)] := rfl
 rw [hyu]
 repeat refine St (And.intro hp <| And.intro hs <| And.intro hw <| @u32u64) ct66 ?_
 refine AWP.loop (G := { i : Nat // i ≤ is.length }) (fun i => ⟨[(1, .ptr 0 0 []), (3, .own 1), (4, .t (.int .i64 (i.1 : Int)))], [.bx (.t (.st [.int .u32 (v.toNat : Int), .sq 35 (is.map inT), .sq 2 (os.map outT), .int .u32 (k.toNat : Int)])), .by (le 4 (v.toNat : Int) ++ sizeB is.length ++ cat tInB (is.take i.1))]⟩) (fun i => is.length - i.1) ⟨0, by omega⟩ (Wt (And.intro @cat_nil <| @List.take_zero.{0}) [1, 3, 4] [0, 2]) ?_
 intro ⟨i, hi⟩
 dsimp only
 have hcl := cat_in_len (is.take i)
 have hil : (is.take i).length = i := by simp; omega
 have h4 := le_len 4 (v.toNat : Int)
 by_cases hlt : (i : Int) < (is.length : Int)
 · have hlt' : i < is.length := by omega
   have hget := in_getD is i hlt'
   have hcat := cat_take tInB dIn is i hlt'
   generalize is.getD i dIn = x at *
   have hbl : (le 4 (v.toNat : Int) ++ sizeB is.length ++ cat tInB (is.take i)).length ≤ 2000 := by simp only [List.length_append]; omega
   have p1 := rput4 (le 4 (v.toNat : Int) ++ sizeB is.length ++ cat tInB (is.take i) ++ x.prev.1) x.idx (by rw [List.length_append, x.prev.2]; omega)
   have p2 := rput4 (le 4 (v.toNat : Int) ++ sizeB is.length ++ cat tInB (is.take i) ++ x.prev.1 ++ le 4 (x.idx.toNat : Int)) x.seq (by rw [List.length_append, List.length_append, x.prev.2, le_len]; omega)
   have h32 := x.prev.2
   have htk := take32 x.prev
   have hin : tInB x = x.prev.1 ++ le 4 (x.idx.toNat : Int) ++ le 4 (x.seq.toNat : Int) := rfl
   repeat refine St (And.intro hlt <| And.intro hlt' <| And.intro hget <| And.intro @inT.eq_def <| And.intro @refT.eq_def <| And.intro h32 <| And.intro htk <| And.intro hbl <| And.intro p1 <| And.intro p2 <| @u32u64) ct66 ?_
   exact ⟨⟨i + 1, by omega⟩, (Wt (And.intro hcat <| And.intro hin <| @List.append_assoc.{0}) [1, 3, 4] [0, 4]), by simp only; omega⟩
 obtain rfl : i = is.length := by omega
 rw [List.take_length]
 rw [List.take_length] at hcl
 obtain ⟨A, hA⟩ : ∃ A, le 4 (v.toNat : Int) ++ sizeB is.length ++ cat tInB is = A := ⟨_, rfl⟩
 have hAl : A.length ≤ 2000 := by rw [← hA]; simp only [List.length_append]; omega
 rw [hA]
 have hps := rputsize A os.length (by omega)
 repeat refine St (And.intro hlt <| And.intro hps <| hw2) ct66 ?_
 refine AWP.loop (G := { i : Nat // i ≤ os.length }) (fun i => ⟨[(1, .ptr 0 0 []), (3, .own 1), (5, .t (.int .i64 (i.1 : Int)))], [.bx (.t (.st [.int .u32 (v.toNat : Int), .sq 35 (is.map inT), .sq 2 (os.map outT), .int .u32 (k.toNat : Int)])), .by (A ++ sizeB os.length ++ cat tOutB (os.take i.1))]⟩) (fun i => os.length - i.1) ⟨0, by omega⟩ (Wt (And.intro @cat_nil <| @List.take_zero.{0}) [1, 3, 5] [0, 2]) ?_
 intro ⟨i, hi⟩
 dsimp only
 have hcl2 := scr_cat os i c3 c2
 by_cases hlt : (i : Int) < (os.length : Int)
 · have hlt' : i < os.length := by omega
   have hget := out_getD os i hlt'
   have hcat := cat_take tOutB dOut os i hlt'
   have hscr : (os.getD i dOut).scr.length ≤ 1000 := c3 _ (by simp [hlt'])
   generalize os.getD i dOut = x at *
   have p1 := rput8 (A ++ sizeB os.length ++ cat tOutB (os.take i)) x.val (by simp only [List.length_append]; omega)
   have p2 := rputbytes (A ++ sizeB os.length ++ cat tOutB (os.take i) ++ le 8 (x.val.toNat : Int)) x.scr (by simp only [List.length_append, le_len]; omega)
   have hin : tOutB x = le 8 (x.val.toNat : Int) ++ (sizeB x.scr.length ++ x.scr) := rfl
   repeat refine St (And.intro hlt <| And.intro hlt' <| And.intro hget <| And.intro @outT.eq_def <| And.intro p1 <| p2) ct66 ?_
   exact ⟨⟨i + 1, by omega⟩, (Wt (And.intro hcat <| And.intro hin <| @List.append_assoc.{0}) [1, 3, 5] [0, 3]), by simp only; omega⟩
 obtain rfl : i = os.length := by omega
 rw [List.take_length]
 rw [List.take_length] at hcl2
 have p1 := rput4 (A ++ sizeB os.length ++ cat tOutB os) k (by simp only [List.length_append]; omega)
 have hb : bareB ⟨v, is, os, k⟩ = A ++ sizeB os.length ++ cat tOutB os ++ le 4 (k.toNat : Int) := by unfold bareB; rw [← hA]
 repeat refine St (And.intro hlt <| And.intro p1 <| @u32u64) ct66 ?_
 exact AWP.ret (Fin hb [] [2])
theorem rbare_c {t : TTx} (h : countsB t = true) : F66 [txT t] = some ([.by (bareB t)], .own 0) := by
 simp only [F66, inv_of txT_inj]; exact if_pos h
noncomputable def F64 : Fun
 | [y] => match inv txT y with
   | some t => @ite _ (countsB t = true) (Classical.propDecidable _) (some ([.by (wholeB t)], .own 0)) none
   | none => none
 | _ => none
theorem ct64 : CT [(66, ⟨[false], treeG F66⟩), (75, ⟨[false, false], treeG F75⟩)] [0, 1, 2, 3, 4, 11] [] := ⟨(.cons c66.g (.cons c75.g (.nil _)))⟩
set_option maxHeartbeats 1000000 in
theorem c64 : ACon Tryz.prog 64 F64 := by
 refine aconc E_ok (rs := [.tmp 2 37]) Tryz.func64 rfl Tryz.ntmps64 (by kernel_rfl) rfl (by decide) F64 (np := 1) ?_ ?_
 · intro ts h; unfold F64; split <;> first | rfl | (simp at h; done)
 intro ts H r hF hwf
 unfold F64 at hF
 split at hF <;> try (cases hF; done)
 split at hF <;> try (cases hF; done)
 rename_i t ht
 split at hF
 case isFalse => cases hF
 rename_i hc
 have hc := hc
 cases hF
 obtain rfl := inv_inv ht
 have hb := rbare_c hc
 obtain ⟨hbl, hwl⟩ := counts_len hc
 have hcw : ∀ i, (cat witB (t.ins.take i)).length ≤ (wholeB t).length := fun i => by
   have := cat_take_le witB t.ins i
   unfold wholeB; rw [List.length_append]; omega
 have hwh : wholeB t = bareB t ++ cat witB t.ins := rfl
 obtain ⟨c1, c2, c3, c4⟩ := countsB_ok hc
 generalize bareB t = B at *
 generalize wholeB t = W0 at *
 obtain ⟨v, is, os, k⟩ := t
 dsimp only at c1 c2 c3 c4 hcw hwh
 have hyu : txT ⟨v, is, os, k⟩ = .st [.int .u32 (v.toNat : Int), .sq 35 (is.map inT), .sq 2 (os.map outT), .int .u32 (k.toNat : Int)] := rfl
 rw [hyu] at hb
 rw [hyu]
 repeat refine St hb ct64 ?_
 refine AWP.loop (G := { i : Nat // i ≤ is.length }) (fun i => ⟨[(1, .ptr 0 0 []), (3, .own 1), (4, .t (.int .i64 (i.1 : Int)))], [.bx (.t (.st [.int .u32 (v.toNat : Int), .sq 35 (is.map inT), .sq 2 (os.map outT), .int .u32 (k.toNat : Int)])), .by (B ++ cat witB (is.take i.1))]⟩) (fun i => is.length - i.1) ⟨0, by omega⟩ (Wt (And.intro @cat_nil <| @List.take_zero.{0}) [1, 3, 4] [0, 1]) ?_
 intro ⟨i, hi⟩
 dsimp only
 have hci := hcw i
 by_cases hlt : (i : Int) < (is.length : Int)
 · have hlt' : i < is.length := by omega
   have hget := in_getD is i hlt'
   have hcat := cat_take witB dIn is i hlt'
   have hwx := c4 (is.getD i dIn) (by simp [hlt'])
   generalize is.getD i dIn = x at *
   have hfx := flat_le 1000 x.wit hwx.2
   have hfx2 : (flat x.wit).length ≤ 30 * 1009 := Nat.le_trans hfx (Nat.mul_le_mul_right _ hwx.1)
   have p1 := rputlist (B ++ cat witB (is.take i)) x.wit (by simp only [List.length_append]; omega)
   have hin : witB x = sizeB x.wit.length ++ flat x.wit := rfl
   repeat refine St (And.intro hlt <| And.intro hlt' <| And.intro hget <| And.intro @inT.eq_def <| And.intro @refT.eq_def <| p1) ct64 ?_
   exact ⟨⟨i + 1, by omega⟩, (Wt (And.intro hcat <| And.intro hin <| @List.append_assoc.{0}) [1, 3, 4] [0, 2]), by simp only; omega⟩
 obtain rfl : i = is.length := by omega
 rw [List.take_length]
 repeat refine St hlt ct64 ?_
 exact AWP.ret (Fin hwh [] [1])
theorem rwhole_c {t : TTx} (h : countsB t = true) : F64 [txT t] = some ([.by (wholeB t)], .own 0) := by
 simp only [F64, inv_of txT_inj]; exact if_pos h
noncomputable def F45 : Fun
 | [y] => match inv txT y with
   | some t => some ([], .t (.int .i64 (chkE t)))
   | none => none
 | _ => none
theorem ct45 : CT [(63, ⟨[false], treeG F63⟩), (64, ⟨[false], treeG F64⟩)] [0, 1, 2, 5, 9] [] := ⟨(.cons c63.g (.cons c64.g (.nil _)))⟩
theorem c45 : ACon Tryz.prog 45 F45 := by
 refine aconc E_ok (rs := [.tmp 2 27]) Tryz.func45 rfl Tryz.ntmps45 (by kernel_rfl) rfl (by decide) F45 (np := 1) ?_ ?_
 · intro ts h; unfold F45; split <;> first | rfl | (simp at h; done)
 intro ts H r hF hwf
 unfold F45 at hF
 split at hF <;> try (cases hF; done)
 split at hF <;> try (cases hF; done)
 rename_i t ht
 cases hF
 obtain rfl := inv_inv ht
 have h1 := rcounts_c t
 rcases chk_cases t with ⟨e1, e2⟩ | ⟨e1, e2, e3⟩ | ⟨e1, e2, e3⟩
 · rw [e1] at h1
   rw [txT_st] at h1 ⊢
   repeat refine St h1 ct45 ?_
   exact AWP.ret (Fin e2 [] [])
 · have h2 := rwhole_c e1
   rw [e1] at h1
   rw [txT_st] at h1 h2 ⊢
   generalize wholeB t = w0 at *
   have h3 : 12000 < (w0.length : Int) := by omega
   repeat refine St (And.intro h1 <| And.intro h2 <| h3) ct45 ?_
   exact AWP.ret (Fin e3 [] [])
 · have h2 := rwhole_c e1
   rw [e1] at h1
   rw [txT_st] at h1 h2 ⊢
   generalize wholeB t = w0 at *
   have h3 : ¬ 12000 < (w0.length : Int) := by omega
   repeat refine St (And.intro h1 <| And.intro h2 <| h3) ct45 ?_
   exact AWP.ret (Fin e3 [] [])
theorem rcheck_c (t : TTx) : F45 [txT t] = some ([], .t (.int .i64 (chkE t))) := by
 simp only [F45, inv_of txT_inj]
noncomputable def F48 : Fun
 | [y] => match inv txT y with
   | some t => some ([], .t (.ba 32 (namO t)))
   | none => none
 | _ => none
theorem ct48 : CT [(45, ⟨[false], treeG F45⟩), (65, ⟨[false], treeG F65⟩), (66, ⟨[false], treeG F66⟩)] [0, 1, 2, 5] [] := ⟨(.cons c45.g (.cons c65.g (.cons c66.g (.nil _))))⟩
theorem rdbl_c1 {b : List UInt8} (h : b.length ≤ 1000000000) : F65 [.by b] = some ([], .t (.ba 32 (shaL (shaL b)))) := if_pos h
theorem c48 : ACon Tryz.prog 48 F48 := by
 refine aconc E_ok (rs := [.cell 2 32]) Tryz.func48 rfl Tryz.ntmps48 (by kernel_rfl) rfl (by decide) F48 (np := 1) ?_ ?_
 · intro ts h; unfold F48; split <;> first | rfl | (simp at h; done)
 intro ts H r hF hwf
 unfold F48 at hF
 split at hF <;> try (cases hF; done)
 split at hF <;> try (cases hF; done)
 rename_i t ht
 cases hF
 obtain rfl := inv_inv ht
 have h1 := rcheck_c t
 rcases chk_two t with ⟨e1, e2, e3⟩ | ⟨e1, e2⟩
 · have h2 := rbare_c e2
   have hl := counts_len e2
   have e4 : namO t = shaL (shaL (bareB t)) := if_pos (fit_of e2 e3)
   have h3 := rdbl_c1 (b := bareB t) (by omega)
   rw [e1] at h1
   rw [e4]
   rw [txT_st] at h1 h2 ⊢
   generalize shaL (shaL (bareB t)) = x at *
   generalize bareB t = w0 at *
   repeat refine St (And.intro h1 <| And.intro h2 <| h3) ct48 ?_
   exact AWP.ret (Fin trivial [] [])
 · have e4 : namO t = zby 32 := if_neg (by simp [e2])
   rw [e1] at h1
   rw [e4]
   rw [txT_st] at h1 ⊢
   repeat refine St h1 ct48 ?_
   exact AWP.ret (Fin trivial [] [])
end Go.Fw

end

section
namespace Go.Fw
open Go Go.Proofs
theorem tx_getD (l : List TTx) (k : Nat) (h : k < l.length) : (l.map txT).getD k default = txT (l.getD k dTx) := by simp [h]
def smallBl (l : List TTx) : Bool := decide (l.length ≤ 8) && l.all smallT
theorem smallBl_ok {l : List TTx} (h : smallBl l = true) : l.length ≤ 8 ∧ l.all smallT = true := by
 simpa [smallBl] using h
noncomputable def F22 : Fun
 | [y] => match inv txsT y with
   | some l => some ([], .t (.bool (smallBl l)))
   | none => none
 | _ => none
theorem ct22 : CT [(39, ⟨[false], treeG F39⟩)] [0, 2, 3, 7, 19] [] := ⟨(.cons c39.g (.nil _))⟩
set_option maxHeartbeats 1000000 in
theorem c22 : ACon Tryz.prog 22 F22 := by
 refine aconc E_ok (rs := [.tmp 2 4]) Tryz.func22 rfl Tryz.ntmps22 (by kernel_rfl) rfl (by decide) F22 (np := 1) ?_ ?_
 · intro ts h; unfold F22; split <;> first | rfl | (simp at h; done)
 intro ts H r hF hwf
 unfold F22 at hF
 split at hF <;> try (cases hF; done)
 split at hF <;> try (cases hF; done)
 rename_i l hl
 cases hF
 obtain rfl := inv_inv hl
 have hg : l.length ≤ maxLen := by
   have h1 := hwf (txsT l) (by simp)
   simp only [txsT, T.wf] at h1
   simpa using h1.2.1
 unfold maxLen at hg
 have hsm : smallBl l = (decide (l.length ≤ 8) && l.all smallT) := rfl
 obtain ⟨c, hc⟩ : ∃ c, smallBl l = c := ⟨_, rfl⟩
 rw [hc] at hsm ⊢
 dsimp only [txsT]
 repeat refine St trivial ct22 ?_
 refine AWP.loop (G := { i : Nat // i ≤ l.length ∧ i ≤ 8 ∧ (l.take i).all smallT = true }) (fun i => ⟨[(0, .t (.sq 4 (l.map txT))), (3, .t (.int .i64 (i.1 : Int)))], []⟩) (fun i => l.length - i.1) ⟨0, by omega, by omega, rfl⟩ (Wt trivial [0, 3] []) ?_
 intro ⟨i, hi, hi8, ha⟩
 dsimp only
 by_cases hlt : (i : Int) < (l.length : Int)
 · have hlt' : i < l.length := by omega
   by_cases h8 : i = 8
   · have e : c = false := by rw [hsm, decide_eq_false (by omega)]; rfl
     have h8' : ((i : Int) == 8) = true := by rw [beq_iff_eq]; omega
     subst e
     repeat refine St (And.intro hlt <| h8') ct22 ?_
     exact AWP.ret (Fin trivial [] [])
   have h8' : ((i : Int) == 8) = false := by rw [beq_eq_false_iff_ne]; omega
   have hget := tx_getD l i hlt'
   have hal := all_take smallT dTx l i hlt'
   have hbad := all_getD smallT dTx l i hlt'
   generalize l.getD i dTx = x at *
   have q1 : F39 [txT x] = some ([], .t (.bool (smallT x))) := by simp only [F39, inv_of txT_inj]
   rw [txT_st] at q1 hget
   cases hx : smallT x with
   | false =>
     rw [hx] at q1
     have e : c = false := by rw [hsm, hbad hx, Bool.and_false]
     subst e
     repeat refine St (And.intro hlt <| And.intro hlt' <| And.intro h8' <| And.intro hget <| q1) ct22 ?_
     exact AWP.ret (Fin trivial [] [])
   | true =>
     rw [hx] at q1
     rw [ha, hx] at hal
     repeat refine St (And.intro hlt <| And.intro hlt' <| And.intro h8' <| And.intro hget <| q1) ct22 ?_
     exact ⟨⟨i + 1, by omega, by omega, by rw [hal]; rfl⟩, (Wt trivial [0, 3] []), by simp only; omega⟩
 obtain rfl : i = l.length := by omega
 rw [List.take_length] at ha
 have e : c = true := by rw [hsm, ha, decide_eq_true hi8]; rfl
 subst e
 repeat refine St hlt ct22 ?_
 exact AWP.ret (Fin trivial [] [])
theorem rsmallb_c (l : List TTx) : F22 [.sq 4 (l.map txT)] = some ([], .t (.bool (smallBl l))) := by
 have : F22 [txsT l] = some ([], .t (.bool (smallBl l))) := by simp only [F22, inv_of txsT_inj]
 exact this
end Go.Fw

end

section
namespace Go.Fw
open Go Go.Proofs
noncomputable def sameC (a b : TCoin) : Bool := @decide (a = b) (Classical.propDecidable _)
theorem sameC_eq (a b : TCoin) : sameC a b = (a.r.h.1 == b.r.h.1 && (((a.r.i.toNat : Int) == (b.r.i.toNat : Int))) && ((a.out.val.toNat : Int) == (b.out.val.toNat : Int)) && (a.out.scr == b.out.scr) && ((a.ht.toNat : Int) == (b.ht.toNat : Int)) && (a.first == b.first)) := by
 obtain ⟨⟨⟨h1, g1⟩, i1⟩, ⟨v1, s1⟩, t1, f1⟩ := a
 obtain ⟨⟨⟨h2, g2⟩, i2⟩, ⟨v2, s2⟩, t2, f2⟩ := b
 dsimp only
 rw [Bool.eq_iff_iff]
 unfold sameC
 rw [@decide_eq_true_iff _ (Classical.propDecidable _)]
 simp only [Bool.and_eq_true, beq_iff_eq]
 constructor
 · intro h
   cases h
   exact ⟨⟨⟨⟨⟨rfl, rfl⟩, rfl⟩, rfl⟩, rfl⟩, rfl⟩
 · rintro ⟨⟨⟨⟨⟨e1, e2⟩, e3⟩, e4⟩, e5⟩, e6⟩
   subst e1 e4 e6
   have e2' : i1 = i2 := UInt32.toNat_inj.1 (by omega)
   have e3' : v1 = v2 := UInt64.toNat_inj.1 (by omega)
   have e5' : t1 = t2 := UInt32.toNat_inj.1 (by omega)
   subst e2' e3' e5'
   rfl
theorem sameC_self (a : TCoin) : sameC a a = true := by unfold sameC; exact @decide_eq_true _ (Classical.propDecidable _) rfl
theorem sameC_iff (a b : TCoin) : sameC a b = true ↔ a = b := by unfold sameC; exact @decide_eq_true_iff _ (Classical.propDecidable _)
noncomputable def F16 : Fun
 | [x, y] => match inv coinT x, inv coinT y with
   | some a, some b => some ([], .t (.bool (sameC a b)))
   | _, _ => none
 | _ => none
theorem ct16 : CT [] [0, 1, 2, 3, 4] [] := ⟨GClOk.nil _⟩
set_option maxHeartbeats 2000000 in
theorem c16 : ACon Tryz.prog 16 F16 := by
 refine aconc E_ok (rs := [.tmp 4 4]) Tryz.func16 rfl Tryz.ntmps16 (by kernel_rfl) rfl (by decide) F16 (np := 2) ?_ ?_
 · intro ts h; unfold F16; split <;> first | rfl | (simp at h; done)
 intro ts H r hF hwf
 unfold F16 at hF
 split at hF <;> try (cases hF; done)
 split at hF <;> try (cases hF; done)
 rename_i a b ha hb
 cases hF
 obtain rfl := inv_inv ha
 obtain rfl := inv_inv hb
 have he := sameC_eq a b
 obtain ⟨c, hc⟩ : ∃ c, sameC a b = c := ⟨_, rfl⟩
 rw [hc] at he ⊢
 simp only [coinT_st]
 cases c1 : (a.r.h.1 == b.r.h.1 && ((a.r.i.toNat : Int) == (b.r.i.toNat : Int))) with
 | false =>
   rw [c1] at he
   simp only [Bool.false_and] at he
   subst he
   repeat refine St c1 ct16 ?_
   exact AWP.ret (Fin trivial [] [])
 | true =>
 rw [c1] at he
 simp only [Bool.true_and] at he
 cases c2 : ((a.out.val.toNat : Int) == (b.out.val.toNat : Int)) with
 | false =>
   rw [c2] at he
   simp only [Bool.false_and] at he
   subst he
   repeat refine St (And.intro c1 <| c2) ct16 ?_
   exact AWP.ret (Fin trivial [] [])
 | true =>
 rw [c2] at he
 simp only [Bool.true_and] at he
 cases c3 : (a.out.scr == b.out.scr) with
 | false =>
   rw [c3] at he
   simp only [Bool.false_and] at he
   subst he
   repeat refine St (And.intro c1 <| And.intro c2 <| c3) ct16 ?_
   exact AWP.ret (Fin trivial [] [])
 | true =>
 rw [c3] at he
 simp only [Bool.true_and] at he
 cases c4 : ((a.ht.toNat : Int) == (b.ht.toNat : Int)) with
 | false =>
   rw [c4] at he
   simp only [Bool.false_and] at he
   subst he
   repeat refine St (And.intro c1 <| And.intro c2 <| And.intro c3 <| @c4) ct16 ?_
   exact AWP.ret (Fin trivial [] [])
 | true =>
 rw [c4] at he
 simp only [Bool.true_and] at he
 subst he
 repeat refine St (And.intro c1 <| And.intro c2 <| And.intro c3 <| @c4) ct16 ?_
 exact AWP.ret (Fin trivial [] [])
theorem same_cc (a b : TCoin) : F16 [coinT a, coinT b] = some ([], .t (.bool (sameC a b))) := by
 simp only [F16, inv_of coinT_inj]
end Go.Fw

end

section
namespace Go.Fw
open Go Go.Proofs
theorem less_cmp : ∀ x y : List UInt8, Op.bytesLess x y = decide (cmpL x y < 0)
 | [], [] => rfl
 | [], _ :: _ => rfl
 | _ :: _, [] => rfl
 | u :: x, v :: y => by
   unfold Op.bytesLess cmpL
   by_cases h : u = v
   · subst h
     rw [if_pos rfl, ← less_cmp x y]
     simp
   · rw [if_neg h]
     by_cases h2 : u < v
     · rw [if_pos h2]
       simp [h2]
     · rw [if_neg h2]
       simp [h, h2]
theorem beq_cmp (x y : List UInt8) : (x == y) = decide (cmpL x y = 0) := by
 rw [Bool.eq_iff_iff, beq_iff_eq, decide_eq_true_eq]
 exact ⟨fun h => by rw [h]; exact cmpL_self y, cmpL_eq x y⟩
noncomputable def F53 : Fun
 | [x, y] => match inv rfT x, inv rfT y with
   | some a, some b => some ([], .t (.bool (decide (cmpR a b < 0))))
   | _, _ => none
 | _ => none
theorem ct53 : CT [] [0, 1, 2, 3, 4, 5, 6] [(1, [⟨0, [2], [], []⟩, ⟨1, [7], [], []⟩, ⟨1, [8], [1], []⟩, ⟨0, [3], [], []⟩, ⟨1, [10], [], []⟩, ⟨1, [11], [4], []⟩, ⟨0, [9], [1, 2], []⟩, ⟨0, [12], [1, 2, 4, 5], []⟩])] := ⟨GClOk.nil _⟩
set_option maxHeartbeats 2000000 in
theorem c53 : ACon Tryz.prog 53 F53 := by
 refine aconc E_ok (rs := [.tmp 4 4]) Tryz.func53 rfl Tryz.ntmps53 (by kernel_rfl) rfl (by decide) F53 (np := 2) ?_ ?_
 · intro ts h; unfold F53; split <;> first | rfl | (simp at h; done)
 intro ts H r hF hwf
 unfold F53 at hF
 split at hF <;> try (cases hF; done)
 split at hF <;> try (cases hF; done)
 rename_i a b ha hb
 cases hF
 obtain rfl := inv_inv ha
 obtain rfl := inv_inv hb
 obtain ⟨⟨h1, g1⟩, i1⟩ := a
 obtain ⟨⟨h2, g2⟩, i2⟩ := b
 have hl := less_cmp h1 h2
 have he := beq_cmp h1 h2
 have ht1 : List.take 32 h1 = h1 := List.take_of_length_le (by omega)
 have ht2 : List.take 32 h2 = h2 := List.take_of_length_le (by omega)
 have hr : decide (cmpR ⟨⟨h1, g1⟩, i1⟩ ⟨⟨h2, g2⟩, i2⟩ < 0) = (Op.bytesLess h1 h2 || ((h1 == h2) && decide ((i1.toNat : Int) < (i2.toNat : Int)))) := by
   rw [hl, he]
   unfold cmpR cmpI
   dsimp only
   by_cases h0 : cmpL h1 h2 = 0
   · rw [if_pos h0, h0]
     by_cases h3 : (i1.toNat : Int) < (i2.toNat : Int)
     · rw [if_pos h3]; simp [h3]
     · rw [if_neg h3]
       by_cases h4 : (i2.toNat : Int) < (i1.toNat : Int)
       · rw [if_pos h4]; simp [h3]
       · rw [if_neg h4]; simp [h3]
   · rw [if_neg h0]; simp [h0]
 rw [hr]
 simp only [rfT]
 cases q1 : Op.bytesLess h1 h2 with
 | true =>
   repeat refine St (And.intro g1 <| And.intro g2 <| And.intro ht1 <| And.intro ht2 <| q1) ct53 ?_
   exact AWP.ret (Fin trivial [] [])
 | false =>
   cases q2 : (h1 == h2) with
   | true =>
     repeat refine St (And.intro g1 <| And.intro g2 <| And.intro ht1 <| And.intro ht2 <| And.intro q1 <| q2) ct53 ?_
     exact AWP.ret (Fin trivial [] [])
   | false =>
     repeat refine St (And.intro g1 <| And.intro g2 <| And.intro ht1 <| And.intro ht2 <| And.intro q1 <| q2) ct53 ?_
     exact AWP.ret (Fin trivial [] [])
theorem less_cc (a b : TRef) : F53 [.st [.ba 32 a.h.1, .int .u32 (a.i.toNat : Int)], .st [.ba 32 b.h.1, .int .u32 (b.i.toNat : Int)]] = some ([], .t (.bool (decide (cmpR a b < 0)))) := by
 show F53 [rfT a, rfT b] = _
 simp only [F53, inv_of rfT_inj]
def okCoin (c : TCoin) : Bool := decide (c.out.scr.length ≤ 600)
def okCs (l : List TCoin) : Bool := decide (l.length ≤ 40) && l.all okCoin
theorem okCs_ok {l : List TCoin} (h : okCs l = true) : l.length ≤ 40 ∧ lowL l = true := by
 unfold okCs at h
 rw [Bool.and_eq_true, decide_eq_true_eq] at h
 refine ⟨h.1, List.all_eq_true.2 fun x hx => ?_⟩
 have := List.all_eq_true.1 h.2 x hx
 unfold okCoin at this
 unfold lowC
 rw [decide_eq_true_eq] at this ⊢
 omega
noncomputable def F4 : Fun
 | [.sq 37 y] => match inv (List.map coinT) y with
   | some l => some ([], .t (.bool (okCs l)))
   | none => none
 | _ => none
theorem ct4 : CT [] [0, 2, 3, 7, 21] [] := ⟨GClOk.nil _⟩
set_option maxHeartbeats 2000000 in
theorem c4 : ACon Tryz.prog 4 F4 := by
 refine aconc E_ok (rs := [.tmp 2 4]) Tryz.func4 rfl Tryz.ntmps4 (by kernel_rfl) rfl (by decide) F4 (np := 1) ?_ ?_
 · intro ts h; unfold F4; split <;> first | rfl | (simp at h; done)
 intro ts H r hF hwf
 unfold F4 at hF
 split at hF <;> try (cases hF; done)
 split at hF <;> try (cases hF; done)
 rename_i l hl
 cases hF
 obtain rfl := inv_inv hl
 have hml : (l.map coinT).length = l.length := List.length_map ..
 have hg : l.length ≤ maxLen := by
   have h1 := hwf (.sq 37 (l.map coinT)) (by simp)
   simp only [T.wf] at h1
   simpa using h1.2.1
 unfold maxLen at hg
 have hsm : okCs l = (decide (l.length ≤ 40) && l.all okCoin) := rfl
 obtain ⟨c, hc⟩ : ∃ c, okCs l = c := ⟨_, rfl⟩
 rw [hc] at hsm ⊢
 repeat refine St trivial ct4 ?_
 refine AWP.loop (G := { i : Nat // i ≤ l.length ∧ i ≤ 40 ∧ (l.take i).all okCoin = true }) (fun i => ⟨[(0, .t (.sq 37 (l.map coinT))), (3, .t (.int .i64 (i.1 : Int)))], []⟩) (fun i => l.length - i.1) ⟨0, by omega, by omega, rfl⟩ (Wt trivial [0, 3] []) ?_
 intro ⟨i, hi, hi8, ha⟩
 dsimp only
 by_cases hlt : (i : Int) < (l.length : Int)
 · have hlt' : i < l.length := by omega
   by_cases h8 : i = 40
   · have e : c = false := by rw [hsm, decide_eq_false (by omega)]; rfl
     have h8' : ((i : Int) == 40) = true := by rw [beq_iff_eq]; omega
     subst e
     repeat refine St (And.intro hlt <| And.intro hml <| h8') ct4 ?_
     exact AWP.ret (Fin trivial [] [])
   have h8' : ((i : Int) == 40) = false := by rw [beq_eq_false_iff_ne]; omega
   have hget := coin_getD l i hlt'
   have hal := all_take okCoin dCoin l i hlt'
   have hbad := all_getD okCoin dCoin l i hlt'
   have hoe : okCoin (l.getD i dCoin) = decide ((l.getD i dCoin).out.scr.length ≤ 600) := rfl
   generalize l.getD i dCoin = x at *
   rw [coinT_st] at hget
   by_cases hb : 600 < (x.out.scr.length : Int)
   · have hx : okCoin x = false := by rw [hoe]; exact decide_eq_false (by omega)
     have e : c = false := by rw [hsm, hbad hx, Bool.and_false]
     subst e
     repeat refine St (And.intro hlt <| And.intro hlt' <| And.intro hml <| And.intro h8' <| And.intro hget <| hb) ct4 ?_
     exact AWP.ret (Fin trivial [] [])
   · have hx : okCoin x = true := by rw [hoe]; exact decide_eq_true (by omega)
     rw [ha, hx] at hal
     repeat refine St (And.intro hlt <| And.intro hlt' <| And.intro hml <| And.intro h8' <| And.intro hget <| hb) ct4 ?_
     exact ⟨⟨i + 1, by omega, by omega, by rw [hal]; rfl⟩, (Wt trivial [0, 3] []), by simp only; omega⟩
 obtain rfl : i = l.length := by omega
 rw [List.take_length] at ha
 have e : c = true := by rw [hsm, ha, decide_eq_true hi8]; rfl
 subst e
 repeat refine St (And.intro hlt <| hml) ct4 ?_
 exact AWP.ret (Fin trivial [] [])
theorem coins_cc (l : List TCoin) : F4 [.sq 37 (l.map coinT)] = some ([], .t (.bool (okCs l))) := by
 have hi : inv (List.map coinT) (l.map coinT) = some l := inv_of (f := List.map coinT) (fun a b h => coins_inj a b h) l
 simp only [F4, hi]
end Go.Fw

end

section
namespace Go.Fw
open Go Go.Proofs
noncomputable def F33 : Fun
 | [x, y] => match inv coinsT x, inv rfT y with
   | some l, some r => @ite _ ((l.length ≤ 1000000 ∧ Srt l)) (Classical.propDecidable _) ((some ([], .tup [.t (.int .i64 (plN l r : Int)), .t (.bool (plB l r))]))) none
   | _, _ => none
 | _ => none
theorem ct33 : CT [(53, ⟨[false, false], treeG F53⟩)] [0, 1, 3, 4, 5, 6, 19] [(2, [⟨0, [6], [], []⟩, ⟨0, [0], [], []⟩, ⟨1, [8], [], []⟩, ⟨0, [7, 9], [2], []⟩, ⟨0, [10], [2], []⟩, ⟨0, [0], [2], []⟩, ⟨0, [6], [2], []⟩, ⟨1, [12, 13], [2], []⟩, ⟨0, [14], [2, 7], []⟩, ⟨1, [15], [2, 7], []⟩, ⟨1, [3], [2], []⟩, ⟨1, [16, 17], [2, 7, 9, 10], []⟩, ⟨0, [11, 18], [2, 7, 9, 10, 11], []⟩]), (4, [⟨0, [6], [], []⟩, ⟨0, [6], [], []⟩, ⟨0, [0], [], []⟩, ⟨1, [24], [], []⟩, ⟨0, [23, 25], [3], []⟩, ⟨0, [26], [3], []⟩, ⟨0, [0], [3], []⟩, ⟨0, [6], [3], []⟩, ⟨1, [28, 29], [3], []⟩, ⟨0, [30], [3, 8], []⟩, ⟨1, [31], [3, 8], []⟩, ⟨1, [3], [3], []⟩, ⟨0, [32, 33], [3, 8, 10, 11], []⟩, ⟨0, [27, 34], [3, 8, 10, 11], []⟩, ⟨0, [22], [3], []⟩, ⟨0, [35], [3, 8, 10, 11], []⟩])] := ⟨(.cons c53.g (.nil _))⟩
set_option maxHeartbeats 2000000 in
theorem c33 : ACon Tryz.prog 33 F33 := by
 refine aconc E_ok (rs := [.tmp 4 3, .tmp 5 4]) Tryz.func33 rfl Tryz.ntmps33 (by kernel_rfl) rfl (by decide) F33 (np := 2) ?_ ?_
 · intro ts h; unfold F33; split <;> first | rfl | (simp at h; done)
 intro ts H r hF hwf
 unfold F33 at hF
 split at hF <;> try (cases hF; done)
 split at hF <;> try (cases hF; done)
 rename_i l r hl hr
 split at hF
 case isFalse => cases hF
 rename_i hcc
 obtain ⟨hlen, hsr⟩ := hcc
 cases hF
 obtain rfl := inv_inv hl
 obtain rfl := inv_inv hr
 have hml : (l.map coinT).length = l.length := List.length_map ..
 have hle := plN_le l r
 obtain ⟨p1, p2⟩ := plN_spec hsr r
 have hpb1 : plN l r < l.length → plB l r = ((l.getD (plN l r) dCoin).r.h.1 == r.h.1 && (((l.getD (plN l r) dCoin).r.i.toNat : Int) == (r.i.toNat : Int))) := by
   intro hlt
   show _ = refB (l.getD (plN l r) dCoin).r r
   unfold plB
   rw [decide_eq_true hlt, Bool.true_and, Bool.eq_iff_iff, decide_eq_true_eq, refB_iff, cmpR_iff]
 have hpb2 : plN l r = l.length → plB l r = false := by
   intro hpl
   unfold plB; rw [hpl]; simp
 generalize plB l r = B at *
 generalize plN l r = P at *
 simp only [coinsT, rfT]
 repeat refine St hml ct33 ?_
 refine AWP.loop (G := { i : Nat // i ≤ P }) (fun i => ⟨[(0, .t (.sq 37 (l.map coinT))), (3, .ptr 0 0 []), (6, .t (.int .i64 (i.1 : Int)))], [.bx (.t (.st [.ba 32 r.h.1, .int .u32 (r.i.toNat : Int)]))]⟩) (fun i => l.length - i.1) ⟨0, Nat.zero_le _⟩ (Wt trivial [0, 3, 6] [0]) ?_
 rintro ⟨i, hi⟩
 dsimp only
 by_cases hlt : i < l.length
 · have hlt2 : (i : Int) < (l.length : Int) := by omega
   have hw1 : IntKind.i64.wrap ((i : Int) + 1) = ((i + 1 : Nat) : Int) := by rw [wrap_i64 (by omega) (by omega)]; omega
   have hg := coin_getD l i hlt
   have hls := less_cc (l.getD i dCoin).r r
   rw [coinT_st] at hg
   by_cases hip : i < P
   · rw [decide_eq_true (p1 i hip)] at hls
     generalize l.getD i dCoin = c at *
     repeat refine St (And.intro hml <| And.intro hlt <| And.intro hlt2 <| And.intro hg <| And.intro hls <| hw1) ct33 ?_
     exact ⟨⟨i + 1, by omega⟩, (Wt trivial [0, 3, 6] [0]), by simp only; omega⟩
   · obtain rfl : i = P := by omega
     rw [decide_eq_false (p2 _ (Nat.le_refl _) hlt)] at hls
     have hpb := hpb1 hlt
     clear hpb1 hpb2 p1 p2
     generalize l.getD i dCoin = c at *
     repeat refine St (And.intro hml <| And.intro hlt <| And.intro hlt2 <| And.intro hg <| hls) ct33 ?_
     exact AWP.ret (Fin hpb [] [])
 · have hpl : P = l.length := by omega
   obtain rfl : i = l.length := by omega
   have hlt2 : ¬ (l.length : Int) < (l.length : Int) := by omega
   have hpb := hpb2 hpl
   subst hpl
   repeat refine St (And.intro hml <| hlt2) ct33 ?_
   exact AWP.ret (Fin hpb [] [])
theorem rplace_c (l : List TCoin) (r : TRef) (h : l.length ≤ 1000000) (h2 : Srt l) : F33 [.sq 37 (l.map coinT), .st [.ba 32 r.h.1, .int .u32 (r.i.toNat : Int)]] = some ([], .tup [.t (.int .i64 (plN l r : Int)), .t (.bool (plB l r))]) := by
 show F33 [coinsT l, rfT r] = _
 simp only [F33, inv_of coinsT_inj, inv_of rfT_inj]
 exact if_pos ⟨h, h2⟩
noncomputable def F12 : Fun
 | [x, y] => match inv coinsT x, inv rfT y with
   | some l, some r => @ite _ ((l.length ≤ 1000000 ∧ Srt l)) (Classical.propDecidable _) ((some ([], .tup [.t (coinT (getC l r)), .t (.bool (plB l r))]))) none
   | _, _ => none
 | _ => none
theorem ct12 : CT [(33, ⟨[false, false], treeG F33⟩)] [0, 1, 3, 4, 5, 6, 7, 15] [] := ⟨(.cons c33.g (.nil _))⟩
set_option maxHeartbeats 2000000 in
theorem c12 : ACon Tryz.prog 12 F12 := by
 refine aconc E_ok (rs := [.cell 4 41, .tmp 5 4]) Tryz.func12 rfl Tryz.ntmps12 (by kernel_rfl) rfl (by decide) F12 (np := 2) ?_ ?_
 · intro ts h; unfold F12; split <;> first | rfl | (simp at h; done)
 intro ts H r hF hwf
 unfold F12 at hF
 split at hF <;> try (cases hF; done)
 split at hF <;> try (cases hF; done)
 rename_i l r hl hr
 split at hF
 case isFalse => cases hF
 rename_i hcc
 obtain ⟨hlen, hsr⟩ := hcc
 cases hF
 obtain rfl := inv_inv hl
 obtain rfl := inv_inv hr
 have h := rplace_c l r hlen hsr
 have hml : (l.map coinT).length = l.length := List.length_map ..
 simp only [coinsT, rfT, getC]
 cases hb : plB l r with
 | false =>
   rw [hb] at h
   rw [if_neg (by simp), dCoin_T]
   generalize plN l r = R at *
   repeat refine St h ct12 ?_
   exact AWP.ret (Fin trivial [] [])
 | true =>
   have hlt := plB_lt hb
   have hlt2 : (plN l r : Int) < (l.length : Int) := by omega
   have hg := coin_getD l (plN l r) hlt
   rw [hb] at h
   rw [if_pos rfl]
   rw [coinT_st] at hg ⊢
   generalize l.getD (plN l r) dCoin = c at *
   generalize plN l r = R at *
   repeat refine St (And.intro h <| And.intro hml <| And.intro hlt <| And.intro hlt2 <| hg) ct12 ?_
   exact AWP.ret (Fin trivial [] [])
theorem rget_c (l : List TCoin) (r : TRef) (h : l.length ≤ 1000000) (h2 : Srt l) : F12 [.sq 37 (l.map coinT), .st [.ba 32 r.h.1, .int .u32 (r.i.toNat : Int)]] = some ([], .tup [.t (coinT (getC l r)), .t (.bool (plB l r))]) := by
 show F12 [coinsT l, rfT r] = _
 simp only [F12, inv_of coinsT_inj, inv_of rfT_inj]
 exact if_pos ⟨h, h2⟩
noncomputable def F21 : Fun
 | [x, y] => match inv coinsT x, inv coinT y with
   | some l, some c => @ite _ ((l.length ≤ 1000000 ∧ Srt l)) (Classical.propDecidable _) ((some ([], .tup [.t (coinsT (addV l c).1), .t (.int .i64 (addV l c).2)]))) none
   | _, _ => none
 | _ => none
theorem ct21 : CT [(33, ⟨[false, false], treeG F33⟩)] [0, 1, 3, 4, 5, 6, 7, 8, 16] [] := ⟨(.cons c33.g (.nil _))⟩
set_option maxHeartbeats 2000000 in
theorem c21 : ACon Tryz.prog 21 F21 := by
 refine aconc E_ok (rs := [.tmp 4 22, .tmp 5 27]) Tryz.func21 rfl Tryz.ntmps21 (by kernel_rfl) rfl (by decide) F21 (np := 2) ?_ ?_
 · intro ts h; unfold F21; split <;> first | rfl | (simp at h; done)
 intro ts H r hF hwf
 unfold F21 at hF
 split at hF <;> try (cases hF; done)
 split at hF <;> try (cases hF; done)
 rename_i l c hl hc
 split at hF
 case isFalse => cases hF
 rename_i hcc
 obtain ⟨hlen, hsr⟩ := hcc
 cases hF
 obtain rfl := inv_inv hl
 obtain rfl := inv_inv hc
 have h := rplace_c l c.r hlen hsr
 have hml : (l.map coinT).length = l.length := List.length_map ..
 have hle := plN_le l c.r
 have hle2 : (plN l c.r : Int) ≤ (l.length : Int) := by omega
 have h0 : (0 : Int) ≤ (plN l c.r : Int) := by omega
 simp only [coinsT, addV]
 rw [coinT_st]
 cases hb : plB l c.r with
 | true =>
   rw [hb] at h
   rw [if_pos rfl]
   dsimp only
   generalize plN l c.r = R at *
   repeat refine St h ct21 ?_
   exact AWP.ret (Fin trivial [] [])
 | false =>
   rw [hb] at h
   rw [if_neg (by simp)]
   dsimp only
   have hi : (insC l (plN l c.r) c).map coinT = (l.map coinT).take (plN l c.r) ++ [.st [.st [.ba 32 c.r.h.1, .int .u32 (c.r.i.toNat : Int)], .st [.int .u64 (c.out.val.toNat : Int), .by c.out.scr], .int .u32 (c.ht.toNat : Int), .bool c.first]] ++ (l.map coinT).drop (plN l c.r) := by
     unfold insC
     rw [List.map_append, List.map_append, List.map_take, List.map_drop]
     rfl
   have hl1 : ((l.map coinT).take (plN l c.r)).length = plN l c.r := by rw [List.length_take, hml]; omega
   have hl2 : ((l.map coinT).drop (plN l c.r)).length = l.length - plN l c.r := by rw [List.length_drop, hml]
   rw [hi]
   generalize plN l c.r = R at *
   generalize l.map coinT = X at *
   repeat refine St (And.intro h <| And.intro hml <| And.intro hle <| And.intro hle2 <| And.intro h0 <| And.intro hl1 <| hl2) ct21 ?_
   exact AWP.ret (Fin trivial [5] [])
theorem radd_c (l : List TCoin) (c : TCoin) (h : l.length ≤ 1000000) (h2 : Srt l) : F21 [.sq 37 (l.map coinT), coinT c] = some ([], .tup [.t (.sq 37 ((addV l c).1.map coinT)), .t (.int .i64 (addV l c).2)]) := by
 show F21 [coinsT l, coinT c] = some ([], .tup [.t (coinsT (addV l c).1), .t (.int .i64 (addV l c).2)])
 simp only [F21, inv_of coinsT_inj, inv_of coinT_inj]
 exact if_pos ⟨h, h2⟩
end Go.Fw

end

section
namespace Go.Fw
open Go Go.Proofs
noncomputable def loadR (R : List TCoin × Int) : List Blk × AV := @ite _ (R.2 = 0) (Classical.propDecidable _) (vwH R.1, .tup [.ptr 0 0 [], .t (.int .i64 0)]) ([], .tup [.t .nilp, .t (.int .i64 R.2)])
noncomputable def F6 : Fun
 | [.sq 37 y] => match inv (List.map coinT) y with
   | some l => @ite _ ((l.length ≤ 900000 ∧ lowL l = true)) (Classical.propDecidable _) ((some (loadR (addsV [] l)))) none
   | none => none
 | _ => none
theorem ct6 : CT [(17, ⟨[], treeG F17⟩), (20, ⟨[true, false], G20⟩)] [0, 2, 3, 4, 6, 7, 9, 10, 11, 12, 19] [] := ⟨(.cons c17.g (.cons g20 (.nil _)))⟩
set_option maxHeartbeats 2000000 in
theorem c6 : ACon Tryz.prog 6 F6 := by
 refine aconc E_ok (rs := [.tmp 2 26, .tmp 3 27]) Tryz.func6 rfl Tryz.ntmps6 (by kernel_rfl) rfl (by decide) F6 (np := 1) ?_ ?_
 · intro ts h; unfold F6; split <;> first | rfl | (simp at h; done)
 intro ts H r hF hwf
 unfold F6 at hF
 split at hF <;> try (cases hF; done)
 split at hF <;> try (cases hF; done)
 rename_i l hl
 split at hF
 case isFalse => cases hF
 rename_i hcc
 obtain ⟨hlen, hlow⟩ := hcc
 obtain rfl := inv_inv hl
 have hml : (l.map coinT).length = l.length := List.length_map ..
 obtain ⟨R, hR⟩ : ∃ R, addsV [] l = R := ⟨_, rfl⟩
 rw [hR] at hF
 repeat refine St (And.intro @F17.eq_def <| And.intro @vwH.eq_def <| And.intro @List.map_nil.{0, 0} <| hml) ct6 ?_
 refine AWP.weak (Weak.moveBx (v' := _) 0 1 [0] 0 _ rfl rfl rfl (by decide) (by simp only [W, eqq, ↓reduceIte, Nat.reduceEqDiff, Nat.reduceLT, Nat.reduceLeDiff, Nat.reduceAdd, Nat.reduceMul, Nat.reduceSub, Nat.reduceBEq, Int.reduceLE, Int.reduceLT, Int.reduceNeg, Int.reduceToNat, Int.reduceEq, Int.reduceBEq, Int.reduceBNe, Nat.reduceBNe, bne_self_eq_false, reduceCtorEq, gt_iff_lt, ge_iff_le]) (by simp only [W, eqq, ↓reduceIte, Nat.reduceEqDiff, Nat.reduceLT, Nat.reduceLeDiff, Nat.reduceAdd, Nat.reduceMul, Nat.reduceSub, Nat.reduceBEq, Int.reduceLE, Int.reduceLT, Int.reduceNeg, Int.reduceToNat, Int.reduceEq, Int.reduceBEq, Int.reduceBNe, Nat.reduceBNe, bne_self_eq_false, reduceCtorEq, gt_iff_lt, ge_iff_le]) (by simp only [W, eqq, ↓reduceIte, Nat.reduceEqDiff, Nat.reduceLT, Nat.reduceLeDiff, Nat.reduceAdd, Nat.reduceMul, Nat.reduceSub, Nat.reduceBEq, Int.reduceLE, Int.reduceLT, Int.reduceNeg, Int.reduceToNat, Int.reduceEq, Int.reduceBEq, Int.reduceBNe, Nat.reduceBNe, bne_self_eq_false, reduceCtorEq, gt_iff_lt, ge_iff_le]; rfl)) ?_
 refine AWP.loop (G := { x : Nat × List TCoin // x.1 ≤ l.length ∧ x.2.length ≤ x.1 ∧ lowL x.2 = true ∧ addsV x.2 (l.drop x.1) = R }) (fun x => ⟨[(4, .ptr 0 0 []), (9, .t (.sq 37 (l.map coinT))), (10, .t (.int .i64 (l.length : Int))), (11, .t (.int .i64 (x.1.1 : Int)))], [.bx (.st [.own 2]), .no, .sq 37 (x.1.2.map coinT)]⟩) (fun x => l.length - x.1.1) ⟨⟨0, []⟩, Nat.zero_le _, Nat.le_refl _, rfl, hR⟩ (Wt (@List.map_nil.{0, 0}) [4, 9, 10, 11] [0, 1, 2]) ?_
 rintro ⟨⟨i, L⟩, hi, hL, hLl, hT⟩
 dsimp only at hi hL hLl hT ⊢
 clear hR
 by_cases hlt : i < l.length
 · have hlt2 : (i : Int) < (l.length : Int) := by omega
   have hw1 : IntKind.i64.wrap ((i : Int) + 1) = ((i + 1 : Nat) : Int) := by rw [wrap_i64 (by omega) (by omega)]; omega
   have hg := coin_getD l i hlt
   have hlw := lowL_get hlow hlt
   have hdr : l.drop i = l.getD i dCoin :: l.drop (i + 1) := by
     rw [List.drop_eq_getElem_cons hlt]
     simp [List.getD_eq_getElem?_getD, hlt]
   rw [hdr, addsV] at hT
   have had := add_c L (l.getD i dCoin) (by omega) hlw
   obtain ⟨a1, a2⟩ := addV_ok hLl hlw
   rw [coinT_st] at hg
   generalize l.getD i dCoin = c at *
   generalize addV L c = A at *
   obtain ⟨L', e⟩ := A
   dsimp only at hT had a1 a2
   simp only [vwN] at had
   by_cases he : e = 0
   · subst he
     rw [if_neg (by simp)] at hT
     have hd0 : ((0 : Int) != 0) = false := rfl
     repeat refine St (And.intro hlt <| And.intro hlt2 <| And.intro hml <| And.intro hw1 <| And.intro hg <| And.intro had <| hd0) ct6 ?_
     exact ⟨⟨⟨i + 1, L'⟩, by show i + 1 ≤ l.length; omega, by show L'.length ≤ i + 1; omega, a1, hT⟩, (Wt trivial [4, 9, 10, 11] [0, 1, 4]), by simp only; omega⟩
   · rw [if_pos he] at hT
     have he2 : (e != 0) = true := by simpa using he
     subst hT
     rw [show loadR (L', e) = ([], .tup [.t .nilp, .t (.int .i64 e)]) from if_neg he] at hF
     cases hF
     repeat refine St (And.intro hlt <| And.intro hlt2 <| And.intro hml <| And.intro hw1 <| And.intro hg <| And.intro had <| he2) ct6 ?_
     exact AWP.ret (Fin trivial [] [])
 obtain rfl : i = l.length := by omega
 have hlt2 : ¬ (l.length : Int) < (l.length : Int) := by omega
 rw [List.drop_length, addsV] at hT
 subst hT
 rw [show loadR (L, 0) = (vwH L, .tup [.ptr 0 0 [], .t (.int .i64 0)]) from if_pos rfl] at hF
 cases hF
 repeat refine St hlt2 ct6 ?_
 exact AWP.ret (Fin @vwH.eq_def [] [0, 2])
theorem load_c (l : List TCoin) (h : l.length ≤ 900000) (h2 : lowL l = true) : F6 [.sq 37 (l.map coinT)] = some (loadR (addsV [] l)) := by
 have hi : inv (List.map coinT) (l.map coinT) = some l := inv_of (f := List.map coinT) (fun a b h => coins_inj a b h) l
 simp only [F6, hi]
 exact if_pos ⟨h, h2⟩
end Go.Fw

end

section
namespace Go.Fw
open Go Go.Proofs
noncomputable def F26 : Fun
 | [x, y] => match inv coinsT x, inv rfT y with
   | some l, some r => @ite _ ((l.length ≤ 1000000 ∧ Srt l)) (Classical.propDecidable _) ((some ([], .tup [.t (coinsT (spdV l r).1), .t (coinT (spdV l r).2.1), .t (.int .i64 (spdV l r).2.2)]))) none
   | _, _ => none
 | _ => none
theorem ct26 : CT [(33, ⟨[false, false], treeG F33⟩)] [0, 1, 3, 4, 5, 6, 7, 8, 9, 17] [(5, [⟨0, [9], [], []⟩, ⟨0, [0], [], []⟩, ⟨0, [7], [], []⟩, ⟨0, [27], [], []⟩, ⟨1, [26, 28], [], []⟩, ⟨2, [25, 29], [4], []⟩, ⟨0, [0], [], []⟩, ⟨0, [7], [], []⟩, ⟨0, [31, 32], [], []⟩, ⟨0, [33], [], []⟩, ⟨0, [30], [4, 5], []⟩, ⟨2, [5, 34], [4, 5], []⟩, ⟨0, [], [4, 5, 11], []⟩])] := ⟨(.cons c33.g (.nil _))⟩
set_option maxHeartbeats 2000000 in
theorem c26 : ACon Tryz.prog 26 F26 := by
 refine aconc E_ok (rs := [.tmp 4 22, .cell 5 41, .tmp 6 27]) Tryz.func26 rfl Tryz.ntmps26 (by kernel_rfl) rfl (by decide) F26 (np := 2) ?_ ?_
 · intro ts h; unfold F26; split <;> first | rfl | (simp at h; done)
 intro ts H r hF hwf
 unfold F26 at hF
 split at hF <;> try (cases hF; done)
 split at hF <;> try (cases hF; done)
 rename_i l r hl hr
 split at hF
 case isFalse => cases hF
 rename_i hcc
 obtain ⟨hlen, hsr⟩ := hcc
 cases hF
 obtain rfl := inv_inv hl
 obtain rfl := inv_inv hr
 have h := rplace_c l r hlen hsr
 have hml : (l.map coinT).length = l.length := List.length_map ..
 simp only [coinsT, rfT, spdV]
 cases hb : plB l r with
 | false =>
   rw [hb] at h
   rw [if_neg (by simp)]
   dsimp only
   rw [dCoin_T]
   generalize plN l r = R at *
   repeat refine St2 h ct26 ?_
   exact AWP.ret (Fin trivial [] [])
 | true =>
   have hlt := plB_lt hb
   have hlt2 : (plN l r : Int) < (l.length : Int) := by omega
   have h0 : (0 : Int) ≤ (plN l r : Int) := by omega
   have hle : plN l r ≤ l.length := by omega
   have hle2 : (plN l r : Int) ≤ (l.length : Int) := by omega
   have hle3 : ((plN l r + 1 : Nat) : Int) ≤ (l.length : Int) := by omega
   have hle4 : plN l r + 1 ≤ l.length := by omega
   have h1 : (0 : Int) ≤ ((plN l r + 1 : Nat) : Int) := by omega
   have hw1 : IntKind.i64.wrap ((plN l r : Int) + 1) = ((plN l r + 1 : Nat) : Int) := by rw [wrap_i64 (by omega) (by omega)]; omega
   have hg := coin_getD l (plN l r) hlt
   rw [hb] at h
   rw [if_pos rfl]
   dsimp only
   have hi : (delC l (plN l r) (plN l r + 1)).map coinT = (l.map coinT).take (plN l r) ++ (l.map coinT).drop (plN l r + 1) := by
     unfold delC
     rw [List.map_append, List.map_take, List.map_drop]
   have hl1 : ((l.map coinT).take (plN l r)).length = plN l r := by rw [List.length_take, hml]; omega
   have hl2 : ((l.map coinT).drop (plN l r + 1)).length = l.length - (plN l r + 1) := by rw [List.length_drop, hml]
   rw [hi]
   rw [coinT_st] at hg ⊢
   generalize l.getD (plN l r) dCoin = c at *
   generalize plN l r = R at *
   generalize l.map coinT = X at *
   repeat refine St2 (And.intro h <| And.intro hml <| And.intro hlt <| And.intro hlt2 <| And.intro h0 <| And.intro h1 <| And.intro hle <| And.intro hle2 <| And.intro hle3 <| And.intro hle4 <| And.intro hw1 <| And.intro hg <| And.intro hl1 <| hl2) ct26 ?_
   exact AWP.ret (Fin trivial [4] [])
theorem rspend_c (l : List TCoin) (r : TRef) (h : l.length ≤ 1000000) (h2 : Srt l) : F26 [.sq 37 (l.map coinT), .st [.ba 32 r.h.1, .int .u32 (r.i.toNat : Int)]] = some ([], .tup [.t (.sq 37 ((spdV l r).1.map coinT)), .t (coinT (spdV l r).2.1), .t (.int .i64 (spdV l r).2.2)]) := by
 show F26 [coinsT l, rfT r] = some ([], .tup [.t (coinsT (spdV l r).1), .t (coinT (spdV l r).2.1), .t (.int .i64 (spdV l r).2.2)])
 simp only [F26, inv_of coinsT_inj, inv_of rfT_inj]
 exact if_pos ⟨h, h2⟩
noncomputable def rloadR (R : List TCoin × Int) : List Blk × AV := @ite _ (R.2 = 0) (Classical.propDecidable _) ([], .tup [.t (.sq 37 (R.1.map coinT)), .t (.int .i64 0)]) ([], .tup [.t (.sq 37 []), .t (.int .i64 R.2)])
noncomputable def F7 : Fun
 | [x] => match inv coinsT x with
   | some l => @ite _ ((l.length ≤ 900000)) (Classical.propDecidable _) ((some (rloadR (addsV [] l)))) none
   | none => none
 | _ => none
theorem ct7 : CT [(21, ⟨[false, false], treeG F21⟩)] [0, 2, 3, 4, 5, 6, 11, 24] [] := ⟨(.cons c21.g (.nil _))⟩
set_option maxHeartbeats 2000000 in
theorem c7 : ACon Tryz.prog 7 F7 := by
 refine aconc E_ok (rs := [.tmp 2 22, .tmp 3 27]) Tryz.func7 rfl Tryz.ntmps7 (by kernel_rfl) rfl (by decide) F7 (np := 1) ?_ ?_
 · intro ts h; unfold F7; split <;> first | rfl | (simp at h; done)
 intro ts H r hF hwf
 unfold F7 at hF
 split at hF <;> try (cases hF; done)
 split at hF <;> try (cases hF; done)
 rename_i l hl
 split at hF
 case isFalse => cases hF
 rename_i hlen
 obtain rfl := inv_inv hl
 have hml : (l.map coinT).length = l.length := List.length_map ..
 obtain ⟨R, hR⟩ : ∃ R, addsV [] l = R := ⟨_, rfl⟩
 rw [hR] at hF
 simp only [coinsT]
 repeat refine St2 hml ct7 ?_
 refine AWP.weak (Weak.trans (Weak.freeze 0) (Weak.thawS (y := .sq 37 []) 4 rfl)) ?_
 refine AWP.loop (G := { x : Nat × List TCoin // x.1 ≤ l.length ∧ x.2.length ≤ x.1 ∧ Srt x.2 ∧ addsV x.2 (l.drop x.1) = R }) (fun x => ⟨[(0, .t (.sq 37 (l.map coinT))), (4, .t (.sq 37 (x.1.2.map coinT))), (6, .t (.int .i64 (x.1.1 : Int)))], []⟩) (fun x => l.length - x.1.1) ⟨⟨0, []⟩, Nat.zero_le _, Nat.le_refl _, Srt.nil, hR⟩ (Wt (@List.map_nil.{0, 0}) [0, 4, 6] []) ?_
 rintro ⟨⟨i, L⟩, hi, hL, hLs, hT⟩
 dsimp only at hi hL hLs hT ⊢
 clear hR
 by_cases hlt : i < l.length
 · have hlt2 : (i : Int) < (l.length : Int) := by omega
   have hw1 : IntKind.i64.wrap ((i : Int) + 1) = ((i + 1 : Nat) : Int) := by rw [wrap_i64 (by omega) (by omega)]; omega
   have hg := coin_getD l i hlt
   have hdr : l.drop i = l.getD i dCoin :: l.drop (i + 1) := by
     rw [List.drop_eq_getElem_cons hlt]
     simp [List.getD_eq_getElem?_getD, hlt]
   rw [hdr, addsV] at hT
   have had := radd_c L (l.getD i dCoin) (by omega) hLs
   have a1 := addV_srt hLs (l.getD i dCoin)
   have a2 : (addV L (l.getD i dCoin)).1.length ≤ L.length + 1 := by
     rcases addV_err L (l.getD i dCoin) with ⟨_, _, e⟩ | ⟨_, _, e⟩
     · rw [e, insC_len]; exact Nat.le_refl _
     · rw [e]; exact Nat.le_succ _
   rw [coinT_st] at hg had
   generalize l.getD i dCoin = c at *
   generalize addV L c = A at *
   obtain ⟨L', e⟩ := A
   dsimp only at hT had a1 a2
   by_cases he : e = 0
   · subst he
     rw [if_neg (by simp)] at hT
     have hd0 : ((0 : Int) != 0) = false := rfl
     repeat refine St2 (And.intro hlt <| And.intro hlt2 <| And.intro hml <| And.intro hw1 <| And.intro hg <| And.intro had <| hd0) ct7 ?_
     exact ⟨⟨⟨i + 1, L'⟩, by show i + 1 ≤ l.length; omega, by show L'.length ≤ i + 1; omega, a1, hT⟩, (Wt trivial [0, 4, 6] []), by simp only; omega⟩
   · rw [if_pos he] at hT
     have he2 : (e != 0) = true := by simpa using he
     subst hT
     rw [show rloadR (L', e) = ([], .tup [.t (.sq 37 []), .t (.int .i64 e)]) from if_neg he] at hF
     cases hF
     repeat refine St2 (And.intro hlt <| And.intro hlt2 <| And.intro hml <| And.intro hw1 <| And.intro hg <| And.intro had <| he2) ct7 ?_
     exact AWP.ret (Fin trivial [] [])
 obtain rfl : i = l.length := by omega
 have hlt2 : ¬ (l.length : Int) < (l.length : Int) := by omega
 rw [List.drop_length, addsV] at hT
 subst hT
 rw [show rloadR (L, 0) = ([], .tup [.t (.sq 37 (L.map coinT)), .t (.int .i64 0)]) from if_pos rfl] at hF
 cases hF
 repeat refine St2 (And.intro hlt2 <| hml) ct7 ?_
 exact AWP.ret (Fin trivial [] [])
theorem rload_c (l : List TCoin) (h : l.length ≤ 900000) : F7 [.sq 37 (l.map coinT)] = some (rloadR (addsV [] l)) := by
 show F7 [coinsT l] = _
 simp only [F7, inv_of coinsT_inj]
 exact if_pos h
noncomputable def F47 : Fun
 | [x, .bool first] => match inv txT x with
   | some t => some ([], .t (.int .i64 ((insR t first).length : Int)))
   | none => none
 | _ => none
theorem ct47 : CT [] [0, 1, 2, 4, 5] [] := ⟨GClOk.nil _⟩
theorem c47 : ACon Tryz.prog 47 F47 := by
 refine aconc E_ok (rs := [.tmp 4 3]) Tryz.func47 rfl Tryz.ntmps47 (by kernel_rfl) rfl (by decide) F47 (np := 2) ?_ ?_
 · intro ts h; unfold F47; split <;> first | rfl | (simp at h; done)
 intro ts H r hF hwf
 unfold F47 at hF
 split at hF <;> try (cases hF; done)
 rename_i x first
 split at hF <;> try (cases hF; done)
 rename_i t ht
 cases hF
 obtain rfl := inv_inv ht
 have hml : (t.ins.map inT).length = t.ins.length := List.length_map ..
 have hi : (insR t false).length = t.ins.length := by unfold insR; simp
 have hi2 : (insR t true).length = 0 := by unfold insR; simp
 rw [txT_st]
 cases first with
 | true =>
   rw [hi2]
   repeat refine St2 trivial ct47 ?_
   exact AWP.ret (Fin trivial [] [])
 | false =>
   rw [hi]
   repeat refine St2 hml ct47 ?_
   exact AWP.ret (Fin trivial [] [])
theorem rinputs_c (t : TTx) (first : Bool) : F47 [.st [.int .u32 (t.ver.toNat : Int), .sq 35 (t.ins.map inT), .sq 2 (t.outs.map outT), .int .u32 (t.lock.toNat : Int)], .bool first] = some ([], .t (.int .i64 ((insR t first).length : Int))) := by
 show F47 [txT t, .bool first] = _
 simp only [F47, inv_of txT_inj]
end Go.Fw

end

section
namespace Go.Fw
open Go Go.Proofs
theorem rname_tc (t : TTx) : F48 [txT t] = some ([], .t (.ba 32 (namO t))) := by simp only [F48, inv_of txT_inj]
theorem madeC_take (t : TTx) (nm : H32) (ht : UInt32) (first : Bool) {i : Nat} (hi : i < t.outs.length) : ((madeC t nm ht first).take (i + 1)).map coinT = ((madeC t nm ht first).take i).map coinT ++ [.st [.st [.ba 32 nm.1, .int .u32 ((UInt32.ofNat i).toNat : Int)], .st [.int .u64 ((t.outs.getD i dOut).val.toNat : Int), .by (t.outs.getD i dOut).scr], .int .u32 (ht.toNat : Int), .bool first]] := by
 rw [List.take_add_one, List.getElem?_eq_getElem (by rw [madeC_len]; exact hi), List.map_append]
 simp [madeC, coinT, rfT, outT]
noncomputable def F46 : Fun
 | [x, y, .bool first] => match inv txT x, inv h32T y with
   | some t, some ht => @ite _ ((t.outs.length ≤ 1000)) (Classical.propDecidable _) ((some ([], .t (coinsT (madeC t (nmH t) ht first))))) none
   | _, _ => none
 | _ => none
theorem ct46 : CT [(48, ⟨[false], treeG F48⟩)] [0, 1, 2, 3, 6, 7, 8, 9, 17] [(6, [⟨0, [8], [], []⟩, ⟨1, [7], [], []⟩, ⟨0, [9], [], []⟩, ⟨1, [22], [], []⟩, ⟨1, [21, 23], [1, 3], []⟩, ⟨0, [3], [], []⟩, ⟨1, [25], [], []⟩, ⟨0, [9], [], []⟩, ⟨1, [26, 27], [6], []⟩, ⟨1, [28], [6, 8], []⟩, ⟨0, [1], [], []⟩, ⟨0, [2], [], []⟩, ⟨1, [24, 29, 30, 31], [1, 3, 4, 6, 8, 9], []⟩, ⟨1, [32], [1, 3, 4, 6, 8, 9, 12], []⟩, ⟨2, [20, 33], [1, 3, 4, 6, 8, 9, 12, 13], []⟩, ⟨0, [34], [1, 3, 4, 6, 8, 9, 12, 13, 14], []⟩])] := ⟨(.cons c48.g (.nil _))⟩
set_option maxHeartbeats 2000000 in
theorem c46 : ACon Tryz.prog 46 F46 := by
 refine aconc E_ok (rs := [.tmp 6 22]) Tryz.func46 rfl Tryz.ntmps46 (by kernel_rfl) rfl (by decide) F46 (np := 3) ?_ ?_
 · intro ts h; unfold F46; split <;> first | rfl | (simp at h; done)
 intro ts H r hF hwf
 unfold F46 at hF
 split at hF <;> try (cases hF; done)
 rename_i x y first
 split at hF <;> try (cases hF; done)
 rename_i t ht htx hht
 split at hF
 case isFalse => cases hF
 rename_i hol
 cases hF
 obtain rfl := inv_inv htx
 obtain rfl := inv_inv hht
 have hnm := rname_tc t
 have hml : (t.outs.map outT).length = t.outs.length := List.length_map ..
 have hout : ∀ i, i < t.outs.length → (t.outs.map outT).getD i default = .st [.int .u64 ((t.outs.getD i dOut).val.toNat : Int), .by (t.outs.getD i dOut).scr] := fun i hi => by simp [hi, outT]
 rw [txT_st] at hnm ⊢
 simp only [coinsT, h32T]
 have hnl : namO t = (nmH t).1 := rfl
 rw [hnl] at hnm
 generalize nmH t = N at *
 have hmt := @madeC_take t N ht first
 have hmf : (madeC t N ht first).take t.outs.length = madeC t N ht first := List.take_of_length_le (by rw [madeC_len]; exact Nat.le_refl _)
 have hmk : ∀ i, (((madeC t N ht first).take i).map coinT).length ≤ 1000 := fun i => by rw [List.length_map, List.length_take, madeC_len]; omega
 generalize hMM : madeC t N ht first = MM at *
 repeat refine St (And.intro hnm <| hml) ct46 ?_
 refine AWP.loop (G := { i : Nat // i ≤ t.outs.length }) (fun i => ⟨[(1, .t (.int .u32 (ht.toNat : Int))), (2, .t (.bool first)), (3, .ptr 0 0 []), (7, .ptr 1 0 []), (8, .own 2), (9, .t (.int .i64 (i.1 : Int)))], [.bx (.t (.st [.int .u32 (t.ver.toNat : Int), .sq 35 (t.ins.map inT), .sq 2 (t.outs.map outT), .int .u32 (t.lock.toNat : Int)])), .bx (.t (.ba 32 N.1)), .sq 37 ((MM.take i.1).map coinT)]⟩) (fun i => t.outs.length - i.1) ⟨0, Nat.zero_le _⟩ (Wt (And.intro @List.take_zero.{0} <| @List.map_nil.{0, 0}) [1, 2, 3, 7, 8, 9] [0, 1, 2]) ?_
 rintro ⟨i, hi⟩
 dsimp only
 by_cases hlt : i < t.outs.length
 · have hlt2 : (i : Int) < (t.outs.length : Int) := by omega
   have hw1 : IntKind.i64.wrap ((i : Int) + 1) = ((i + 1 : Nat) : Int) := by rw [wrap_i64 (by omega) (by omega)]; omega
   have hw2 : IntKind.u32.wrap (i : Int) = ((UInt32.ofNat i).toNat : Int) := by
     rw [wrap_u32 (by omega) (by omega), UInt32.toNat_ofNat', Nat.mod_eq_of_lt (by omega)]
   have hg := hout i hlt
   have hx := hmt hlt
   have hk := hmk i
   clear hmt hmf hmk hMM hout
   generalize t.outs.getD i dOut = o at *
   generalize UInt32.ofNat i = ui at *
   generalize (MM.take i).map coinT = X at *
   repeat refine St (And.intro hml <| And.intro hlt <| And.intro hlt2 <| And.intro hw1 <| And.intro hw2 <| And.intro hg <| hk) ct46 ?_
   exact ⟨⟨i + 1, by omega⟩, (Wt hx [1, 2, 3, 7, 8, 9] [0, 1, 4]), by simp only; omega⟩
 obtain rfl : i = t.outs.length := by omega
 have hlt2 : ¬ (t.outs.length : Int) < (t.outs.length : Int) := by omega
 rw [hmf]
 repeat refine St (And.intro hml <| hlt2) ct46 ?_
 exact AWP.ret (Fin trivial [2] [])
theorem rmade_c (t : TTx) (ht : UInt32) (first : Bool) (h : t.outs.length ≤ 1000) : F46 [.st [.int .u32 (t.ver.toNat : Int), .sq 35 (t.ins.map inT), .sq 2 (t.outs.map outT), .int .u32 (t.lock.toNat : Int)], .int .u32 (ht.toNat : Int), .bool first] = some ([], .t (.sq 37 ((madeC t (nmH t) ht first).map coinT))) := by
 show F46 [txT t, h32T ht, .bool first] = some ([], .t (coinsT (madeC t (nmH t) ht first)))
 simp only [F46, inv_of txT_inj, inv_of h32T_inj]
 exact if_pos h
end Go.Fw

end

section
namespace Go.Fw
open Go Go.Proofs
theorem applyV_ok {l : List TCoin} (h : lowL l = true) (t : TTx) (nm : H32) (ht : UInt32) (first : Bool) :
   lowL (applyV l t nm ht first).1 = true ∧ (applyV l t nm ht first).1.length ≤ l.length + 20 ∧ lowL (applyV l t nm ht first).2.1 = true ∧ (applyV l t nm ht first).2.1.length ≤ 20 := by
 obtain ⟨t1, t2, t3, t4⟩ := takeV_ok (insR t first) l [] h rfl
 unfold applyV
 rcases chk_two t with ⟨e1, e2, e3⟩ | ⟨e1, e2⟩
 rotate_left
 · rw [if_pos (by rw [e1]; decide)]
   exact ⟨h, by simp, rfl, by simp⟩
 rw [if_neg (by rw [e1]; simp)]
 obtain ⟨c1, c2, c3, _⟩ := countsB_ok e2
 have hrl : (insR t first).length ≤ 20 := by unfold insR; split <;> simp <;> omega
 simp only [List.length_nil, Nat.zero_add] at t4
 split
 · exact ⟨t1, by simp only; omega, rfl, by simp⟩
 · have hmk := madeC_low e2 nm ht first
   obtain ⟨a1, a2⟩ := addsV_ok (madeC t nm ht first) _ t1 hmk
   rw [madeC_len] at a2
   split
   · exact ⟨a1, by simp only; omega, rfl, by simp⟩
   · exact ⟨a1, by simp only; omega, t3, by simp only; omega⟩
theorem blkV_ok (nm : TTx → H32) (ht : UInt32) : ∀ (ts : List TTx) (l acc : List TCoin) (first : Bool), lowL l = true → lowL acc = true →
   lowL (blkV nm ht l ts first acc).1 = true ∧ (blkV nm ht l ts first acc).1.length ≤ l.length + 20 * ts.length ∧ lowL (blkV nm ht l ts first acc).2.1 = true ∧ (blkV nm ht l ts first acc).2.1.length ≤ acc.length + 20 * ts.length
 | [], l, acc, first, h, ha => ⟨h, by simp [blkV], ha, by simp [blkV]⟩
 | t :: ts, l, acc, first, h, ha => by
   obtain ⟨a1, a2, a3, a4⟩ := applyV_ok h t (nm t) ht first
   unfold blkV
   rw [List.length_cons]
   split
   · exact ⟨a1, by simp only; omega, ha, by simp only; omega⟩
   · obtain ⟨b1, b2, b3, b4⟩ := blkV_ok nm ht ts (applyV l t (nm t) ht first).1 (acc ++ (applyV l t (nm t) ht first).2.1) false a1 (by rw [lowL_app, ha, a3]; rfl)
     rw [List.length_append] at b4
     exact ⟨b1, by omega, b3, by omega⟩
structure BkX where
 l : List TCoin
 ts : List TTx
 ht : UInt32
noncomputable def bkH (x : BkX) : List Blk := [.bx (.st [.own 1]), .sq 37 (x.l.map coinT), .bx (.t (txsT x.ts)), .bx (.t (.fn 36)), .bx (.t (h32T x.ht)), .bx (.t .nil)]
theorem bkH_inj (a b : BkX) (h : bkH a = bkH b) : a = b := by
 obtain ⟨l1, t1, h1⟩ := a
 obtain ⟨l2, t2, h2⟩ := b
 simp only [bkH, List.cons.injEq, Blk.sq.injEq, Blk.bx.injEq, AV.t.injEq, true_and, and_true] at h
 obtain ⟨g1, g2, g3⟩ := h
 rw [coins_inj _ _ g1, txsT_inj _ _ g2, h32T_inj _ _ g3]
noncomputable def bkN (x : BkX) (l sp : List TCoin) : List Blk := [.bx (.st [.own 6]), .no, .bx (.t (txsT x.ts)), .bx (.t (.fn 36)), .bx (.t (h32T x.ht)), .bx (.t (.sq 37 (sp.map coinT))), .sq 37 (l.map coinT)]
noncomputable def bk1 (x : BkX) : List TCoin × List TCoin × Int := blkV nmH x.ht x.l x.ts true []
noncomputable def G42 : GFun
 | HB, [.ptr 0 0 [], .ptr 2 0 [], .ptr 3 0 [], .ptr 4 0 [], .ptr 5 0 []] => match inv bkH HB with
   | some x => @ite _ ((x.l.length ≤ 400000 ∧ lowL x.l = true ∧ x.ts.length ≤ 10000)) (Classical.propDecidable _) ((some (bkN x (bk1 x).1 (bk1 x).2.1, .t (.int .i64 (bk1 x).2.2)))) none
   | none => none
 | _, _ => none
theorem ct42 : CT [(36, ⟨[true, false, false, false], G36⟩)] [0, 1, 2, 3, 4, 6, 7, 8, 9, 10, 11, 12, 13, 14, 29] [] := ⟨(.cons g36 (.nil _))⟩
theorem txs_getD (l : List TTx) (k : Nat) (h : k < l.length) : (l.map txT).getD k default = txT (l.getD k dTx) := by simp [h]
set_option maxHeartbeats 4000000 in
theorem g42 : GCon Tryz.prog 42 G42 := by
 refine gconc E_ok (rs := [.tmp 6 27]) Tryz.func42 rfl Tryz.ntmps42 (by kernel_rfl) rfl (by decide) G42 (np := 5) ?_ ?_
 · intro HB xs h; unfold G42; split <;> first | rfl | (simp at h; done)
 intro HB xs H r hG hwf hex
 unfold G42 at hG
 split at hG <;> try (cases hG; done)
 split at hG <;> try (cases hG; done)
 rename_i x hx
 split at hG
 case isFalse => cases hG
 rename_i hcc
 cases hG
 obtain ⟨hlen, hlow, htl⟩ := hcc
 obtain rfl := inv_inv hx
 obtain ⟨l, ts, ht⟩ := x
 dsimp only at hlen hlow htl
 have hml : (ts.map txT).length = ts.length := List.length_map ..
 obtain ⟨R, hR⟩ : ∃ R, blkV nmH ht l ts true [] = R := ⟨_, rfl⟩
 simp only [bkH, bkN, bk1, h32T, hR]
 refine AWP.weak (Weak.ownBx (v' := _) 5 [] 0 (.sq 37 []) rfl (by simp only [W, eqq, ↓reduceIte, Nat.reduceEqDiff, Nat.reduceLT, Nat.reduceLeDiff, Nat.reduceAdd, Nat.reduceMul, Nat.reduceSub, Nat.reduceBEq, Int.reduceLE, Int.reduceLT, Int.reduceNeg, Int.reduceToNat, Int.reduceEq, Int.reduceBEq, Int.reduceBNe, Nat.reduceBNe, bne_self_eq_false, reduceCtorEq, gt_iff_lt, ge_iff_le]) (by simp only [W, eqq, ↓reduceIte, Nat.reduceEqDiff, Nat.reduceLT, Nat.reduceLeDiff, Nat.reduceAdd, Nat.reduceMul, Nat.reduceSub, Nat.reduceBEq, Int.reduceLE, Int.reduceLT, Int.reduceNeg, Int.reduceToNat, Int.reduceEq, Int.reduceBEq, Int.reduceBNe, Nat.reduceBNe, bne_self_eq_false, reduceCtorEq, gt_iff_lt, ge_iff_le]) (by simp only [W, eqq, ↓reduceIte, Nat.reduceEqDiff, Nat.reduceLT, Nat.reduceLeDiff, Nat.reduceAdd, Nat.reduceMul, Nat.reduceSub, Nat.reduceBEq, Int.reduceLE, Int.reduceLT, Int.reduceNeg, Int.reduceToNat, Int.reduceEq, Int.reduceBEq, Int.reduceBNe, Nat.reduceBNe, bne_self_eq_false, reduceCtorEq, gt_iff_lt, ge_iff_le]; rfl) (.inr ⟨_, by decide, rfl⟩)) ?_
 refine AWP.weak (Weak.moveBx (v' := _) 0 1 [0] 0 _ rfl rfl rfl (by decide) (by simp only [W, eqq, ↓reduceIte, Nat.reduceEqDiff, Nat.reduceLT, Nat.reduceLeDiff, Nat.reduceAdd, Nat.reduceMul, Nat.reduceSub, Nat.reduceBEq, Int.reduceLE, Int.reduceLT, Int.reduceNeg, Int.reduceToNat, Int.reduceEq, Int.reduceBEq, Int.reduceBNe, Nat.reduceBNe, bne_self_eq_false, reduceCtorEq, gt_iff_lt, ge_iff_le]) (by simp only [W, eqq, ↓reduceIte, Nat.reduceEqDiff, Nat.reduceLT, Nat.reduceLeDiff, Nat.reduceAdd, Nat.reduceMul, Nat.reduceSub, Nat.reduceBEq, Int.reduceLE, Int.reduceLT, Int.reduceNeg, Int.reduceToNat, Int.reduceEq, Int.reduceBEq, Int.reduceBNe, Nat.reduceBNe, bne_self_eq_false, reduceCtorEq, gt_iff_lt, ge_iff_le]) (by simp only [W, eqq, ↓reduceIte, Nat.reduceEqDiff, Nat.reduceLT, Nat.reduceLeDiff, Nat.reduceAdd, Nat.reduceMul, Nat.reduceSub, Nat.reduceBEq, Int.reduceLE, Int.reduceLT, Int.reduceNeg, Int.reduceToNat, Int.reduceEq, Int.reduceBEq, Int.reduceBNe, Nat.reduceBNe, bne_self_eq_false, reduceCtorEq, gt_iff_lt, ge_iff_le]; rfl)) ?_
 repeat refine St (And.intro (And.intro @gentry.eq_1 <| @gentry.eq_2) <| hml) ct42 ?_
 refine AWP.loop (G := { x : Nat × List TCoin × List TCoin // x.1 ≤ ts.length ∧ x.2.1.length ≤ 400000 + 20 * x.1 ∧ lowL x.2.1 = true ∧ x.2.2.length ≤ 20 * x.1 ∧ blkV nmH ht x.2.1 (ts.drop x.1) (decide (x.1 = 0)) x.2.2 = R }) (fun x => ⟨[(0, .ptr 0 0 []), (1, .ptr 2 0 []), (2, .ptr 3 0 []), (3, .ptr 4 0 []), (4, .ptr 5 0 []), (11, .t (txsT ts)), (12, .t (.int .i64 (ts.length : Int))), (13, .t (.int .i64 (x.1.1 : Int)))], [.bx (.st [.own 6]), .no, .bx (.t (txsT ts)), .bx (.t (.fn 36)), .bx (.t (.int .u32 (ht.toNat : Int))), .bx (.own 7), .sq 37 (x.1.2.1.map coinT), .sq 37 (x.1.2.2.map coinT)]⟩) (fun x => ts.length - x.1.1) ⟨⟨0, l, []⟩, Nat.zero_le _, by show l.length ≤ 400000 + 20 * 0; omega, hlow, Nat.le_refl _, hR⟩ (Wt (@List.map_nil.{0, 0}) [0, 1, 2, 3, 4, 11, 12, 13] [0, 1, 2, 3, 4, 5, 7, 6]) ?_
 rintro ⟨⟨i, L, A⟩, hi, hL, hLl, hA, hT⟩
 dsimp only at hi hL hLl hA hT ⊢
 clear hR hlen hlow
 have hmA : (A.map coinT).length ≤ 1000000 := by rw [List.length_map]; omega
 by_cases hlt : i < ts.length
 · have hlt2 : (i : Int) < (ts.length : Int) := by omega
   have hw1 : IntKind.i64.wrap ((i : Int) + 1) = ((i + 1 : Nat) : Int) := by rw [wrap_i64 (by omega) (by omega)]; omega
   have hb0 : ((i : Int) == 0) = decide (i = 0) := by
     rw [Bool.eq_iff_iff, beq_iff_eq, decide_eq_true_eq]; omega
   have hg := txs_getD ts i hlt
   have hdr : ts.drop i = ts.getD i dTx :: ts.drop (i + 1) := by
     rw [List.drop_eq_getElem_cons hlt]
     simp [List.getD_eq_getElem?_getD, hlt]
   rw [hdr, blkV] at hT
   have hap := apply_vc L (ts.getD i dTx) ht (decide (i = 0)) (by omega) hLl
   obtain ⟨a1, a2, a3, a4⟩ := applyV_ok hLl (ts.getD i dTx) (nmH (ts.getD i dTx)) ht (decide (i = 0))
   rw [txT_st] at hg hap
   generalize ts.getD i dTx = t at *
   obtain ⟨f, hfi⟩ : ∃ f, decide (i = 0) = f := ⟨_, rfl⟩
   rw [hfi] at hap a1 a2 a3 a4 hT hb0
   generalize applyV L t (nmH t) ht f = Z at *
   obtain ⟨L', sp, e⟩ := Z
   dsimp only at hT hap a1 a2 a3 a4
   simp only [vwN] at hap
   by_cases he : e = 0
   · subst he
     rw [if_neg (by simp)] at hT
     have hd0 : ((0 : Int) != 0) = false := rfl
     have hmap : (A ++ sp).map coinT = A.map coinT ++ sp.map coinT := List.map_append ..
     have hms : (sp.map coinT).length ≤ 1000000 := by rw [List.length_map]; omega
     have hf2 : decide (i + 1 = 0) = false := by simp
     generalize A.map coinT = X at *
     generalize sp.map coinT = Y at *
     repeat refine St (And.intro hlt <| And.intro hlt2 <| And.intro hml <| And.intro hw1 <| And.intro hb0 <| And.intro hg <| And.intro hap <| And.intro hmA <| And.intro hms <| hd0) ct42 ?_
     exact ⟨⟨⟨i + 1, L', A ++ sp⟩, by show i + 1 ≤ ts.length; omega, by show L'.length ≤ 400000 + 20 * (i + 1); omega, a1, by show (A ++ sp).length ≤ 20 * (i + 1); rw [List.length_append]; omega, by dsimp only; rw [hf2]; exact hT⟩, (Wt hmap [0, 1, 2, 3, 4, 11, 12, 13] [0, 1, 2, 3, 4, 5, 9, 10]), by simp only; omega⟩
   · rw [if_pos he] at hT
     have he2 : (e != 0) = true := by simpa using he
     subst hT
     dsimp only
     repeat refine St (And.intro hlt <| And.intro hlt2 <| And.intro hml <| And.intro hw1 <| And.intro hb0 <| And.intro hg <| And.intro hap <| he2) ct42 ?_
     refine AWP.weak (Weak.trans (Weak.freeze 7) (Weak.thawBx 5 (y := .sq 37 (A.map coinT)) rfl rfl)) ?_
     exact AWP.ret (Fin trivial [] [0, 1, 2, 3, 4, 5, 9])
 obtain rfl : i = ts.length := by omega
 have hlt2 : ¬ (ts.length : Int) < (ts.length : Int) := by omega
 rw [List.drop_length, blkV] at hT
 subst hT
 dsimp only
 repeat refine St hlt2 ct42 ?_
 refine AWP.weak (Weak.trans (Weak.freeze 7) (Weak.thawBx 5 (y := .sq 37 (A.map coinT)) rfl rfl)) ?_
 exact AWP.ret (Fin trivial [] [0, 1, 2, 3, 4, 5, 6])
end Go.Fw

end

section
namespace Go.Fw
open Go Go.Proofs
theorem takeV_srt : ∀ (rs : List TRef) (l acc : List TCoin), Srt l → Srt (takeV l rs acc).1
 | [], l, acc, h => h
 | r :: rs, l, acc, h => by
   unfold takeV
   split
   · exact spdV_srt h r
   · exact takeV_srt rs _ _ (spdV_srt h r)
theorem insR_le (t : TTx) (f : Bool) : (insR t f).length ≤ t.ins.length := by unfold insR; split <;> simp
theorem spdV_len (l : List TCoin) (r : TRef) : (spdV l r).1.length ≤ l.length := by
 unfold spdV
 split
 · exact delC_len _ _
 · exact Nat.le_refl _
theorem addV_len (l : List TCoin) (c : TCoin) : (addV l c).1.length ≤ l.length + 1 := by
 rcases addV_err l c with ⟨_, _, e⟩ | ⟨_, _, e⟩
 · rw [e, insC_len]; exact Nat.le_refl _
 · rw [e]; exact Nat.le_succ _
theorem appV_chk {l : List TCoin} {t : TTx} {ht : UInt32} {first : Bool} (h : chkE t = 4) : appV l t ht first = (l, [], 4) := by
 have e : applyV l t (nmH t) ht first = (l, [], 4) := by
   unfold applyV
   rw [if_pos (by rw [h]; decide)]
 unfold appV
 rw [e, if_neg (by simp)]
theorem appV_take {l : List TCoin} {t : TTx} {ht : UInt32} {first : Bool} (h : chkE t = 0) {K : List TCoin × List TCoin × Int} (hK : takeV l (insR t first) [] = K) (he : K.2.2 ≠ 0) : appV l t ht first = (l, [], K.2.2) := by
 have e : applyV l t (nmH t) ht first = (K.1, [], K.2.2) := by
   unfold applyV
   rw [if_neg (by rw [h]; simp), hK, if_pos he]
 unfold appV
 rw [e, if_neg he]
theorem appV_adds {l : List TCoin} {t : TTx} {ht : UInt32} {first : Bool} (h : chkE t = 0) {L A : List TCoin} (hK : takeV l (insR t first) [] = (L, A, 0)) {B : List TCoin × Int} (hB : addsV L (madeC t (nmH t) ht first) = B) (he : B.2 ≠ 0) : appV l t ht first = (l, [], B.2) := by
 have e : applyV l t (nmH t) ht first = (B.1, [], B.2) := by
   unfold applyV
   rw [if_neg (by rw [h]; simp), hK, if_neg (by simp), hB, if_pos he]
 unfold appV
 rw [e, if_neg he]
theorem appV_ok {l : List TCoin} {t : TTx} {ht : UInt32} {first : Bool} (h : chkE t = 0) {L A B : List TCoin} (hK : takeV l (insR t first) [] = (L, A, 0)) (hB : addsV L (madeC t (nmH t) ht first) = (B, 0)) : appV l t ht first = (B, A, 0) := by
 have e : applyV l t (nmH t) ht first = (B, A, 0) := by
   unfold applyV
   rw [if_neg (by rw [h]; simp), hK, if_neg (by simp), hB, if_neg (by simp)]
 unfold appV
 rw [e, if_pos rfl]
noncomputable def F27 : Fun
 | [w, x, y, .bool first] => match inv coinsT w, inv txT x, inv h32T y with
   | some l, some t, some ht => @ite _ ((l.length ≤ 900000 ∧ Srt l)) (Classical.propDecidable _) ((some ([], .tup [.t (coinsT (appV l t ht first).1), .t (coinsT (appV l t ht first).2.1), .t (.int .i64 (appV l t ht first).2.2)]))) none
   | _, _, _ => none
 | _ => none
theorem ct27 : CT [(21, ⟨[false, false], treeG F21⟩), (26, ⟨[false, false], treeG F26⟩), (45, ⟨[false], treeG F45⟩), (46, ⟨[false, false, false], treeG F46⟩)] [0, 1, 2, 3, 5, 8, 9, 10, 11, 12, 13, 14, 15, 16, 17, 18, 19, 20, 23, 35, 51, 66, 79] [] := ⟨(.cons c21.g (.cons c26.g (.cons c45.g (.cons c46.g (.nil _)))))⟩
set_option maxRecDepth 8000 in
set_option maxHeartbeats 8000000 in
theorem c27 : ACon Tryz.prog 27 F27 := by
 refine aconc E_ok (rs := [.tmp 8 22, .tmp 9 22, .tmp 10 27]) Tryz.func27 rfl Tryz.ntmps27 (by kernel_rfl) rfl (by decide) F27 (np := 4) ?_ ?_
 · intro ts h; unfold F27; split <;> first | rfl | (simp at h; done)
 intro ts H r hF hwf
 unfold F27 at hF
 split at hF <;> try (cases hF; done)
 rename_i w x y first
 split at hF <;> try (cases hF; done)
 rename_i l t ht hl htx hht
 split at hF
 case isFalse => cases hF
 rename_i hcc
 obtain ⟨hlen, hsr⟩ := hcc
 cases hF
 obtain rfl := inv_inv hl
 obtain rfl := inv_inv htx
 obtain rfl := inv_inv hht
 have hck := rcheck_c t
 have hml : (t.ins.map inT).length = t.ins.length := List.length_map ..
 have hin : ∀ i, i < t.ins.length → (t.ins.map inT).getD i default = .st [.st [.ba 32 (t.ins.getD i dIn).prev.1, .int .u32 ((t.ins.getD i dIn).idx.toNat : Int)], .int .u32 ((t.ins.getD i dIn).seq.toNat : Int), .sq 1 ((t.ins.getD i dIn).wit.map .by)] := fun i hi => by simp [hi, inT, refT]
 obtain ⟨R, hR⟩ : ∃ R, appV l t ht first = R := ⟨_, rfl⟩
 rw [hR]
 rw [txT_st] at hck ⊢
 simp only [coinsT, h32T]
 rcases chk_two t with ⟨e1, e2, e3⟩ | ⟨e1, e2⟩
 rotate_left
 · rw [e1] at hck
   rw [appV_chk e1] at hR
   subst hR
   repeat refine St hck ct27 ?_
   exact AWP.ret (Fin (@List.map_nil.{0, 0}) [] [])
 rw [e1] at hck
 obtain ⟨c1, c2, c3, _⟩ := countsB_ok e2
 have hd0 : ((0 : Int) != 0) = false := rfl
 obtain ⟨K, hK⟩ : ∃ K, takeV l (insR t first) [] = K := ⟨_, rfl⟩
 have aK := @appV_take l t ht first e1 K hK
 rw [hR] at aK
 iterate 11 (try refine St (And.intro hck <| hd0) ct27 ?_)
 refine AWP.cut (G := { x : List TCoin × List TCoin // (x.1, x.2, 0) = K ∧ x.1.length ≤ 900000 ∧ Srt x.1 ∧ x.2.length ≤ 1000 }) (fun x => ⟨[(0, .t (.sq 37 (l.map coinT))), (2, .t (.int .u32 (ht.toNat : Int))), (3, .t (.bool first)), (5, .ptr 0 0 []), (11, .t (.sq 37 (x.1.1.map coinT))), (12, .own 1)], [.bx (.t (.st [.int .u32 (t.ver.toNat : Int), .sq 35 (t.ins.map inT), .sq 2 (t.outs.map outT), .int .u32 (t.lock.toNat : Int)])), .sq 37 (x.1.2.map coinT)]⟩) ?_ ?_
 · repeat refine St trivial ct27 ?_
   refine AWP.loop (G := { x : Nat × List TCoin × List TCoin // x.1 ≤ (insR t first).length ∧ x.2.1.length ≤ 900000 ∧ Srt x.2.1 ∧ x.2.2.length ≤ x.1 ∧ takeV x.2.1 ((insR t first).drop x.1) x.2.2 = K }) (fun x => ⟨[(0, .t (.sq 37 (l.map coinT))), (2, .t (.int .u32 (ht.toNat : Int))), (3, .t (.bool first)), (5, .ptr 0 0 []), (11, .t (.sq 37 (x.1.2.1.map coinT))), (12, .own 1), (13, .t (.int .i64 (x.1.1 : Int)))], [.bx (.t (.st [.int .u32 (t.ver.toNat : Int), .sq 35 (t.ins.map inT), .sq 2 (t.outs.map outT), .int .u32 (t.lock.toNat : Int)])), .sq 37 (x.1.2.2.map coinT)]⟩) (fun x => (insR t first).length - x.1.1) ⟨⟨0, l, []⟩, Nat.zero_le _, hlen, hsr, Nat.le_refl _, hK⟩ (Wt (@List.map_nil.{0, 0}) [0, 2, 3, 5, 11, 12, 13] [0, 1]) ?_
   rintro ⟨⟨i, L, A⟩, hi, hL, hLs, hA, hT⟩
   dsimp only at hi hL hLs hA hT ⊢
   by_cases hlt : i < (insR t first).length
   · cases first with
     | true => simp [insR] at hlt
     | false =>
     have hrl : (insR t false).length = t.ins.length := by simp [insR]
     have hli : i < t.ins.length := by omega
     have hlt2 : (i : Int) < (t.ins.length : Int) := by omega
     have hw1 : IntKind.i64.wrap ((i : Int) + 1) = ((i + 1 : Nat) : Int) := by rw [wrap_i64 (by omega) (by omega)]; omega
     have hg := hin i hli
     have hdr : (insR t false).drop i = ⟨(t.ins.getD i dIn).prev, (t.ins.getD i dIn).idx⟩ :: (insR t false).drop (i + 1) := by
       rw [List.drop_eq_getElem_cons hlt]
       simp [insR, List.getD_eq_getElem?_getD, hli]
     rw [hdr, takeV] at hT
     have hsp := rspend_c L ⟨(t.ins.getD i dIn).prev, (t.ins.getD i dIn).idx⟩ (by omega) hLs
     have s1 := spdV_srt hLs ⟨(t.ins.getD i dIn).prev, (t.ins.getD i dIn).idx⟩
     have s2 := spdV_len L ⟨(t.ins.getD i dIn).prev, (t.ins.getD i dIn).idx⟩
     clear hdr hin
     generalize t.ins.getD i dIn = u at *
     generalize spdV L ⟨u.prev, u.idx⟩ = S at *
     obtain ⟨L', cc, e⟩ := S
     dsimp only at hT hsp s1 s2
     rw [coinT_st] at hsp
     by_cases he : e = 0
     · subst he
       rw [if_neg (by simp)] at hT
       have hap : (A ++ [cc]).map coinT = A.map coinT ++ [.st [.st [.ba 32 cc.r.h.1, .int .u32 (cc.r.i.toNat : Int)], .st [.int .u64 (cc.out.val.toNat : Int), .by cc.out.scr], .int .u32 (cc.ht.toNat : Int), .bool cc.first]] := by rw [List.map_append]; rfl
       have hal : (A.map coinT).length ≤ 1000000 := by rw [List.length_map]; omega
       generalize A.map coinT = X at *
       repeat refine St (And.intro hlt2 <| And.intro hli <| And.intro hml <| And.intro hw1 <| And.intro hg <| And.intro hsp <| And.intro hd0 <| hal) ct27 ?_
       exact ⟨⟨⟨i + 1, L', A ++ [cc]⟩, by show i + 1 ≤ (insR t false).length; omega, by show L'.length ≤ 900000; omega, s1, by show (A ++ [cc]).length ≤ i + 1; simp; omega, hT⟩, (Wt hap [0, 2, 3, 5, 11, 12, 13] [0, 4]), by simp only; omega⟩
     · rw [if_pos he] at hT
       have he2 : (e != 0) = true := by simpa using he
       subst hT
       have hR2 := aK he
       subst hR2
       dsimp only
       repeat refine St (And.intro hlt2 <| And.intro hli <| And.intro hml <| And.intro hw1 <| And.intro hg <| And.intro hsp <| he2) ct27 ?_
       exact AWP.ret (Fin (@List.map_nil.{0, 0}) [] [])
   obtain rfl : i = (insR t first).length := by omega
   rw [List.drop_length, takeV] at hT
   have hex : ∃ x : { x : List TCoin × List TCoin // (x.1, x.2, 0) = K ∧ x.1.length ≤ 900000 ∧ Srt x.1 ∧ x.2.length ≤ 1000 }, x.1 = (L, A) :=
     ⟨⟨(L, A), hT, hL, hLs, by have := insR_le t first; show A.length ≤ 1000; omega⟩, rfl⟩
   obtain ⟨x0, hx0⟩ := hex
   have hx1 : x0.1.1 = L := by rw [hx0]
   have hx2 : x0.1.2 = A := by rw [hx0]
   subst hx1 hx2
   cases first with
   | false =>
     have hrl : (insR t false).length = t.ins.length := by simp [insR]
     have hlt2 : ¬ ((insR t false).length : Int) < (t.ins.length : Int) := by omega
     repeat refine St (And.intro hlt2 <| hml) ct27 ?_
     exact ⟨x0, (Wt trivial [0, 2, 3, 5, 11, 12] [0, 1])⟩
   | true =>
     by_cases hlt2 : (((insR t true).length : Nat) : Int) < (t.ins.length : Int)
     · repeat refine St (And.intro hlt2 <| hml) ct27 ?_
       exact ⟨x0, (Wt trivial [0, 2, 3, 5, 11, 12] [0, 1])⟩
     · repeat refine St (And.intro hlt2 <| hml) ct27 ?_
       exact ⟨x0, (Wt trivial [0, 2, 3, 5, 11, 12] [0, 1])⟩
 rintro ⟨⟨L, A⟩, hT, hL, hLs, hA⟩
 dsimp only at hT hL hLs hA ⊢
 have hK2 : takeV l (insR t first) [] = (L, A, 0) := hK.trans hT.symm
 have hmd := rmade_c t ht first (by omega)
 obtain ⟨B, hB⟩ : ∃ B, addsV L (madeC t (nmH t) ht first) = B := ⟨_, rfl⟩
 have aB := @appV_adds l t ht first e1 L A hK2 B hB
 have aO := @appV_ok l t ht first e1 L A
 rw [hR] at aB aO
 have hMl := madeC_len t (nmH t) ht first
 generalize madeC t (nmH t) ht first = MM at *
 have hmm : (MM.map coinT).length = MM.length := List.length_map ..
 repeat refine St hmd ct27 ?_
 refine AWP.loop (G := { x : Nat × List TCoin // x.1 ≤ MM.length ∧ x.2.length ≤ 900000 + x.1 ∧ Srt x.2 ∧ addsV x.2 (MM.drop x.1) = B }) (fun x => ⟨[(0, .t (.sq 37 (l.map coinT))), (11, .t (.sq 37 (x.1.2.map coinT))), (12, .own 1), (17, .t (.sq 37 (MM.map coinT))), (18, .t (.int .i64 (x.1.1 : Int)))], [.bx (.t (.st [.int .u32 (t.ver.toNat : Int), .sq 35 (t.ins.map inT), .sq 2 (t.outs.map outT), .int .u32 (t.lock.toNat : Int)])), .sq 37 (A.map coinT)]⟩) (fun x => MM.length - x.1.1) ⟨⟨0, L⟩, Nat.zero_le _, by show L.length ≤ 900000 + 0; omega, hLs, hB⟩ (Wt trivial [0, 11, 12, 17, 18] [0, 1]) ?_
 rintro ⟨⟨i, L2⟩, hi, hL2, hL2s, hT⟩
 dsimp only at hi hL2 hL2s hT ⊢
 by_cases hlt : i < MM.length
 · have hlt2 : (i : Int) < (MM.length : Int) := by omega
   have hw1 : IntKind.i64.wrap ((i : Int) + 1) = ((i + 1 : Nat) : Int) := by rw [wrap_i64 (by omega) (by omega)]; omega
   have hg := coin_getD MM i hlt
   have hdr : MM.drop i = MM.getD i dCoin :: MM.drop (i + 1) := by
     rw [List.drop_eq_getElem_cons hlt]
     simp [List.getD_eq_getElem?_getD, hlt]
   rw [hdr, addsV] at hT
   have had := radd_c L2 (MM.getD i dCoin) (by omega) hL2s
   have a1 := addV_srt hL2s (MM.getD i dCoin)
   have a2 := addV_len L2 (MM.getD i dCoin)
   rw [coinT_st] at hg had
   generalize MM.getD i dCoin = c at *
   generalize addV L2 c = Z at *
   obtain ⟨L', e⟩ := Z
   dsimp only at hT had a1 a2
   by_cases he : e = 0
   · subst he
     rw [if_neg (by simp)] at hT
     repeat refine St (And.intro hlt <| And.intro hlt2 <| And.intro hmm <| And.intro hw1 <| And.intro hg <| And.intro had <| hd0) ct27 ?_
     exact ⟨⟨⟨i + 1, L'⟩, by show i + 1 ≤ MM.length; omega, by show L'.length ≤ 900000 + (i + 1); omega, a1, hT⟩, (Wt trivial [0, 11, 12, 17, 18] [0, 1]), by simp only; omega⟩
   · rw [if_pos he] at hT
     have he2 : (e != 0) = true := by simpa using he
     subst hT
     have hR2 := aB he
     subst hR2
     dsimp only
     repeat refine St (And.intro hlt <| And.intro hlt2 <| And.intro hmm <| And.intro hw1 <| And.intro hg <| And.intro had <| he2) ct27 ?_
     exact AWP.ret (Fin (@List.map_nil.{0, 0}) [] [])
 obtain rfl : i = MM.length := by omega
 have hlt2 : ¬ (MM.length : Int) < (MM.length : Int) := by omega
 rw [List.drop_length, addsV] at hT
 have hR2 := aO hK2 (hB.trans hT.symm)
 subst hR2
 dsimp only
 repeat refine St (And.intro hlt2 <| hmm) ct27 ?_
 exact AWP.ret (Fin trivial [1] [])
theorem rapply_c (l : List TCoin) (t : TTx) (ht : UInt32) (first : Bool) (h : l.length ≤ 900000) (h2 : Srt l) : F27 [.sq 37 (l.map coinT), .st [.int .u32 (t.ver.toNat : Int), .sq 35 (t.ins.map inT), .sq 2 (t.outs.map outT), .int .u32 (t.lock.toNat : Int)], .int .u32 (ht.toNat : Int), .bool first] = some ([], .tup [.t (.sq 37 ((appV l t ht first).1.map coinT)), .t (.sq 37 ((appV l t ht first).2.1.map coinT)), .t (.int .i64 (appV l t ht first).2.2)]) := by
 show F27 [coinsT l, txT t, h32T ht, .bool first] = some ([], .tup [.t (coinsT (appV l t ht first).1), .t (coinsT (appV l t ht first).2.1), .t (.int .i64 (appV l t ht first).2.2)])
 simp only [F27, inv_of coinsT_inj, inv_of txT_inj, inv_of h32T_inj]
 exact if_pos ⟨h, h2⟩
end Go.Fw

end

section
namespace Go.Fw
open Go Go.Proofs
theorem bk1_c (x : BkX) (h : x.l.length ≤ 400000) (h2 : lowL x.l = true) (h3 : x.ts.length ≤ 10000) : G42 (bkH x) [.ptr 0 0 [], .ptr 2 0 [], .ptr 3 0 [], .ptr 4 0 [], .ptr 5 0 []] = some (bkN x (bk1 x).1 (bk1 x).2.1, .t (.int .i64 (bk1 x).2.2)) := by
 simp only [G42, inv_of bkH_inj]
 exact if_pos ⟨h, h2, h3⟩
noncomputable def G34B : GFun
 | HB, [.ptr 0 0 [], .clo 42 [.ptr 2 0 [], .ptr 3 0 [], .ptr 4 0 [], .ptr 5 0 []]] => match inv bkH HB with
   | some x => @ite _ ((x.l.length ≤ 400000 ∧ lowL x.l = true ∧ x.ts.length ≤ 10000)) (Classical.propDecidable _) ((some (bkN x (if (bk1 x).2.2 = 0 then (bk1 x).1 else x.l) (bk1 x).2.1, .t (.int .i64 (bk1 x).2.2)))) none
   | none => none
 | _, _ => none
theorem ct34B : CT [(42, ⟨[true, true, true, true, true], G42⟩), (54, ⟨[true], G54⟩)] [0, 1, 4, 5, 6, 18] [] := ⟨(.cons g42 (.cons g54 (.nil _)))⟩
set_option maxHeartbeats 4000000 in
theorem g34B : GCon Tryz.prog 34 G34B := by
 refine gconc E_ok (rs := [.tmp 4 27]) Tryz.func34 rfl Tryz.ntmps34 (by kernel_rfl) rfl (by decide) G34B (np := 2) ?_ ?_
 · intro HB xs h; unfold G34B; split <;> first | rfl | (simp at h; done)
 intro HB xs H r hG hwf hex
 unfold G34B at hG
 split at hG <;> try (cases hG; done)
 
 split at hG <;> try (cases hG; done)
 rename_i x hx
 split at hG
 case isFalse => cases hG
 rename_i hcc
 cases hG
 obtain ⟨hlen, hlow, htl⟩ := hcc
 obtain rfl := inv_inv hx
 have h := bk1_c x hlen hlow htl
 have hcl := clone_vc x.l (by omega)
 generalize bk1 x = R at *
 obtain ⟨l, ts, ht⟩ := x
 obtain ⟨L, sp, e⟩ := R
 dsimp only at h hcl ⊢
 simp only [bkH, bkN, h32T, txsT] at h ⊢
 by_cases he : e = 0
 · subst he
   rw [if_pos rfl]
   have he2 : ((0 : Int) == 0) = true := rfl
   repeat refine St (And.intro (And.intro @gentry.eq_1 <| @gentry.eq_2) <| And.intro hcl <| And.intro h <| he2) ct34B ?_
   refine AWP.weak (Weak.drop 1 _ rfl rfl) ?_
   exact AWP.ret (Fin trivial [] [0, 1, 2, 3, 4, 5, 8])
 · rw [if_neg he]
   have he2 : (e == 0) = false := by simpa using he
   repeat refine St (And.intro (And.intro @gentry.eq_1 <| @gentry.eq_2) <| And.intro hcl <| And.intro h <| he2) ct34B ?_
   refine AWP.weak (Weak.moveBx (v' := _) 0 1 [0] 0 _ rfl rfl rfl (by decide) (by simp only [W, eqq, ↓reduceIte, Nat.reduceEqDiff, Nat.reduceLT, Nat.reduceLeDiff, Nat.reduceAdd, Nat.reduceMul, Nat.reduceSub, Nat.reduceBEq, Int.reduceLE, Int.reduceLT, Int.reduceNeg, Int.reduceToNat, Int.reduceEq, Int.reduceBEq, Int.reduceBNe, Nat.reduceBNe, bne_self_eq_false, reduceCtorEq, gt_iff_lt, ge_iff_le]) (by simp only [W, eqq, ↓reduceIte, Nat.reduceEqDiff, Nat.reduceLT, Nat.reduceLeDiff, Nat.reduceAdd, Nat.reduceMul, Nat.reduceSub, Nat.reduceBEq, Int.reduceLE, Int.reduceLT, Int.reduceNeg, Int.reduceToNat, Int.reduceEq, Int.reduceBEq, Int.reduceBNe, Nat.reduceBNe, bne_self_eq_false, reduceCtorEq, gt_iff_lt, ge_iff_le]) (by simp only [W, eqq, ↓reduceIte, Nat.reduceEqDiff, Nat.reduceLT, Nat.reduceLeDiff, Nat.reduceAdd, Nat.reduceMul, Nat.reduceSub, Nat.reduceBEq, Int.reduceLE, Int.reduceLT, Int.reduceNeg, Int.reduceToNat, Int.reduceEq, Int.reduceBEq, Int.reduceBNe, Nat.reduceBNe, bne_self_eq_false, reduceCtorEq, gt_iff_lt, ge_iff_le]; rfl)) ?_
   exact AWP.ret (Fin trivial [] [0, 1, 2, 3, 4, 5, 9])
theorem trialB_c (x : BkX) (h : x.l.length ≤ 400000) (h2 : lowL x.l = true) (h3 : x.ts.length ≤ 10000) : G34B (bkH x) [.ptr 0 0 [], .clo 42 [.ptr 2 0 [], .ptr 3 0 [], .ptr 4 0 [], .ptr 5 0 []]] = some (bkN x (if (bk1 x).2.2 = 0 then (bk1 x).1 else x.l) (bk1 x).2.1, .t (.int .i64 (bk1 x).2.2)) := by
 simp only [G34B, inv_of bkH_inj]
 exact if_pos ⟨h, h2, h3⟩
noncomputable def blockV (l : List TCoin) (ts : List TTx) (ht : UInt32) : List TCoin × List TCoin × Int :=
 (if (bk1 ⟨l, ts, ht⟩).2.2 = 0 then (bk1 ⟨l, ts, ht⟩).1 else l, if (bk1 ⟨l, ts, ht⟩).2.2 = 0 then (bk1 ⟨l, ts, ht⟩).2.1 else [], (bk1 ⟨l, ts, ht⟩).2.2)
noncomputable def G24B : GFun
 | HB, [.ptr 0 0 [], .t x, .t y] => match inv vwH HB, inv txsT x, inv h32T y with
   | some l, some ts, some ht => @ite _ ((l.length ≤ 400000 ∧ lowL l = true ∧ ts.length ≤ 10000)) (Classical.propDecidable _) ((some (vwN (blockV l ts ht).1, .tup [.t (.sq 37 ((blockV l ts ht).2.1.map coinT)), .t (.int .i64 (blockV l ts ht).2.2)]))) none
   | _, _, _ => none
 | _, _ => none
theorem ct24B : CT [(34, ⟨[true, true], G34B⟩), (36, ⟨[true, false, false, false], G36⟩)] [0, 1, 2, 4, 5, 6, 7, 8, 9, 10, 12, 17] [] := ⟨(.cons g34B (.cons g36 (.nil _)))⟩
set_option maxHeartbeats 4000000 in
theorem g24B : GCon Tryz.prog 24 G24B := by
 refine gconc E_ok (rs := [.tmp 6 22, .tmp 7 27]) Tryz.func24 rfl Tryz.ntmps24 (by kernel_rfl) rfl (by decide) G24B (np := 3) ?_ ?_
 · intro HB xs h; unfold G24B; split <;> first | rfl | (simp at h; done)
 intro HB xs H r hG hwf hex
 unfold G24B at hG
 split at hG <;> try (cases hG; done)
 
 rename_i x y
 split at hG <;> try (cases hG; done)
 rename_i l ts ht hl htx hht
 split at hG
 case isFalse => cases hG
 rename_i hcc
 cases hG
 obtain ⟨hlen, hlow, htl⟩ := hcc
 obtain rfl := inv_inv hl
 obtain rfl := inv_inv htx
 obtain rfl := inv_inv hht
 have h := trialB_c ⟨l, ts, ht⟩ hlen hlow htl
 unfold blockV
 generalize bk1 ⟨l, ts, ht⟩ = R at *
 obtain ⟨L, sp, e⟩ := R
 dsimp only at h ⊢
 by_cases he : e = 0
 · subst he
   rw [if_pos rfl] at h
   rw [if_pos rfl, if_pos rfl]
   have he2 : ((0 : Int) != 0) = false := rfl
   simp only [vwH, bkH, bkN, h32T, txsT] at h ⊢
   repeat refine St (And.intro (And.intro @gentry.eq_1 <| @gentry.eq_2) <| And.intro h <| he2) ct24B ?_
   exact AWP.ret (Fin @vwN.eq_def [] [0, 1, 6])
 · rw [if_neg he] at h
   rw [if_neg he, if_neg he]
   have he2 : (e != 0) = true := by simpa using he
   simp only [vwH, bkH, bkN, h32T, txsT] at h ⊢
   repeat refine St (And.intro (And.intro @gentry.eq_1 <| @gentry.eq_2) <| And.intro h <| he2) ct24B ?_
   exact AWP.ret (Fin (And.intro @vwN.eq_def <| @List.map_nil.{0, 0}) [] [0, 1, 6])
theorem vblock_c (l : List TCoin) (ts : List TTx) (ht : UInt32) (h : l.length ≤ 400000) (h2 : lowL l = true) (h3 : ts.length ≤ 10000) : G24B [.bx (.st [.own 1]), .sq 37 (l.map coinT)] [.ptr 0 0 [], .t (.sq 4 (ts.map txT)), .t (.int .u32 (ht.toNat : Int))] = some (vwN (blockV l ts ht).1, .tup [.t (.sq 37 ((blockV l ts ht).2.1.map coinT)), .t (.int .i64 (blockV l ts ht).2.2)]) := by
 show G24B (vwH l) [.ptr 0 0 [], .t (txsT ts), .t (h32T ht)] = _
 simp only [G24B, inv_of vwH_inj, inv_of txsT_inj, inv_of h32T_inj]
 exact if_pos ⟨h, h2, h3⟩
end Go.Fw

end

section
namespace Go.Fw
open Go Go.Proofs
theorem blk_no {l : List TCoin} {ts : List TTx} {ht : UInt32} {K : List TCoin × List TCoin × Int} (hK : blkV nmH ht l ts true [] = K) (h : K.2.2 ≠ 0) : blockV l ts ht = (l, [], K.2.2) := by
 have e : bk1 ⟨l, ts, ht⟩ = K := hK
 unfold blockV
 rw [e, if_neg h, if_neg h]
theorem blk_yes {l L sp : List TCoin} {ts : List TTx} {ht : UInt32} (h : blkV nmH ht l ts true [] = (L, sp, 0)) : blockV l ts ht = (L, sp, 0) := by
 have e : bk1 ⟨l, ts, ht⟩ = (L, sp, 0) := h
 unfold blockV
 rw [e]
 rfl
noncomputable def F29 : Fun
 | [w, x, y] => match inv coinsT w, inv txsT x, inv h32T y with
   | some l, some ts, some ht => @ite _ ((l.length ≤ 400000 ∧ Srt l ∧ lowL l = true ∧ ts.length ≤ 10000)) (Classical.propDecidable _) ((some ([], .tup [.t (coinsT (blockV l ts ht).1), .t (coinsT (blockV l ts ht).2.1), .t (.int .i64 (blockV l ts ht).2.2)]))) none
   | _, _, _ => none
 | _ => none
theorem ct29 : CT [(27, ⟨[false, false, false, false], treeG F27⟩)] [0, 1, 2, 6, 7, 8, 9, 10, 11, 12, 13, 14, 20, 37] [] := ⟨(.cons c27.g (.nil _))⟩
set_option maxHeartbeats 4000000 in
theorem c29 : ACon Tryz.prog 29 F29 := by
 refine aconc E_ok (rs := [.tmp 6 22, .tmp 7 22, .tmp 8 27]) Tryz.func29 rfl Tryz.ntmps29 (by kernel_rfl) rfl (by decide) F29 (np := 3) ?_ ?_
 · intro ts h; unfold F29; split <;> first | rfl | (simp at h; done)
 intro ts H r hF hwf
 unfold F29 at hF
 split at hF <;> try (cases hF; done)
 rename_i w x y
 split at hF <;> try (cases hF; done)
 rename_i l ts ht hl htx hht
 split at hF
 case isFalse => cases hF
 rename_i hcc
 obtain ⟨hlen, hsr, hlow, htl⟩ := hcc
 cases hF
 obtain rfl := inv_inv hl
 obtain rfl := inv_inv htx
 obtain rfl := inv_inv hht
 have hml : (ts.map txT).length = ts.length := List.length_map ..
 obtain ⟨R, hR⟩ : ∃ R, blockV l ts ht = R := ⟨_, rfl⟩
 obtain ⟨K, hK⟩ : ∃ K, blkV nmH ht l ts true [] = K := ⟨_, rfl⟩
 have aN := @blk_no l ts ht K hK
 have aY := @blk_yes l
 rw [hR] at aN ⊢
 have hd0 : ((0 : Int) != 0) = false := rfl
 simp only [coinsT, txsT, h32T]
 repeat refine St hml ct29 ?_
 refine AWP.loop (G := { x : Nat × List TCoin × List TCoin // x.1 ≤ ts.length ∧ x.2.1.length ≤ 400000 + 20 * x.1 ∧ Srt x.2.1 ∧ lowL x.2.1 = true ∧ x.2.2.length ≤ 20 * x.1 ∧ blkV nmH ht x.2.1 (ts.drop x.1) (decide (x.1 = 0)) x.2.2 = K }) (fun x => ⟨[(0, .t (.sq 37 (l.map coinT))), (1, .t (.sq 4 (ts.map txT))), (2, .t (.int .u32 (ht.toNat : Int))), (9, .t (.sq 37 (x.1.2.1.map coinT))), (10, .own 0), (11, .t (.int .i64 (x.1.1 : Int)))], [.sq 37 (x.1.2.2.map coinT)]⟩) (fun x => ts.length - x.1.1) ⟨⟨0, l, []⟩, Nat.zero_le _, by show l.length ≤ 400000 + 20 * 0; omega, hsr, hlow, Nat.le_refl _, hK⟩ (Wt (@List.map_nil.{0, 0}) [0, 1, 2, 9, 10, 11] [0]) ?_
 rintro ⟨⟨i, L, A⟩, hi, hL, hLs, hLl, hA, hT⟩
 dsimp only at hi hL hLs hLl hA hT ⊢
 have hmA : (A.map coinT).length ≤ 1000000 := by rw [List.length_map]; omega
 by_cases hlt : i < ts.length
 · have hlt2 : (i : Int) < (ts.length : Int) := by omega
   have hw1 : IntKind.i64.wrap ((i : Int) + 1) = ((i + 1 : Nat) : Int) := by rw [wrap_i64 (by omega) (by omega)]; omega
   have hb0 : ((i : Int) == 0) = decide (i = 0) := by
     rw [Bool.eq_iff_iff, beq_iff_eq, decide_eq_true_eq]; omega
   have hg := txs_getD ts i hlt
   have hdr : ts.drop i = ts.getD i dTx :: ts.drop (i + 1) := by
     rw [List.drop_eq_getElem_cons hlt]
     simp [List.getD_eq_getElem?_getD, hlt]
   rw [hdr, blkV] at hT
   have hap := rapply_c L (ts.getD i dTx) ht (decide (i = 0)) (by omega) hLs
   obtain ⟨a1, a2, a3, a4⟩ := applyV_ok hLl (ts.getD i dTx) (nmH (ts.getD i dTx)) ht (decide (i = 0))
   have a5 := applyV_srt hLs (ts.getD i dTx) (nmH (ts.getD i dTx)) ht (decide (i = 0))
   have ae : appV L (ts.getD i dTx) ht (decide (i = 0)) = (if (applyV L (ts.getD i dTx) (nmH (ts.getD i dTx)) ht (decide (i = 0))).2.2 = 0 then (applyV L (ts.getD i dTx) (nmH (ts.getD i dTx)) ht (decide (i = 0))).1 else L, (applyV L (ts.getD i dTx) (nmH (ts.getD i dTx)) ht (decide (i = 0))).2.1, (applyV L (ts.getD i dTx) (nmH (ts.getD i dTx)) ht (decide (i = 0))).2.2) := rfl
   rw [ae] at hap
   rw [txT_st] at hg
   clear ae hdr
   generalize ts.getD i dTx = t at *
   obtain ⟨f, hfi⟩ : ∃ f, decide (i = 0) = f := ⟨_, rfl⟩
   rw [hfi] at hap a1 a2 a3 a4 a5 hT hb0
   generalize applyV L t (nmH t) ht f = Z at *
   obtain ⟨L', sp, e⟩ := Z
   dsimp only at hT hap a1 a2 a3 a4 a5
   by_cases he : e = 0
   · subst he
     rw [if_neg (by simp)] at hT
     rw [if_pos rfl] at hap
     have hmap : (A ++ sp).map coinT = A.map coinT ++ sp.map coinT := List.map_append ..
     have hms : (sp.map coinT).length ≤ 1000000 := by rw [List.length_map]; omega
     have hf2 : decide (i + 1 = 0) = false := by simp
     generalize A.map coinT = X at *
     generalize sp.map coinT = Y at *
     repeat refine St (And.intro hlt <| And.intro hlt2 <| And.intro hml <| And.intro hw1 <| And.intro hb0 <| And.intro hg <| And.intro hap <| And.intro hmA <| And.intro hms <| hd0) ct29 ?_
     exact ⟨⟨⟨i + 1, L', A ++ sp⟩, by show i + 1 ≤ ts.length; omega, by show L'.length ≤ 400000 + 20 * (i + 1); omega, a5 rfl, a1, by show (A ++ sp).length ≤ 20 * (i + 1); rw [List.length_append]; omega, by dsimp only; rw [hf2]; exact hT⟩, (Wt hmap [0, 1, 2, 9, 10, 11] [1]), by simp only; omega⟩
   · rw [if_pos he] at hT
     rw [if_neg he] at hap
     have he2 : (e != 0) = true := by simpa using he
     subst hT
     have hR2 := aN he
     subst hR2
     dsimp only
     repeat refine St (And.intro hlt <| And.intro hlt2 <| And.intro hml <| And.intro hw1 <| And.intro hb0 <| And.intro hg <| And.intro hap <| he2) ct29 ?_
     exact AWP.ret (Fin (@List.map_nil.{0, 0}) [] [])
 obtain rfl : i = ts.length := by omega
 have hlt2 : ¬ (ts.length : Int) < (ts.length : Int) := by omega
 rw [List.drop_length, blkV] at hT
 have hR2 := aY (hK.trans hT.symm)
 rw [hR] at hR2
 subst hR2
 dsimp only
 repeat refine St (And.intro hlt2 <| hml) ct29 ?_
 exact AWP.ret (Fin trivial [0] [])
theorem rblock_c (l : List TCoin) (ts : List TTx) (ht : UInt32) (h : l.length ≤ 400000) (h2 : Srt l) (h3 : lowL l = true) (h4 : ts.length ≤ 10000) : F29 [.sq 37 (l.map coinT), .sq 4 (ts.map txT), .int .u32 (ht.toNat : Int)] = some ([], .tup [.t (.sq 37 ((blockV l ts ht).1.map coinT)), .t (.sq 37 ((blockV l ts ht).2.1.map coinT)), .t (.int .i64 (blockV l ts ht).2.2)]) := by
 show F29 [coinsT l, txsT ts, h32T ht] = some ([], .tup [.t (coinsT (blockV l ts ht).1), .t (coinsT (blockV l ts ht).2.1), .t (.int .i64 (blockV l ts ht).2.2)])
 simp only [F29, inv_of coinsT_inj, inv_of txsT_inj, inv_of h32T_inj]
 exact if_pos ⟨h, h2, h3, h4⟩
end Go.Fw

end

section
namespace Go.Fw
open Go Go.Proofs
noncomputable def F60 : Fun
 | [x, y] => match inv coinT x, inv rfT y with
   | some c, some r => some ([], .t (.bool (refB c.r r)))
   | _, _ => none
 | _ => none
theorem ct60 : CT [] [0, 1, 2, 3, 4] [] := ⟨GClOk.nil _⟩
theorem c60 : ACon Tryz.prog 60 F60 := by
 refine aconc E_ok (rs := [.tmp 4 4]) Tryz.func60 rfl Tryz.ntmps60 (by kernel_rfl) rfl (by decide) F60 (np := 2) ?_ ?_
 · intro ts h; unfold F60; split <;> first | rfl | (simp at h; done)
 intro ts H r hF hwf
 unfold F60 at hF
 split at hF <;> try (cases hF; done)
 split at hF <;> try (cases hF; done)
 rename_i c r hc hr
 cases hF
 obtain rfl := inv_inv hc
 obtain rfl := inv_inv hr
 have he : refB c.r r = (c.r.h.1 == r.h.1 && ((c.r.i.toNat : Int) == (r.i.toNat : Int))) := rfl
 rw [he]
 simp only [coinT_st, rfT]
 repeat refine St trivial ct60 ?_
 exact AWP.ret (Fin trivial [] [])
theorem rev1_c (c : TCoin) (r : TRef) : F60 [.st [.st [.ba 32 c.r.h.1, .int .u32 (c.r.i.toNat : Int)], .st [.int .u64 (c.out.val.toNat : Int), .by c.out.scr], .int .u32 (c.ht.toNat : Int), .bool c.first], .st [.ba 32 r.h.1, .int .u32 (r.i.toNat : Int)]] = some ([], .t (.bool (refB c.r r))) := by
 show F60 [coinT c, rfT r] = _
 simp only [F60, inv_of coinT_inj, inv_of rfT_inj]
noncomputable def F61 : Fun
 | [x, y, .fn 60] => match inv coinsT x, inv refsT y with
   | some l, some r => @ite _ ((l.length ≤ 1000000 ∧ r.length ≤ 1000000)) (Classical.propDecidable _) ((some ([], .t (.bool (eqRefs l r))))) none
   | _, _ => none
 | _ => none
theorem ct61 : CT [(60, ⟨[false, false], treeG F60⟩)] [0, 1, 2, 6, 7, 8, 9, 14, 15, 16, 17, 18, 30] [] := ⟨(.cons c60.g (.nil _))⟩
set_option maxHeartbeats 2000000 in
theorem c61 : ACon Tryz.prog 61 F61 := by
 refine aconc E_ok (rs := [.tmp 6 4]) Tryz.func61 rfl Tryz.ntmps61 (by kernel_rfl) rfl (by decide) F61 (np := 3) ?_ ?_
 · intro ts h; unfold F61; split <;> first | rfl | (simp at h; done)
 intro ts H r hF hwf
 unfold F61 at hF
 split at hF <;> try (cases hF; done)
 split at hF <;> try (cases hF; done)
 rename_i l r hl hr
 split at hF
 case isFalse => cases hF
 rename_i hcc
 obtain ⟨hl1, hl2⟩ := hcc
 cases hF
 obtain rfl := inv_inv hl
 obtain rfl := inv_inv hr
 have hml : (l.map coinT).length = l.length := List.length_map ..
 have hmr : (r.map rfT).length = r.length := List.length_map ..
 simp only [coinsT, refsT]
 by_cases hne : l.length = r.length
 rotate_left
 · have hb : ((l.length : Int) != (r.length : Int)) = true := by
     rw [bne_iff_ne]; omega
   rw [eqRefs_len hne]
   repeat refine St (And.intro hml <| And.intro hmr <| hb) ct61 ?_
   exact AWP.ret (Fin trivial [] [])
 have hb : ((l.length : Int) != (r.length : Int)) = false := by
   rw [bne_eq_false_iff_eq]; omega
 obtain ⟨R, hR⟩ : ∃ R, eqRefs l r = R := ⟨_, rfl⟩
 rw [hR]
 repeat refine St (And.intro hml <| And.intro hmr <| hb) ct61 ?_
 refine AWP.loop (G := { i : Nat // i ≤ l.length ∧ eqRefs (l.drop i) (r.drop i) = R }) (fun i => ⟨[(1, .t (.sq 33 (r.map rfT))), (2, .t (.fn 60)), (15, .t (.sq 37 (l.map coinT))), (16, .t (.int .i64 (l.length : Int))), (17, .t (.int .i64 (i.1 : Int)))], []⟩) (fun i => l.length - i.1) ⟨0, Nat.zero_le _, hR⟩ (Wt trivial [1, 2, 15, 16, 17] []) ?_
 rintro ⟨i, hi, hT⟩
 dsimp only
 by_cases hlt : i < l.length
 · have hlt2 : (i : Int) < (l.length : Int) := by omega
   have hltr : i < r.length := by omega
   have hltr2 : (i : Int) < (r.length : Int) := by omega
   have hw1 : IntKind.i64.wrap ((i : Int) + 1) = ((i + 1 : Nat) : Int) := by rw [wrap_i64 (by omega) (by omega)]; omega
   have hg := coin_getD l i hlt
   have hg2 := ref_getD r i hltr
   have hd1 : l.drop i = l.getD i dCoin :: l.drop (i + 1) := by
     rw [List.drop_eq_getElem_cons hlt]
     simp [List.getD_eq_getElem?_getD, hlt]
   have hd2 : r.drop i = r.getD i dRef :: r.drop (i + 1) := by
     rw [List.drop_eq_getElem_cons hltr]
     simp [List.getD_eq_getElem?_getD, hltr]
   rw [hd1, hd2, eqRefs] at hT
   have h1 := rev1_c (l.getD i dCoin) (r.getD i dRef)
   rw [coinT_st] at hg
   simp only [rfT] at hg2
   generalize l.getD i dCoin = c at *
   generalize r.getD i dRef = q at *
   cases hq : refB c.r q with
   | false =>
     rw [hq] at h1
     rw [hq, Bool.false_and] at hT
     subst hT
     repeat refine St (And.intro hlt <| And.intro hlt2 <| And.intro hltr <| And.intro hltr2 <| And.intro hml <| And.intro hmr <| And.intro hw1 <| And.intro hg <| And.intro hg2 <| h1) ct61 ?_
     exact AWP.ret (Fin trivial [] [])
   | true =>
     rw [hq] at h1
     rw [hq, Bool.true_and] at hT
     repeat refine St (And.intro hlt <| And.intro hlt2 <| And.intro hltr <| And.intro hltr2 <| And.intro hml <| And.intro hmr <| And.intro hw1 <| And.intro hg <| And.intro hg2 <| h1) ct61 ?_
     exact ⟨⟨i + 1, by omega, hT⟩, (Wt trivial [1, 2, 15, 16, 17] []), by simp only; omega⟩
 obtain rfl : i = l.length := by omega
 have hlt2 : ¬ (l.length : Int) < (l.length : Int) := by omega
 rw [List.drop_length, List.drop_of_length_le (show r.length ≤ l.length by omega), eqRefs] at hT
 subst hT
 repeat refine St hlt2 ct61 ?_
 exact AWP.ret (Fin trivial [] [])
theorem eqf_c (l : List TCoin) (r : List TRef) (h : l.length ≤ 1000000) (h2 : r.length ≤ 1000000) : F61 [.sq 37 (l.map coinT), .sq 33 (r.map rfT), .fn 60] = some ([], .t (.bool (eqRefs l r))) := by
 show F61 [coinsT l, refsT r, .fn 60] = _
 simp only [F61, inv_of coinsT_inj, inv_of refsT_inj]
 exact if_pos ⟨h, h2⟩
noncomputable def F62 : Fun
 | [x] => match inv coinsT x with
   | some l => some ([.bx (.t (coinsT l))], .clo 74 [.ptr 0 0 []])
   | none => none
 | _ => none
theorem ct62 : CT [] [0, 1, 2] [] := ⟨GClOk.nil _⟩
theorem c62 : ACon Tryz.prog 62 F62 := by
 refine aconc E_ok (rs := [.tmp 2 113]) Tryz.func62 rfl Tryz.ntmps62 (by kernel_rfl) rfl (by decide) F62 (np := 1) ?_ ?_
 · intro ts h; unfold F62; split <;> first | rfl | (simp at h; done)
 intro ts H r hF hwf
 unfold F62 at hF
 split at hF <;> try (cases hF; done)
 split at hF <;> try (cases hF; done)
 rename_i l hl
 cases hF
 obtain rfl := inv_inv hl
 simp only [coinsT]
 repeat refine St trivial ct62 ?_
 exact AWP.ret (Fin trivial [] [0])
theorem bwd_c (l : List TCoin) : F62 [.sq 37 (l.map coinT)] = some ([.bx (.t (.sq 37 (l.map coinT)))], .clo 74 [.ptr 0 0 []]) := by
 show F62 [coinsT l] = _
 simp only [F62, inv_of coinsT_inj]
 rfl
end Go.Fw

end
