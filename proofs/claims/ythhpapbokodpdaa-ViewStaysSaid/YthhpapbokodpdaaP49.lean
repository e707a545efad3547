/- The abstract machine, and the contracts of the code: part 49. -/
import Derived.Test.YthhpapbokodpdaaP48

section
/- view: a transaction applied. -/
namespace Go.Fw
open Go Go.Proofs
set_option linter.unusedVariables false
set_option linter.unusedSimpArgs false

noncomputable def nmH (t : TTx) : H32 := ⟨namO t, namO_len t⟩
theorem name_tc (t : TTx) : F46 [txT t] = some ([], .t (.ba 32 (namO t))) := by simp only [F46, inv_of txT_inj]

noncomputable def G31 : GFun
  | HB, [.ptr 0 0 [], .t x, .t y, .t (.bool first)] => match inv vwH HB, inv txT x, inv h32T y with
    | some l, some t, some ht => @ite _ ((l.length ≤ 900000 ∧ lowL l = true)) (Classical.propDecidable _) ((some (vwN (applyV l t (nmH t) ht first).1, .tup [.t (.sq 37 ((applyV l t (nmH t) ht first).2.1.map coinT)), .t (.int .i64 (applyV l t (nmH t) ht first).2.2)]))) none
    | _, _, _ => none
  | _, _ => none

theorem ct31 : CT [(24, ⟨[true, false], G24⟩), (34, ⟨[false, false], treeG F34⟩), (44, ⟨[false], treeG F44⟩), (45, ⟨[true, false], G45⟩), (46, ⟨[false], treeG F46⟩)] [0, 1, 2, 3, 5, 8, 9, 10, 11, 12, 13, 14, 15, 18, 28, 33, 34, 35, 36, 51] [] := ⟨(.cons g24 (.cons c34.g (.cons c44.g (.cons g45 (.cons c46.g (.nil _))))))⟩

set_option maxRecDepth 8000 in
set_option maxHeartbeats 8000000 in
theorem g31 : GCon Try.prog 31 G31 := by
  refine gconc E_ok (rs := [.tmp 8 22, .tmp 9 30]) Try.func31 rfl Try.ntmps31 (by kernel_rfl) rfl (by decide) G31 (np := 4) ?_ ?_
  · intro HB xs h; unfold G31; split <;> first | rfl | (simp at h; done)
  intro HB xs H r hG hwf hex
  unfold G31 at hG
  split at hG <;> try (cases hG; done)
  rename_i x y first
  split at hG <;> try (cases hG; done)
  rename_i l t ht hl htx hht
  split at hG
  case isFalse => cases hG
  rename_i hcc
  cases hG
  obtain ⟨hlen, hlow⟩ := hcc
  obtain rfl := inv_inv hl
  obtain rfl := inv_inv htx
  obtain rfl := inv_inv hht
  have hck := check_c t
  have hnm := name_tc t
  have hml : (t.outs.map outT).length = t.outs.length := List.length_map ..
  rw [txT_st] at hck hnm ⊢
  simp only [vwH, h32T]
  unfold applyV
  rcases chk_two t with ⟨e1, e2, e3⟩ | ⟨e1, e2⟩
  rotate_left
  · rw [e1] at hck
    rw [if_pos (by rw [e1]; decide)]
    dsimp only
    repeat refine St (And.intro (And.intro @gentry.eq_1 <| @gentry.eq_2) <| hck) ct31 ?_
    refine AWP.weak (Weak.moveBx (v' := _) 0 1 [0] 0 _ rfl rfl rfl (by decide) (by simp only [W, eqq, ↓reduceIte, Nat.reduceEqDiff, Nat.reduceLT, Nat.reduceLeDiff, Nat.reduceAdd, Nat.reduceMul, Nat.reduceSub, Nat.reduceBEq, Int.reduceLE, Int.reduceLT, Int.reduceNeg, Int.reduceToNat, Int.reduceEq, Int.reduceBEq, Int.reduceBNe, Nat.reduceBNe, bne_self_eq_false, reduceCtorEq, gt_iff_lt, ge_iff_le]) (by simp only [W, eqq, ↓reduceIte, Nat.reduceEqDiff, Nat.reduceLT, Nat.reduceLeDiff, Nat.reduceAdd, Nat.reduceMul, Nat.reduceSub, Nat.reduceBEq, Int.reduceLE, Int.reduceLT, Int.reduceNeg, Int.reduceToNat, Int.reduceEq, Int.reduceBEq, Int.reduceBNe, Nat.reduceBNe, bne_self_eq_false, reduceCtorEq, gt_iff_lt, ge_iff_le]) (by simp only [W, eqq, ↓reduceIte, Nat.reduceEqDiff, Nat.reduceLT, Nat.reduceLeDiff, Nat.reduceAdd, Nat.reduceMul, Nat.reduceSub, Nat.reduceBEq, Int.reduceLE, Int.reduceLT, Int.reduceNeg, Int.reduceToNat, Int.reduceEq, Int.reduceBEq, Int.reduceBNe, Nat.reduceBNe, bne_self_eq_false, reduceCtorEq, gt_iff_lt, ge_iff_le]; rfl)) ?_
    exact AWP.ret (Fin (And.intro @vwN.eq_def <| @List.map_nil.{0, 0}) [] [0, 1, 3])
  rw [e1] at hck
  rw [if_neg (by rw [e1]; simp)]
  obtain ⟨c1, c2, c3, _⟩ := countsB_ok e2
  have hin := inputs_c t first (by omega)
  have hrl : (insR t first).length ≤ 20 := by unfold insR; split <;> simp <;> omega
  have htk := take_vc l (insR t first) (by omega) hlow (by omega)
  obtain ⟨t1, t2, t3, t4⟩ := takeV_ok (insR t first) l [] hlow rfl
  generalize takeV l (insR t first) [] = K at *
  generalize insR t first = I at *
  obtain ⟨L1, sp, e⟩ := K
  dsimp only at htk t1 t2 t3 t4 ⊢
  simp only [vwN, refsT] at htk hin
  by_cases he : e = 0
  rotate_left
  · rw [if_pos he]
    have he2 : (e != 0) = true := by simpa using he
    dsimp only
    repeat refine St (And.intro (And.intro @gentry.eq_1 <| @gentry.eq_2) <| And.intro hck <| And.intro hin <| And.intro htk <| he2) ct31 ?_
    exact AWP.ret (Fin (And.intro @vwN.eq_def <| @List.map_nil.{0, 0}) [] [0, 1, 3])
  subst he
  rw [if_neg (by simp)]
  obtain ⟨R, hR⟩ : ∃ R, addsV L1 (madeC t (nmH t) ht first) = R := ⟨_, rfl⟩
  rw [hR]
  have hd0 : ((0 : Int) != 0) = false := rfl
  have hmk := madeC_low e2 (nmH t) ht first
  have hout : ∀ i, i < t.outs.length → (t.outs.map outT).getD i default = .st [.int .u64 ((t.outs.getD i dOut).val.toNat : Int), .by (t.outs.getD i dOut).scr] := fun i hi => by simp [hi, outT]
  have hol : ∀ i, i < t.outs.length → (t.outs.getD i dOut).scr.length ≤ 1000 := fun i hi => c3 _ (by simp [List.getD_eq_getElem?_getD, hi])
  have hnl : namO t = (nmH t).1 := rfl
  rw [hnl] at hnm
  generalize hN : nmH t = N at *
  repeat refine St (And.intro (And.intro @gentry.eq_1 <| @gentry.eq_2) <| And.intro hck <| And.intro hin <| And.intro htk <| And.intro hd0 <| And.intro hnm <| hml) ct31 ?_
  refine AWP.loop (G := { x : Nat × List TCoin // x.1 ≤ t.outs.length ∧ x.2.length ≤ 900000 + x.1 ∧ lowL x.2 = true ∧ addsV x.2 ((madeC t N ht first).drop x.1) = R }) (fun x => ⟨[(0, .ptr 0 0 []), (2, .t (.int .u32 (ht.toNat : Int))), (3, .t (.bool first)), (10, .t (.sq 37 (sp.map coinT))), (12, .ptr 3 0 []), (33, .t (.sq 2 (t.outs.map outT))), (34, .t (.int .i64 (t.outs.length : Int))), (35, .t (.int .i64 (x.1.1 : Int)))], [.bx (.st [.own 2]), .no, .sq 37 (x.1.2.map coinT), .bx (.t (.ba 32 N.1))]⟩) (fun x => t.outs.length - x.1.1) ⟨⟨0, L1⟩, Nat.zero_le _, by show L1.length ≤ 900000 + 0; omega, t1, hR⟩ (Wt trivial [0, 2, 3, 10, 12, 33, 34, 35] [0, 1, 3, 4]) ?_
  rintro ⟨⟨i, L⟩, hi, hLl, hLo, hT⟩
  dsimp only at hi hLl hLo hT ⊢
  clear hR htk t1 t2 t3 t4 hlen hlow
  by_cases hlt : i < t.outs.length
  · have hlt2 : (i : Int) < (t.outs.length : Int) := by omega
    have hw1 : IntKind.i64.wrap ((i : Int) + 1) = ((i + 1 : Nat) : Int) := by rw [wrap_i64 (by omega) (by omega)]; omega
    have hw2 : IntKind.u32.wrap (i : Int) = ((UInt32.ofNat i).toNat : Int) := by
      rw [wrap_u32 (by omega) (by omega), UInt32.toNat_ofNat', Nat.mod_eq_of_lt (by omega)]
    have hg := hout i hlt
    have hlc := hol i hlt
    rw [madeC_drop t N ht first hlt, addsV] at hT
    have had := add_c L ⟨⟨N, UInt32.ofNat i⟩, t.outs.getD i dOut, ht, first⟩ (by omega) (by unfold lowC; rw [decide_eq_true_eq]; dsimp only; omega)
    obtain ⟨a1, a2⟩ := addV_ok (l := L) hLo (c := ⟨⟨N, UInt32.ofNat i⟩, t.outs.getD i dOut, ht, first⟩) (by unfold lowC; rw [decide_eq_true_eq]; dsimp only; omega)
    generalize addV L ⟨⟨N, UInt32.ofNat i⟩, t.outs.getD i dOut, ht, first⟩ = A at *
    obtain ⟨L', e⟩ := A
    dsimp only at hT had a1 a2
    generalize t.outs.getD i dOut = o at *
    generalize UInt32.ofNat i = ui at *
    simp only [vwN] at had
    by_cases he : e = 0
    · subst he
      rw [if_neg (by simp)] at hT
      repeat refine St (And.intro hlt <| And.intro hlt2 <| And.intro hml <| And.intro hw1 <| And.intro hw2 <| And.intro hg <| And.intro had <| hd0) ct31 ?_
      exact ⟨⟨⟨i + 1, L'⟩, by show i + 1 ≤ t.outs.length; omega, by show L'.length ≤ 900000 + (i + 1); omega, a1, hT⟩, (Wt trivial [0, 2, 3, 10, 12, 33, 34, 35] [0, 1, 5, 3]), by simp only; omega⟩
    · rw [if_pos he] at hT
      have he2 : (e != 0) = true := by simpa using he
      subst hT
      dsimp only
      rw [if_pos he]
      dsimp only
      repeat refine St (And.intro hlt <| And.intro hlt2 <| And.intro hml <| And.intro hw1 <| And.intro hw2 <| And.intro hg <| And.intro had <| he2) ct31 ?_
      exact AWP.ret (Fin (And.intro @vwN.eq_def <| @List.map_nil.{0, 0}) [] [0, 1, 5])
  obtain rfl : i = t.outs.length := by omega
  have hlt2 : ¬ (t.outs.length : Int) < (t.outs.length : Int) := by omega
  rw [show (madeC t N ht first).drop t.outs.length = [] from List.drop_of_length_le (by rw [madeC_len]; omega), addsV] at hT
  subst hT
  dsimp only
  rw [if_neg (by simp)]
  repeat refine St hlt2 ct31 ?_
  exact AWP.ret (Fin @vwN.eq_def [] [0, 1, 2])
theorem apply_vc (l : List TCoin) (t : TTx) (ht : UInt32) (first : Bool) (h : l.length ≤ 900000) (h2 : lowL l = true) : G31 [.bx (.st [.own 1]), .sq 37 (l.map coinT)] [.ptr 0 0 [], .t (txT t), .t (.int .u32 (ht.toNat : Int)), .t (.bool first)] = some (vwN (applyV l t (nmH t) ht first).1, .tup [.t (.sq 37 ((applyV l t (nmH t) ht first).2.1.map coinT)), .t (.int .i64 (applyV l t (nmH t) ht first).2.2)]) := by
  show G31 (vwH l) [.ptr 0 0 [], .t (txT t), .t (h32T ht), .t (.bool first)] = _
  simp only [G31, inv_of vwH_inj, inv_of txT_inj, inv_of h32T_inj]
  exact if_pos ⟨h, h2⟩

end Go.Fw

end

section
/- A row compared with nil, as a step. -/
namespace Go.Fw
open Go Go.Proofs
set_option linter.unusedVariables false
set_option linter.unusedSimpArgs false

/-- A comparison with nil, at a region's end. -/
theorem AWP.noK {gl : GCalls} {keep : List Nat} {ds : List (Nat × List Info)} {kp N id d j : Nat} {l : List Oper} {o : Oper} {t t' e : TypeId} {sz : Nat} {b : List T} {Q : Exit → AS → Prop} {S S1 : AS} {F : Prop} (hF : F) (ct : CT gl keep ds)
    (hQ : ∀ r : Bool, (r = true → b = []) → Q .normal ⟨prune keep ((d, .t (.bool r)) :: S1.s), S1.H⟩)
    (hop : o.op = .binOp .eql t (.tmp j) (.const (.slice none 0 0)) t' := by rfl) (hd : o.dst = some d := by rfl) (hdN : d < N := by decide) (ht : (E t).ty = .sl e := by rfl)
    (h : F → gops E eqq gl N (l ++ [o]) l S = some S1 := by (intro hF; simp only [W, eqq, ↓reduceIte, Nat.reduceEqDiff, Nat.reduceLT, Nat.reduceLeDiff, Nat.reduceAdd, Nat.reduceMul, Nat.reduceSub, Nat.reduceBEq, Int.reduceLE, Int.reduceLT, Int.reduceNeg, Int.reduceToNat, Int.reduceEq, Int.reduceBEq, Int.reduceBNe, Nat.reduceBNe, bne_self_eq_false, reduceCtorEq, gt_iff_lt, ge_iff_le, hF]; with_reducible rfl)) (hw : wantA (l ++ [o]) S1.s o = some true := by rfl) {x : Nat} (hsl : lk j S1.s = .own x := by rfl) (hbl : S1.H[x]? = some (.sq sz b) := by rfl) :
    AWP kp Try.prog N (.region id (l ++ [o]).toArray false) Q S := AWP.gnilO X_ok ct.cl keep hop hd hdN ht (h hF) hw hsl hbl hQ

end Go.Fw

end

section
/- view: a trial; Apply. -/
namespace Go.Fw
open Go Go.Proofs
set_option linter.unusedVariables false
set_option linter.unusedSimpArgs false

noncomputable def G47 : GFun
  | HB, [.own 0] => match inv csH HB with
    | some l => @ite _ ((l.length ≤ 1000000)) (Classical.propDecidable _) ((some (csH l ++ csH l, .own 1))) none
    | none => none
  | _, _ => none

theorem ct47 : CT [] [0, 2, 4] [] := ⟨GClOk.nil _⟩

theorem g47 : GCon Try.prog 47 G47 := by
  refine gconc E_ok (rs := [.tmp 2 22]) Try.func47 rfl Try.ntmps47 (by kernel_rfl) rfl (by decide) G47 (np := 1) ?_ ?_
  · intro HB xs h; unfold G47; split <;> first | rfl | (simp at h; done)
  intro HB xs H r hG hwf hex
  unfold G47 at hG
  split at hG <;> try (cases hG; done)
  split at hG <;> try (cases hG; done)
  rename_i l hl
  split at hG
  case isFalse => cases hG
  rename_i hlen
  cases hG
  obtain rfl := inv_inv hl
  have hml : (l.map coinT).length ≤ 1000000 := by rw [List.length_map]; exact hlen
  simp only [csH, List.cons_append, List.nil_append]
  generalize l.map coinT = X at *
  refine St (And.intro @gentry.eq_1 <| @gentry.eq_2) ct47 ?_
  refine St (And.intro @gentry.eq_1 <| @gentry.eq_2) ct47 ?_
  refine St (And.intro @gentry.eq_1 <| @gentry.eq_2) ct47 ?_
  refine AWP.seq ?_
  refine AWP.noK (l := [_]) trivial ct47 (fun r hr => ?_)
  show AWP _ _ _ _ _ _
  cases r
  · repeat refine St (And.intro (And.intro @gentry.eq_1 <| @gentry.eq_2) <| hml) ct47 ?_
    exact AWP.ret (Fin trivial [] [0, 2])
  · obtain rfl := hr rfl
    repeat refine St (And.intro @gentry.eq_1 <| @gentry.eq_2) ct47 ?_
    refine AWP.weak (Wo 2 (.sq 37 [])) ?_
    exact AWP.ret (Fin trivial [] [0, 1])

theorem clone_vc (l : List TCoin) (h : l.length ≤ 1000000) : G47 [.sq 37 (l.map coinT)] [.own 0] = some ([.sq 37 (l.map coinT), .sq 37 (l.map coinT)], .own 1) := by
  show G47 (csH l) [.own 0] = _
  simp only [G47, inv_of csH_inj]
  exact if_pos h

/-- What Apply's trial is lent. -/
structure ApX where
  l : List TCoin
  t : TTx
  ht : UInt32
  first : Bool
noncomputable def apH (x : ApX) : List Blk := [.bx (.st [.own 1]), .sq 37 (x.l.map coinT), .bx (.t (txT x.t)), .bx (.t (h32T x.ht)), .bx (.t (.bool x.first)), .bx (.t .nil)]
theorem apH_inj (a b : ApX) (h : apH a = apH b) : a = b := by
  obtain ⟨l1, t1, h1, f1⟩ := a
  obtain ⟨l2, t2, h2, f2⟩ := b
  simp only [apH, List.cons.injEq, Blk.sq.injEq, Blk.bx.injEq, AV.t.injEq, T.bool.injEq, true_and, and_true] at h
  obtain ⟨g1, g2, g3, g4⟩ := h
  rw [coins_inj _ _ g1, txT_inj _ _ g2, h32T_inj _ _ g3, g4]
noncomputable def apN (x : ApX) (l sp : List TCoin) : List Blk := [.bx (.st [.own 6]), .no, .bx (.t (txT x.t)), .bx (.t (h32T x.ht)), .bx (.t (.bool x.first)), .bx (.t (.sq 37 (sp.map coinT))), .sq 37 (l.map coinT)]
noncomputable def ap1 (x : ApX) : List TCoin × List TCoin × Int := applyV x.l x.t (nmH x.t) x.ht x.first

noncomputable def G37 : GFun
  | HB, [.ptr 0 0 [], .ptr 2 0 [], .ptr 3 0 [], .ptr 4 0 [], .ptr 5 0 []] => match inv apH HB with
    | some x => @ite _ ((x.l.length ≤ 900000 ∧ lowL x.l = true)) (Classical.propDecidable _) ((some (apN x (ap1 x).1 (ap1 x).2.1, .t (.int .i64 (ap1 x).2.2)))) none
    | none => none
  | _, _ => none

theorem ct37 : CT [(31, ⟨[true, false, false, false], G31⟩)] [0, 1, 2, 3, 4, 6, 7, 8] [] := ⟨(.cons g31 (.nil _))⟩

set_option maxHeartbeats 2000000 in
theorem g37 : GCon Try.prog 37 G37 := by
  refine gconc E_ok (rs := [.tmp 6 30]) Try.func37 rfl Try.ntmps37 (by kernel_rfl) rfl (by decide) G37 (np := 5) ?_ ?_
  · intro HB xs h; unfold G37; split <;> first | rfl | (simp at h; done)
  intro HB xs H r hG hwf hex
  unfold G37 at hG
  split at hG <;> try (cases hG; done)
  split at hG <;> try (cases hG; done)
  rename_i x hx
  split at hG
  case isFalse => cases hG
  rename_i hcc
  cases hG
  obtain ⟨hlen, hlow⟩ := hcc
  obtain rfl := inv_inv hx
  have h := apply_vc x.l x.t x.ht x.first hlen hlow
  obtain ⟨l, t, ht, first⟩ := x
  dsimp only at h hlen hlow
  simp only [apH, apN, ap1, h32T]
  generalize applyV l t (nmH t) ht first = R at *
  obtain ⟨L, sp, e⟩ := R
  dsimp only at h ⊢
  rw [txT_st] at h ⊢
  simp only [vwN] at h
  repeat refine St (And.intro (And.intro @gentry.eq_1 <| @gentry.eq_2) <| h) ct37 ?_
  exact AWP.ret (Fin trivial [] [0, 1, 2, 3, 4, 5, 6])
theorem ap1_c (x : ApX) (h : x.l.length ≤ 900000) (h2 : lowL x.l = true) : G37 [.bx (.st [.own 1]), .sq 37 (x.l.map coinT), .bx (.t (txT x.t)), .bx (.t (.int .u32 (x.ht.toNat : Int))), .bx (.t (.bool x.first)), .bx (.t .nil)] [.ptr 0 0 [], .ptr 2 0 [], .ptr 3 0 [], .ptr 4 0 [], .ptr 5 0 []] = some (apN x (ap1 x).1 (ap1 x).2.1, .t (.int .i64 (ap1 x).2.2)) := by
  show G37 (apH x) _ = _
  simp only [G37, inv_of apH_inj]
  exact if_pos ⟨h, h2⟩

/-- The trial of Apply. -/
noncomputable def G32A : GFun
  | HB, [.ptr 0 0 [], .clo 37 [.ptr 2 0 [], .ptr 3 0 [], .ptr 4 0 [], .ptr 5 0 []]] => match inv apH HB with
    | some x => @ite _ ((x.l.length ≤ 900000 ∧ lowL x.l = true)) (Classical.propDecidable _) ((some (apN x (if (ap1 x).2.2 = 0 then (ap1 x).1 else x.l) (ap1 x).2.1, .t (.int .i64 (ap1 x).2.2)))) none
    | none => none
  | _, _ => none

theorem ct32A : CT [(37, ⟨[true, true, true, true, true], G37⟩), (47, ⟨[true], G47⟩)] [0, 1, 4, 5, 6, 18] [] := ⟨(.cons g37 (.cons g47 (.nil _)))⟩

set_option maxHeartbeats 4000000 in
theorem g32A : GCon Try.prog 32 G32A := by
  refine gconc E_ok (rs := [.tmp 4 30]) Try.func32 rfl Try.ntmps32 (by kernel_rfl) rfl (by decide) G32A (np := 2) ?_ ?_
  · intro HB xs h; unfold G32A; split <;> first | rfl | (simp at h; done)
  intro HB xs H r hG hwf hex
  unfold G32A at hG
  split at hG <;> try (cases hG; done)
  
  split at hG <;> try (cases hG; done)
  rename_i x hx
  split at hG
  case isFalse => cases hG
  rename_i hcc
  cases hG
  obtain ⟨hlen, hlow⟩ := hcc
  obtain rfl := inv_inv hx
  have h := ap1_c x hlen hlow
  have hcl := clone_vc x.l (by omega)
  generalize ap1 x = R at *
  obtain ⟨l, t, ht, first⟩ := x
  obtain ⟨L, sp, e⟩ := R
  dsimp only at h hcl ⊢
  simp only [apH, apN, h32T] at h ⊢
  rw [txT_st] at h ⊢
  by_cases he : e = 0
  · subst he
    rw [if_pos rfl]
    have he2 : ((0 : Int) == 0) = true := rfl
    repeat refine St (And.intro (And.intro @gentry.eq_1 <| @gentry.eq_2) <| And.intro hcl <| And.intro h <| he2) ct32A ?_
    refine AWP.weak (Weak.drop 1 _ rfl rfl) ?_
    exact AWP.ret (Fin trivial [] [0, 1, 2, 3, 4, 5, 8])
  · rw [if_neg he]
    have he2 : (e == 0) = false := by simpa using he
    repeat refine St (And.intro (And.intro @gentry.eq_1 <| @gentry.eq_2) <| And.intro hcl <| And.intro h <| he2) ct32A ?_
    refine AWP.weak (Weak.moveBx (v' := _) 0 1 [0] 0 _ rfl rfl rfl (by decide) (by simp only [W, eqq, ↓reduceIte, Nat.reduceEqDiff, Nat.reduceLT, Nat.reduceLeDiff, Nat.reduceAdd, Nat.reduceMul, Nat.reduceSub, Nat.reduceBEq, Int.reduceLE, Int.reduceLT, Int.reduceNeg, Int.reduceToNat, Int.reduceEq, Int.reduceBEq, Int.reduceBNe, Nat.reduceBNe, bne_self_eq_false, reduceCtorEq, gt_iff_lt, ge_iff_le]) (by simp only [W, eqq, ↓reduceIte, Nat.reduceEqDiff, Nat.reduceLT, Nat.reduceLeDiff, Nat.reduceAdd, Nat.reduceMul, Nat.reduceSub, Nat.reduceBEq, Int.reduceLE, Int.reduceLT, Int.reduceNeg, Int.reduceToNat, Int.reduceEq, Int.reduceBEq, Int.reduceBNe, Nat.reduceBNe, bne_self_eq_false, reduceCtorEq, gt_iff_lt, ge_iff_le]) (by simp only [W, eqq, ↓reduceIte, Nat.reduceEqDiff, Nat.reduceLT, Nat.reduceLeDiff, Nat.reduceAdd, Nat.reduceMul, Nat.reduceSub, Nat.reduceBEq, Int.reduceLE, Int.reduceLT, Int.reduceNeg, Int.reduceToNat, Int.reduceEq, Int.reduceBEq, Int.reduceBNe, Nat.reduceBNe, bne_self_eq_false, reduceCtorEq, gt_iff_lt, ge_iff_le]; rfl)) ?_
    exact AWP.ret (Fin trivial [] [0, 1, 2, 3, 4, 5, 9])

theorem trialA_c (x : ApX) (h : x.l.length ≤ 900000) (h2 : lowL x.l = true) : G32A [.bx (.st [.own 1]), .sq 37 (x.l.map coinT), .bx (.t (txT x.t)), .bx (.t (.int .u32 (x.ht.toNat : Int))), .bx (.t (.bool x.first)), .bx (.t .nil)] [.ptr 0 0 [], .clo 37 [.ptr 2 0 [], .ptr 3 0 [], .ptr 4 0 [], .ptr 5 0 []]] = some (apN x (if (ap1 x).2.2 = 0 then (ap1 x).1 else x.l) (ap1 x).2.1, .t (.int .i64 (ap1 x).2.2)) := by
  show G32A (apH x) _ = _
  simp only [G32A, inv_of apH_inj]
  exact if_pos ⟨h, h2⟩

/-- A transaction applied, or nothing changed. -/
noncomputable def appV (l : List TCoin) (t : TTx) (ht : UInt32) (first : Bool) : List TCoin × List TCoin × Int :=
  (if (applyV l t (nmH t) ht first).2.2 = 0 then (applyV l t (nmH t) ht first).1 else l, (applyV l t (nmH t) ht first).2.1, (applyV l t (nmH t) ht first).2.2)
noncomputable def G23 : GFun
  | [], [.t .nilp, .t x, .t y, .t (.bool first)] => match inv txT x, inv h32T y with
    | some t, some ht => some ([], .tup [.t (.sq 37 []), .t (.int .i64 1)])
    | _, _ => none
  | HB, [.ptr 0 0 [], .t x, .t y, .t (.bool first)] => match inv vwH HB, inv txT x, inv h32T y with
    | some l, some t, some ht => @ite _ ((l.length ≤ 900000 ∧ lowL l = true)) (Classical.propDecidable _) ((some (vwN (appV l t ht first).1, .tup [.t (.sq 37 ((appV l t ht first).2.1.map coinT)), .t (.int .i64 (appV l t ht first).2.2)]))) none
    | _, _, _ => none
  | _, _ => none

theorem ct23 : CT [(32, ⟨[true, true], G32A⟩)] [0, 1, 2, 3, 5, 6, 7, 8, 9, 10, 11, 13] [] := ⟨(.cons g32A (.nil _))⟩

set_option maxHeartbeats 4000000 in
theorem g23 : GCon Try.prog 23 G23 := by
  refine gconc E_ok (rs := [.tmp 8 22, .tmp 9 30]) Try.func23 rfl Try.ntmps23 (by kernel_rfl) rfl (by decide) G23 (np := 4) ?_ ?_
  · intro HB xs h; unfold G23; split <;> first | rfl | (simp at h; done)
  intro HB xs H r hG hwf hex
  unfold G23 at hG
  split at hG <;> try (cases hG; done)
  · rename_i x y first
    split at hG <;> try (cases hG; done)
    rename_i t ht htx hht
    cases hG
    obtain rfl := inv_inv htx
    obtain rfl := inv_inv hht
    rw [txT_st]
    simp only [h32T]
    repeat refine St (And.intro @gentry.eq_1 <| @gentry.eq_2) ct23 ?_
    exact AWP.ret (Fin trivial [] [])
  rename_i x y first
  split at hG <;> try (cases hG; done)
  rename_i l t ht hl htx hht
  split at hG
  case isFalse => cases hG
  rename_i hcc
  cases hG
  obtain ⟨hlen, hlow⟩ := hcc
  obtain rfl := inv_inv hl
  obtain rfl := inv_inv htx
  obtain rfl := inv_inv hht
  have h := trialA_c ⟨l, t, ht, first⟩ hlen hlow
  rw [show appV l t ht first = (if (ap1 ⟨l, t, ht, first⟩).2.2 = 0 then (ap1 ⟨l, t, ht, first⟩).1 else l, (ap1 ⟨l, t, ht, first⟩).2.1, (ap1 ⟨l, t, ht, first⟩).2.2) from rfl]
  generalize ap1 ⟨l, t, ht, first⟩ = R at *
  obtain ⟨L, sp, e⟩ := R
  dsimp only at h ⊢
  generalize (if e = 0 then L else l) = Z at *
  simp only [vwH, apN, h32T] at h ⊢
  rw [txT_st] at h ⊢
  repeat refine St (And.intro (And.intro @gentry.eq_1 <| @gentry.eq_2) <| h) ct23 ?_
  exact AWP.ret (Fin @vwN.eq_def [] [0, 1, 6])
theorem appl_c (l : List TCoin) (t : TTx) (ht : UInt32) (first : Bool) (h : l.length ≤ 900000) (h2 : lowL l = true) : G23 [.bx (.st [.own 1]), .sq 37 (l.map coinT)] [.ptr 0 0 [], .t (txT t), .t (.int .u32 (ht.toNat : Int)), .t (.bool first)] = some (vwN (appV l t ht first).1, .tup [.t (.sq 37 ((appV l t ht first).2.1.map coinT)), .t (.int .i64 (appV l t ht first).2.2)]) := by
  show G23 (vwH l) [.ptr 0 0 [], .t (txT t), .t (h32T ht), .t (.bool first)] = _
  simp only [G23, inv_of vwH_inj, inv_of txT_inj, inv_of h32T_inj]
  exact if_pos ⟨h, h2⟩

end Go.Fw

end

section
/- A region in two parts. -/
namespace Go.Fw
open Go Go.Proofs
set_option linter.unusedVariables false

theorem AWP.sK {gl : GCalls} {keep : List Nat} {ds : List (Nat × List Info)} {kp N id : Nat} {l1 l2 : List Oper} {Q : Exit → AS → Prop} {S S1 S2 S3 : AS} {F : Prop} (hF : F) (ct : CT gl keep ds)
    (hw : Weak kp N S1 S2) (hQ : Q .normal ⟨prune keep S3.s, S3.H⟩)
    (h1 : F → gops E eqq gl N (l1 ++ l2) l1 S = some S1 := by (intro hF; simp only [W, eqq, ↓reduceIte, Nat.reduceEqDiff, Nat.reduceLT, Nat.reduceLeDiff, Nat.reduceAdd, Nat.reduceMul, Nat.reduceSub, Nat.reduceBEq, Int.reduceLE, Int.reduceLT, Int.reduceNeg, Int.reduceToNat, Int.reduceEq, Int.reduceBEq, Int.reduceBNe, Nat.reduceBNe, bne_self_eq_false, reduceCtorEq, gt_iff_lt, ge_iff_le, hF]; with_reducible rfl))
    (h2 : F → gops E eqq gl N (l1 ++ l2) l2 S2 = some S3 := by (intro hF; simp only [W, eqq, ↓reduceIte, Nat.reduceEqDiff, Nat.reduceLT, Nat.reduceLeDiff, Nat.reduceAdd, Nat.reduceMul, Nat.reduceSub, Nat.reduceBEq, Int.reduceLE, Int.reduceLT, Int.reduceNeg, Int.reduceToNat, Int.reduceEq, Int.reduceBEq, Int.reduceBNe, Nat.reduceBNe, bne_self_eq_false, reduceCtorEq, gt_iff_lt, ge_iff_le, hF]; with_reducible rfl)) : AWP kp Try.prog N (.region id (l1 ++ l2).toArray false) Q S :=
  AWP.gsplit X_ok ct.cl keep (h1 hF) hw (h2 hF) hQ

end Go.Fw

end

section
/- Chapter 25: the live question. -/
namespace Go.Fw
open Go Go.Proofs
set_option linter.unusedVariables false
set_option linter.unusedSimpArgs false

def tx0 : TTx := ⟨0, [], [⟨1, []⟩, ⟨2, []⟩], 0⟩
theorem bare0 : bareB tx0 = [0, 0, 0, 0, 0, 2, 1, 0, 0, 0, 0, 0, 0, 0, 0, 2, 0, 0, 0, 0, 0, 0, 0, 0, 0, 0, 0, 0] := by decide +kernel
theorem name0 : shaL (shaL (bareB tx0)) ≠ List.replicate 32 0 := by
  rw [bare0]
  decide +kernel
theorem fits0 : fitsB tx0 = true := by decide +kernel
theorem nm0 : (nmH tx0).1 ≠ zH.1 := by
  show namO tx0 ≠ List.replicate 32 0
  unfold namO
  rw [if_pos fits0]
  exact name0
noncomputable def live0 : TCoin := ⟨⟨nmH tx0, 0⟩, ⟨1, []⟩, 7, true⟩
noncomputable def live1 : TCoin := ⟨⟨nmH tx0, 1⟩, ⟨2, []⟩, 7, true⟩
theorem live_app : appV [] tx0 7 true = ([live0, live1], [], 0) := by
  have hc : chkE tx0 = 0 := by unfold chkE; rw [if_pos fits0]
  have hm : madeC tx0 (nmH tx0) 7 true = [live0, live1] := rfl
  have ht : takeV [] (insR tx0 true) [] = ([], [], 0) := rfl
  have a0 : addV [] live0 = ([live0], 0) := by
    unfold addV
    rw [if_neg (by simp [plB])]
    rfl
  have hp : plN [live0] live1.r = 1 := by
    have e : cmpR live0.r live1.r = -1 := by
      show (if cmpL (nmH tx0).1 (nmH tx0).1 = 0 then cmpI ((0 : UInt32).toNat : Int) ((1 : UInt32).toNat : Int) else cmpL (nmH tx0).1 (nmH tx0).1) = -1
      rw [if_pos (cmpL_self _)]
      rfl
    unfold plN
    rw [bs_step (by simp) (by simp)]
    have e2 : cmpR (([live0] : List TCoin).getD ((0 + [live0].length) / 2) dCoin).r live1.r = -1 := e
    rw [if_pos (by rw [e2]; decide)]
    exact bs_end (by simp)
  have a1 : addV [live0] live1 = ([live0, live1], 0) := by
    unfold addV
    rw [if_neg (by unfold plB; rw [hp]; simp), hp]
    rfl
  have hA : addsV [] [live0, live1] = ([live0, live1], 0) := by
    unfold addsV
    rw [a0, if_neg (by simp)]
    unfold addsV
    rw [a1, if_neg (by simp)]
    rfl
  have hV : applyV [] tx0 (nmH tx0) 7 true = ([live0, live1], [], 0) := by
    unfold applyV
    rw [hc, if_neg (by simp), ht]
    dsimp only
    rw [if_neg (by simp), hm, hA]
    rfl
  unfold appV
  rw [hV]
  rfl
theorem two_get (a b d : TCoin) : ∀ i, i < 2 → ([a, b] : List TCoin).getD i d = a ∨ ([a, b] : List TCoin).getD i d = b
  | 0, _ => .inl rfl
  | 1, _ => .inr rfl
theorem live_spend : spdV [live0, live1] ⟨zH, 0⟩ = ([live0, live1], dCoin, 33) := by
  have hne : ∀ i, i < 2 → cmpR (([live0, live1] : List TCoin).getD i dCoin).r ⟨zH, 0⟩ ≠ 0 := by
    intro i hi h
    have key : ∀ c : TCoin, c.r.h = nmH tx0 → cmpR c.r ⟨zH, 0⟩ ≠ 0 := by
      intro c hc h
      unfold cmpR at h
      rw [hc] at h
      split at h
      · rename_i h0
        exact nm0 (cmpL_eq _ _ h0)
      · rename_i h0
        exact h0 h
    rcases two_get live0 live1 dCoin i hi with e | e
    · rw [e] at h; exact key live0 rfl h
    · rw [e] at h; exact key live1 rfl h
  have hb : plB [live0, live1] ⟨zH, 0⟩ = false := by
    unfold plB
    by_cases h : plN [live0, live1] ⟨zH, 0⟩ < [live0, live1].length
    · rw [decide_eq_true h, Bool.true_and, decide_eq_false_iff_not]
      exact hne _ h
    · rw [decide_eq_false h]; rfl
  unfold spdV
  rw [hb]
  rfl

def F8 : Fun
  | [] => some ([], .t (.bool true))
  | _ => none

theorem ct8 : CT [(10, ⟨[true], G10⟩), (14, ⟨[true, false], G14⟩), (15, ⟨[true], G15⟩), (23, ⟨[true, false, false, false], G23⟩), (26, ⟨[], treeG F26⟩)] [0, 1, 2, 3, 4, 6, 9] [] := ⟨(.cons g10 (.cons g14 (.cons g15 (.cons g23 (.cons c26.g (.nil _))))))⟩

set_option maxRecDepth 8000 in
set_option maxHeartbeats 4000000 in
theorem c8 : ACon Try.prog 8 F8 := by
  refine aconc E_ok (rs := [.tmp 0 4]) Try.func8 rfl Try.ntmps8 (by kernel_rfl) rfl (by decide) F8 (np := 0) ?_ ?_
  · intro ts h; unfold F8; split <;> first | rfl | (simp at h; done)
  intro ts H r hF hwf
  unfold F8 at hF
  split at hF <;> try (cases hF; done)
  cases hF
  have hA := appl_c [] tx0 7 true (by simp) rfl
  rw [live_app] at hA
  have hL := list_c [live0, live1] (by simp) rfl
  have hSp := spend_vc [live0, live1] ⟨zH, 0⟩ (by simp) rfl
  rw [live_spend] at hSp
  have hN : G15 [.bx (.st [.own 1]), .sq 37 ([live0, live1].map coinT)] [.ptr 0 0 []] = some (vwH [live0, live1], .t (.int .i64 2)) := by
    show G15 (vwH [live0, live1]) _ = _
    simp only [G15, inv_of vwH_inj]
    rfl
  have e0 : coinT live0 = .st [.st [.ba 32 (nmH tx0).1, .int .u32 0], .st [.int .u64 1, .by []], .int .u32 7, .bool true] := rfl
  have e1 : coinT live1 = .st [.st [.ba 32 (nmH tx0).1, .int .u32 1], .st [.int .u64 2, .by []], .int .u32 7, .bool true] := rfl
  have et : txT tx0 = .st [.int .u32 0, .sq 35 [], .sq 2 [.st [.int .u64 1, .by []], .st [.int .u64 2, .by []]], .int .u32 0] := rfl
  have h7 : ((7 : UInt32).toNat : Int) = 7 := rfl
  have h0 : ((0 : UInt32).toNat : Int) = 0 := rfl
  have hz : zH.1 = zby 32 := rfl
  simp only [vwH, vwN, List.map_cons, List.map_nil, e0, e1, et, h7, h0, hz, dCoin_T, List.cons_append, List.nil_append] at hA hL hSp hN
  generalize nmH tx0 = N at *
  repeat refine St (And.intro @F26.eq_def <| And.intro @vwH.eq_def <| And.intro @List.map_nil.{0, 0} <| And.intro hA <| And.intro hL <| And.intro hSp <| hN) ct8 ?_
  refine AWP.sK (l1 := [_, _, _, _]) (And.intro hA <| And.intro hL <| And.intro hSp <| hN) ct8 (Weak.trans (Weak.freeze 2) (Weak.thawS (y := .sq 2 [.st [.int .u64 1, .by []], .st [.int .u64 2, .by []]]) 14 rfl)) ?_
  show AWP _ _ _ _ _ _
  repeat refine St (And.intro @F26.eq_def <| And.intro @vwH.eq_def <| And.intro @List.map_nil.{0, 0} <| And.intro hA <| And.intro hL <| And.intro hSp <| hN) ct8 ?_
  exact AWP.ret (Fin trivial [] [])

end Go.Fw

end

section
/- view's answer: what may be asked about (lines of R09a and R11b). -/
namespace Go.Fw
open Go Go.Proofs
set_option linter.unusedVariables false
set_option linter.unusedSimpArgs false

theorem tx_getD (l : List TTx) (k : Nat) (h : k < l.length) : (l.map txT).getD k default = txT (l.getD k dTx) := by simp [h]

noncomputable def F30 : Fun
  | [y] => match inv txT y with
    | some t => some ([], .t (.bool (smallT t)))
    | none => none
  | _ => none

theorem ct30 : CT [] [0, 1, 2, 3, 4, 5, 15, 20, 30, 35, 45, 54, 67] [] := ⟨GClOk.nil _⟩

set_option maxHeartbeats 1000000 in
theorem c30 : ACon Try.prog 30 F30 := by
  refine aconc E_ok (rs := [.tmp 2 4]) Try.func30 rfl Try.ntmps30 (by kernel_rfl) rfl (by decide) F30 (np := 1) ?_ ?_
  · intro ts h; unfold F30; split <;> first | rfl | (simp at h; done)
  intro ts H r hF hwf
  unfold F30 at hF
  split at hF <;> try (cases hF; done)
  split at hF <;> try (cases hF; done)
  rename_i t ht
  cases hF
  obtain rfl := inv_inv ht
  have hcb := smallT_eq t
  obtain ⟨c, hc⟩ : ∃ c, smallT t = c := ⟨_, rfl⟩
  rw [hc] at hcb
  rw [hc]
  obtain ⟨v, is, os, k⟩ := t
  dsimp only at hcb
  have hyu : txT ⟨v, is, os, k⟩ = .st [.int .u32 (v.toNat : Int), .sq 35 (is.map inT), .sq 2 (os.map outT), .int .u32 (k.toNat : Int)] := rfl
  rw [hyu]
  by_cases h1 : 6 < (is.length : Int)
  · have e : c = false := by rw [hcb]; have : ¬ is.length ≤ 6 := by omega
                             simp [this]
    subst e
    repeat refine St h1 ct30 ?_
    exact AWP.ret (Fin trivial [] [])
  by_cases h2 : 6 < (os.length : Int)
  · have e : c = false := by rw [hcb]; have : ¬ os.length ≤ 6 := by omega
                             simp [this]
    subst e
    repeat refine St (And.intro h1 <| h2) ct30 ?_
    exact AWP.ret (Fin trivial [] [])
  have hcb' : c = (os.all scrS && is.all witS) := by
    rw [hcb]
    have e1 : is.length ≤ 6 := by omega
    have e2 : os.length ≤ 6 := by omega
    simp [e1, e2]
  repeat refine St (And.intro h1 <| h2) ct30 ?_
  refine AWP.loop (G := { i : Nat // i ≤ os.length ∧ (os.take i).all scrS = true }) (fun i => ⟨[(1, .ptr 0 0 []), (3, .t (.int .i64 (i.1 : Int)))], [.bx (.t (.st [.int .u32 (v.toNat : Int), .sq 35 (is.map inT), .sq 2 (os.map outT), .int .u32 (k.toNat : Int)]))]⟩) (fun i => os.length - i.1) ⟨0, by omega, rfl⟩ (Wt trivial [1, 3] [0]) ?_
  intro ⟨i, hi, ha⟩
  dsimp only
  by_cases hlt : (i : Int) < (os.length : Int)
  · have hlt' : i < os.length := by omega
    have hget := out_getD os i hlt'
    have hal := all_take scrS dOut os i hlt'
    have hbad := all_getD scrS dOut os i hlt'
    generalize os.getD i dOut = x at *
    by_cases hb : 600 < (x.scr.length : Int)
    · have hx : scrS x = false := decide_eq_false (by omega)
      have e : c = false := by rw [hcb', hbad hx]; rfl
      subst e
      repeat refine St (And.intro hlt <| And.intro hlt' <| And.intro hget <| And.intro @outT.eq_def <| hb) ct30 ?_
      exact AWP.ret (Fin trivial [] [])
    · have hx : scrS x = true := decide_eq_true (by omega)
      rw [ha, hx] at hal
      repeat refine St (And.intro hlt <| And.intro hlt' <| And.intro hget <| And.intro @outT.eq_def <| hb) ct30 ?_
      exact ⟨⟨i + 1, by omega, by rw [hal]; rfl⟩, (Wt trivial [1, 3] [0]), by simp only; omega⟩
  obtain rfl : i = os.length := by omega
  rw [List.take_length] at ha
  rw [ha, Bool.true_and] at hcb'
  repeat refine St hlt ct30 ?_
  refine AWP.loop (G := { i : Nat // i ≤ is.length ∧ (is.take i).all witS = true }) (fun i => ⟨[(1, .ptr 0 0 []), (4, .t (.int .i64 (i.1 : Int)))], [.bx (.t (.st [.int .u32 (v.toNat : Int), .sq 35 (is.map inT), .sq 2 (os.map outT), .int .u32 (k.toNat : Int)]))]⟩) (fun i => is.length - i.1) ⟨0, by omega, rfl⟩ (Wt trivial [1, 4] [0]) ?_
  intro ⟨i, hi, hai⟩
  dsimp only
  by_cases hlti : (i : Int) < (is.length : Int)
  · have hlt' : i < is.length := by omega
    have hget := in_getD is i hlt'
    have hal := all_take witS dIn is i hlt'
    have hbad := all_getD witS dIn is i hlt'
    generalize is.getD i dIn = x at *
    have hxe : witS x = (decide (x.wit.length ≤ 6) && x.wit.all fun y => decide (y.length ≤ 600)) := rfl
    by_cases h30 : 6 < (x.wit.length : Int)
    · have e : c = false := by rw [hcb', hbad (by rw [hxe]; have : ¬ x.wit.length ≤ 6 := by omega
                                                  simp [this])]
      subst e
      repeat refine St (And.intro hlti <| And.intro hlt' <| And.intro hget <| And.intro @inT.eq_def <| And.intro @refT.eq_def <| h30) ct30 ?_
      exact AWP.ret (Fin trivial [] [])
    have h30' : decide (x.wit.length ≤ 6) = true := decide_eq_true (by omega)
    rw [h30', Bool.true_and] at hxe
    repeat refine St (And.intro hlti <| And.intro hlt' <| And.intro hget <| And.intro @inT.eq_def <| And.intro @refT.eq_def <| h30) ct30 ?_
    refine AWP.loop (G := { j : Nat // j ≤ x.wit.length ∧ (x.wit.take j).all (fun y => decide (y.length ≤ 600)) = true }) (fun j => ⟨[(1, .ptr 0 0 []), (4, .t (.int .i64 (i : Int))), (5, .t (.int .i64 (j.1 : Int)))], [.bx (.t (.st [.int .u32 (v.toNat : Int), .sq 35 (is.map inT), .sq 2 (os.map outT), .int .u32 (k.toNat : Int)]))]⟩) (fun j => x.wit.length - j.1) ⟨0, by omega, rfl⟩ (Wt trivial [1, 4, 5] [0]) ?_
    intro ⟨j, hj, haj⟩
    dsimp only
    by_cases hltj : (j : Int) < (x.wit.length : Int)
    · have hltj' : j < x.wit.length := by omega
      have hgetj := map_getD x.wit j hltj'
      have halj := all_take (fun y : List UInt8 => decide (y.length ≤ 600)) [] x.wit j hltj'
      have hbadj := all_getD (fun y : List UInt8 => decide (y.length ≤ 600)) [] x.wit j hltj'
      generalize x.wit.getD j [] = y at *
      by_cases hb : 600 < (y.length : Int)
      · have hx : decide (y.length ≤ 600) = false := decide_eq_false (by omega)
        have e : c = false := by rw [hcb', hbad (by rw [hxe]; exact hbadj hx)]
        subst e
        repeat refine St (And.intro hlti <| And.intro hlt' <| And.intro hget <| And.intro @inT.eq_def <| And.intro @refT.eq_def <| And.intro hltj <| And.intro hltj' <| And.intro hgetj <| hb) ct30 ?_
        exact AWP.ret (Fin trivial [] [])
      · have hx : decide (y.length ≤ 600) = true := decide_eq_true (by omega)
        rw [haj, hx] at halj
        repeat refine St (And.intro hlti <| And.intro hlt' <| And.intro hget <| And.intro @inT.eq_def <| And.intro @refT.eq_def <| And.intro hltj <| And.intro hltj' <| And.intro hgetj <| hb) ct30 ?_
        exact ⟨⟨j + 1, by omega, by rw [halj]; rfl⟩, (Wt trivial [1, 4, 5] [0]), by simp only; omega⟩
    obtain rfl : j = x.wit.length := by omega
    rw [List.take_length] at haj
    rw [haj] at hxe
    rw [hai, hxe] at hal
    repeat refine St (And.intro hlti <| And.intro hlt' <| And.intro hget <| And.intro @inT.eq_def <| And.intro @refT.eq_def <| hltj) ct30 ?_
    exact ⟨⟨i + 1, by omega, by rw [hal]; rfl⟩, (Wt trivial [1, 4] [0]), by simp only; omega⟩
  obtain rfl : i = is.length := by omega
  rw [List.take_length] at hai
  rw [hai] at hcb'
  subst hcb'
  repeat refine St hlti ct30 ?_
  exact AWP.ret (Fin trivial [] [])

theorem rSmall_c (t : TTx) : F30 [txT t] = some ([], .t (.bool (smallT t))) := by
  simp only [F30, inv_of txT_inj]


def smallBl (l : List TTx) : Bool := decide (l.length ≤ 8) && l.all smallT
theorem smallBl_ok {l : List TTx} (h : smallBl l = true) : l.length ≤ 8 ∧ l.all smallT = true := by
  simpa [smallBl] using h
noncomputable def F16 : Fun
  | [y] => match inv txsT y with
    | some l => some ([], .t (.bool (smallBl l)))
    | none => none
  | _ => none

theorem ct16 : CT [(30, ⟨[false], treeG F30⟩)] [0, 2, 3, 7, 19] [] := ⟨(.cons c30.g (.nil _))⟩

set_option maxHeartbeats 1000000 in
theorem c16 : ACon Try.prog 16 F16 := by
  refine aconc E_ok (rs := [.tmp 2 4]) Try.func16 rfl Try.ntmps16 (by kernel_rfl) rfl (by decide) F16 (np := 1) ?_ ?_
  · intro ts h; unfold F16; split <;> first | rfl | (simp at h; done)
  intro ts H r hF hwf
  unfold F16 at hF
  split at hF <;> try (cases hF; done)
  split at hF <;> try (cases hF; done)
  rename_i l hl
  cases hF
  obtain rfl := inv_inv hl
  have hg : l.length ≤ maxLen := by
    have h1 := hwf (txsT l) (by simp)
    simp only [txsT, T.wf] at h1
    simpa using h1.2.1
  unfold maxLen at hg
  have hsm : smallBl l = (decide (l.length ≤ 8) && l.all smallT) := rfl
  obtain ⟨c, hc⟩ : ∃ c, smallBl l = c := ⟨_, rfl⟩
  rw [hc] at hsm ⊢
  dsimp only [txsT]
  repeat refine St trivial ct16 ?_
  refine AWP.loop (G := { i : Nat // i ≤ l.length ∧ i ≤ 8 ∧ (l.take i).all smallT = true }) (fun i => ⟨[(0, .t (.sq 4 (l.map txT))), (3, .t (.int .i64 (i.1 : Int)))], []⟩) (fun i => l.length - i.1) ⟨0, by omega, by omega, rfl⟩ (Wt trivial [0, 3] []) ?_
  intro ⟨i, hi, hi8, ha⟩
  dsimp only
  by_cases hlt : (i : Int) < (l.length : Int)
  · have hlt' : i < l.length := by omega
    by_cases h8 : i = 8
    · have e : c = false := by rw [hsm, decide_eq_false (by omega)]; rfl
      have h8' : ((i : Int) == 8) = true := by rw [beq_iff_eq]; omega
      subst e
      repeat refine St (And.intro hlt <| h8') ct16 ?_
      exact AWP.ret (Fin trivial [] [])
    have h8' : ((i : Int) == 8) = false := by rw [beq_eq_false_iff_ne]; omega
    have hget := tx_getD l i hlt'
    have hal := all_take smallT dTx l i hlt'
    have hbad := all_getD smallT dTx l i hlt'
    generalize l.getD i dTx = x at *
    have q1 : F30 [txT x] = some ([], .t (.bool (smallT x))) := by simp only [F30, inv_of txT_inj]
    rw [txT_st] at q1 hget
    cases hx : smallT x with
    | false =>
      rw [hx] at q1
      have e : c = false := by rw [hsm, hbad hx, Bool.and_false]
      subst e
      repeat refine St (And.intro hlt <| And.intro hlt' <| And.intro h8' <| And.intro hget <| q1) ct16 ?_
      exact AWP.ret (Fin trivial [] [])
    | true =>
      rw [hx] at q1
      rw [ha, hx] at hal
      repeat refine St (And.intro hlt <| And.intro hlt' <| And.intro h8' <| And.intro hget <| q1) ct16 ?_
      exact ⟨⟨i + 1, by omega, by omega, by rw [hal]; rfl⟩, (Wt trivial [0, 3] []), by simp only; omega⟩
  obtain rfl : i = l.length := by omega
  rw [List.take_length] at ha
  have e : c = true := by rw [hsm, ha, decide_eq_true hi8]; rfl
  subst e
  repeat refine St hlt ct16 ?_
  exact AWP.ret (Fin trivial [] [])

theorem rsmallb_c (l : List TTx) : F16 [.sq 4 (l.map txT)] = some ([], .t (.bool (smallBl l))) := by
  have : F16 [txsT l] = some ([], .t (.bool (smallBl l))) := by simp only [F16, inv_of txsT_inj]
  exact this


end Go.Fw

end

section
/- view's answer: coins alike; which coins may be asked about. -/
namespace Go.Fw
open Go Go.Proofs
set_option linter.unusedVariables false
set_option linter.unusedSimpArgs false

/-- Are coins alike? -/
noncomputable def sameC (a b : TCoin) : Bool := @decide (a = b) (Classical.propDecidable _)
theorem sameC_eq (a b : TCoin) : sameC a b = (a.r.h.1 == b.r.h.1 && (((a.r.i.toNat : Int) == (b.r.i.toNat : Int))) && ((a.out.val.toNat : Int) == (b.out.val.toNat : Int)) && (a.out.scr == b.out.scr) && ((a.ht.toNat : Int) == (b.ht.toNat : Int)) && (a.first == b.first)) := by
  obtain ⟨⟨⟨h1, g1⟩, i1⟩, ⟨v1, s1⟩, t1, f1⟩ := a
  obtain ⟨⟨⟨h2, g2⟩, i2⟩, ⟨v2, s2⟩, t2, f2⟩ := b
  dsimp only
  rw [Bool.eq_iff_iff]
  unfold sameC
  rw [@decide_eq_true_iff _ (Classical.propDecidable _)]
  simp only [Bool.and_eq_true, beq_iff_eq]
  constructor
  · intro h
    cases h
    exact ⟨⟨⟨⟨⟨rfl, rfl⟩, rfl⟩, rfl⟩, rfl⟩, rfl⟩
  · rintro ⟨⟨⟨⟨⟨e1, e2⟩, e3⟩, e4⟩, e5⟩, e6⟩
    subst e1 e4 e6
    have e2' : i1 = i2 := UInt32.toNat_inj.1 (by omega)
    have e3' : v1 = v2 := UInt64.toNat_inj.1 (by omega)
    have e5' : t1 = t2 := UInt32.toNat_inj.1 (by omega)
    subst e2' e3' e5'
    rfl
theorem sameC_self (a : TCoin) : sameC a a = true := by unfold sameC; exact @decide_eq_true _ (Classical.propDecidable _) rfl
theorem sameC_iff (a b : TCoin) : sameC a b = true ↔ a = b := by unfold sameC; exact @decide_eq_true_iff _ (Classical.propDecidable _)

noncomputable def F12 : Fun
  | [x, y] => match inv coinT x, inv coinT y with
    | some a, some b => some ([], .t (.bool (sameC a b)))
    | _, _ => none
  | _ => none

theorem ct12 : CT [] [0, 1, 2, 3, 4] [] := ⟨GClOk.nil _⟩

set_option maxHeartbeats 2000000 in
theorem c12 : ACon Try.prog 12 F12 := by
  refine aconc E_ok (rs := [.tmp 4 4]) Try.func12 rfl Try.ntmps12 (by kernel_rfl) rfl (by decide) F12 (np := 2) ?_ ?_
  · intro ts h; unfold F12; split <;> first | rfl | (simp at h; done)
  intro ts H r hF hwf
  unfold F12 at hF
  split at hF <;> try (cases hF; done)
  split at hF <;> try (cases hF; done)
  rename_i a b ha hb
  cases hF
  obtain rfl := inv_inv ha
  obtain rfl := inv_inv hb
  have he := sameC_eq a b
  obtain ⟨c, hc⟩ : ∃ c, sameC a b = c := ⟨_, rfl⟩
  rw [hc] at he ⊢
  simp only [coinT_st]
  cases c1 : (a.r.h.1 == b.r.h.1 && ((a.r.i.toNat : Int) == (b.r.i.toNat : Int))) with
  | false =>
    rw [c1] at he
    simp only [Bool.false_and] at he
    subst he
    repeat refine St c1 ct12 ?_
    exact AWP.ret (Fin trivial [] [])
  | true =>
  rw [c1] at he
  simp only [Bool.true_and] at he
  cases c2 : ((a.out.val.toNat : Int) == (b.out.val.toNat : Int)) with
  | false =>
    rw [c2] at he
    simp only [Bool.false_and] at he
    subst he
    repeat refine St (And.intro c1 <| c2) ct12 ?_
    exact AWP.ret (Fin trivial [] [])
  | true =>
  rw [c2] at he
  simp only [Bool.true_and] at he
  cases c3 : (a.out.scr == b.out.scr) with
  | false =>
    rw [c3] at he
    simp only [Bool.false_and] at he
    subst he
    repeat refine St (And.intro c1 <| And.intro c2 <| c3) ct12 ?_
    exact AWP.ret (Fin trivial [] [])
  | true =>
  rw [c3] at he
  simp only [Bool.true_and] at he
  cases c4 : ((a.ht.toNat : Int) == (b.ht.toNat : Int)) with
  | false =>
    rw [c4] at he
    simp only [Bool.false_and] at he
    subst he
    repeat refine St (And.intro c1 <| And.intro c2 <| And.intro c3 <| c4) ct12 ?_
    exact AWP.ret (Fin trivial [] [])
  | true =>
  rw [c4] at he
  simp only [Bool.true_and] at he
  subst he
  repeat refine St (And.intro c1 <| And.intro c2 <| And.intro c3 <| c4) ct12 ?_
  exact AWP.ret (Fin trivial [] [])
theorem same_cc (a b : TCoin) : F12 [coinT a, coinT b] = some ([], .t (.bool (sameC a b))) := by
  simp only [F12, inv_of coinT_inj]

end Go.Fw

end

section
/- view's answer: Refs in order; lists alike; which coins may be asked about. -/
namespace Go.Fw
open Go Go.Proofs
set_option linter.unusedVariables false
set_option linter.unusedSimpArgs false

theorem less_cmp : ∀ x y : List UInt8, Op.bytesLess x y = decide (cmpL x y < 0)
  | [], [] => rfl
  | [], _ :: _ => rfl
  | _ :: _, [] => rfl
  | u :: x, v :: y => by
    unfold Op.bytesLess cmpL
    by_cases h : u = v
    · subst h
      rw [if_pos rfl, ← less_cmp x y]
      simp
    · rw [if_neg h]
      by_cases h2 : u < v
      · rw [if_pos h2]
        simp [h2]
      · rw [if_neg h2]
        simp [h, h2]
theorem beq_cmp (x y : List UInt8) : (x == y) = decide (cmpL x y = 0) := by
  rw [Bool.eq_iff_iff, beq_iff_eq, decide_eq_true_eq]
  exact ⟨fun h => by rw [h]; exact cmpL_self y, cmpL_eq x y⟩

noncomputable def F13 : Fun
  | [x, y] => match inv rfT x, inv rfT y with
    | some a, some b => some ([], .t (.bool (decide (cmpR a b < 0))))
    | _, _ => none
  | _ => none

theorem ct13 : CT [] [0, 1, 2, 3, 4, 5, 6] [(1, [⟨0, [2], [], []⟩, ⟨1, [7], [], []⟩, ⟨1, [8], [1], []⟩, ⟨0, [3], [], []⟩, ⟨1, [10], [], []⟩, ⟨1, [11], [4], []⟩, ⟨0, [9], [1, 2], []⟩, ⟨0, [12], [1, 2, 4, 5], []⟩])] := ⟨GClOk.nil _⟩

set_option maxHeartbeats 2000000 in
theorem c13 : ACon Try.prog 13 F13 := by
  refine aconc E_ok (rs := [.tmp 4 4]) Try.func13 rfl Try.ntmps13 (by kernel_rfl) rfl (by decide) F13 (np := 2) ?_ ?_
  · intro ts h; unfold F13; split <;> first | rfl | (simp at h; done)
  intro ts H r hF hwf
  unfold F13 at hF
  split at hF <;> try (cases hF; done)
  split at hF <;> try (cases hF; done)
  rename_i a b ha hb
  cases hF
  obtain rfl := inv_inv ha
  obtain rfl := inv_inv hb
  obtain ⟨⟨h1, g1⟩, i1⟩ := a
  obtain ⟨⟨h2, g2⟩, i2⟩ := b
  have hl := less_cmp h1 h2
  have he := beq_cmp h1 h2
  have ht1 : List.take 32 h1 = h1 := List.take_of_length_le (by omega)
  have ht2 : List.take 32 h2 = h2 := List.take_of_length_le (by omega)
  have hr : decide (cmpR ⟨⟨h1, g1⟩, i1⟩ ⟨⟨h2, g2⟩, i2⟩ < 0) = (Op.bytesLess h1 h2 || ((h1 == h2) && decide ((i1.toNat : Int) < (i2.toNat : Int)))) := by
    rw [hl, he]
    unfold cmpR cmpI
    dsimp only
    by_cases h0 : cmpL h1 h2 = 0
    · rw [if_pos h0, h0]
      by_cases h3 : (i1.toNat : Int) < (i2.toNat : Int)
      · rw [if_pos h3]; simp [h3]
      · rw [if_neg h3]
        by_cases h4 : (i2.toNat : Int) < (i1.toNat : Int)
        · rw [if_pos h4]; simp [h3]
        · rw [if_neg h4]; simp [h3]
    · rw [if_neg h0]; simp [h0]
  rw [hr]
  simp only [rfT]
  cases q1 : Op.bytesLess h1 h2 with
  | true =>
    repeat refine St (And.intro g1 <| And.intro g2 <| And.intro ht1 <| And.intro ht2 <| q1) ct13 ?_
    exact AWP.ret (Fin trivial [] [])
  | false =>
    cases q2 : (h1 == h2) with
    | true =>
      repeat refine St (And.intro g1 <| And.intro g2 <| And.intro ht1 <| And.intro ht2 <| And.intro q1 <| q2) ct13 ?_
      exact AWP.ret (Fin trivial [] [])
    | false =>
      repeat refine St (And.intro g1 <| And.intro g2 <| And.intro ht1 <| And.intro ht2 <| And.intro q1 <| q2) ct13 ?_
      exact AWP.ret (Fin trivial [] [])
theorem less_cc (a b : TRef) : F13 [.st [.ba 32 a.h.1, .int .u32 (a.i.toNat : Int)], .st [.ba 32 b.h.1, .int .u32 (b.i.toNat : Int)]] = some ([], .t (.bool (decide (cmpR a b < 0)))) := by
  show F13 [rfT a, rfT b] = _
  simp only [F13, inv_of rfT_inj]

def okCoin (c : TCoin) : Bool := decide (c.out.scr.length ≤ 600)
def okCs (l : List TCoin) : Bool := decide (l.length ≤ 40) && l.all okCoin
theorem okCs_ok {l : List TCoin} (h : okCs l = true) : l.length ≤ 40 ∧ lowL l = true := by
  unfold okCs at h
  rw [Bool.and_eq_true, decide_eq_true_eq] at h
  refine ⟨h.1, List.all_eq_true.2 fun x hx => ?_⟩
  have := List.all_eq_true.1 h.2 x hx
  unfold okCoin at this
  unfold lowC
  rw [decide_eq_true_eq] at this ⊢
  omega

noncomputable def F7 : Fun
  | [.sq 37 y] => match inv (List.map coinT) y with
    | some l => some ([], .t (.bool (okCs l)))
    | none => none
  | _ => none

theorem ct7 : CT [] [0, 2, 3, 7, 21] [] := ⟨GClOk.nil _⟩

set_option maxHeartbeats 2000000 in
theorem c7 : ACon Try.prog 7 F7 := by
  refine aconc E_ok (rs := [.tmp 2 4]) Try.func7 rfl Try.ntmps7 (by kernel_rfl) rfl (by decide) F7 (np := 1) ?_ ?_
  · intro ts h; unfold F7; split <;> first | rfl | (simp at h; done)
  intro ts H r hF hwf
  unfold F7 at hF
  split at hF <;> try (cases hF; done)
  split at hF <;> try (cases hF; done)
  rename_i l hl
  cases hF
  obtain rfl := inv_inv hl
  have hml : (l.map coinT).length = l.length := List.length_map ..
  have hg : l.length ≤ maxLen := by
    have h1 := hwf (.sq 37 (l.map coinT)) (by simp)
    simp only [T.wf] at h1
    simpa using h1.2.1
  unfold maxLen at hg
  have hsm : okCs l = (decide (l.length ≤ 40) && l.all okCoin) := rfl
  obtain ⟨c, hc⟩ : ∃ c, okCs l = c := ⟨_, rfl⟩
  rw [hc] at hsm ⊢
  repeat refine St trivial ct7 ?_
  refine AWP.loop (G := { i : Nat // i ≤ l.length ∧ i ≤ 40 ∧ (l.take i).all okCoin = true }) (fun i => ⟨[(0, .t (.sq 37 (l.map coinT))), (3, .t (.int .i64 (i.1 : Int)))], []⟩) (fun i => l.length - i.1) ⟨0, by omega, by omega, rfl⟩ (Wt trivial [0, 3] []) ?_
  intro ⟨i, hi, hi8, ha⟩
  dsimp only
  by_cases hlt : (i : Int) < (l.length : Int)
  · have hlt' : i < l.length := by omega
    by_cases h8 : i = 40
    · have e : c = false := by rw [hsm, decide_eq_false (by omega)]; rfl
      have h8' : ((i : Int) == 40) = true := by rw [beq_iff_eq]; omega
      subst e
      repeat refine St (And.intro hlt <| And.intro hml <| h8') ct7 ?_
      exact AWP.ret (Fin trivial [] [])
    have h8' : ((i : Int) == 40) = false := by rw [beq_eq_false_iff_ne]; omega
    have hget := coin_getD l i hlt'
    have hal := all_take okCoin dCoin l i hlt'
    have hbad := all_getD okCoin dCoin l i hlt'
    have hoe : okCoin (l.getD i dCoin) = decide ((l.getD i dCoin).out.scr.length ≤ 600) := rfl
    generalize l.getD i dCoin = x at *
    rw [coinT_st] at hget
    by_cases hb : 600 < (x.out.scr.length : Int)
    · have hx : okCoin x = false := by rw [hoe]; exact decide_eq_false (by omega)
      have e : c = false := by rw [hsm, hbad hx, Bool.and_false]
      subst e
      repeat refine St (And.intro hlt <| And.intro hlt' <| And.intro hml <| And.intro h8' <| And.intro hget <| hb) ct7 ?_
      exact AWP.ret (Fin trivial [] [])
    · have hx : okCoin x = true := by rw [hoe]; exact decide_eq_true (by omega)
      rw [ha, hx] at hal
      repeat refine St (And.intro hlt <| And.intro hlt' <| And.intro hml <| And.intro h8' <| And.intro hget <| hb) ct7 ?_
      exact ⟨⟨i + 1, by omega, by omega, by rw [hal]; rfl⟩, (Wt trivial [0, 3] []), by simp only; omega⟩
  obtain rfl : i = l.length := by omega
  rw [List.take_length] at ha
  have e : c = true := by rw [hsm, ha, decide_eq_true hi8]; rfl
  subst e
  repeat refine St (And.intro hlt <| hml) ct7 ?_
  exact AWP.ret (Fin trivial [] [])
theorem coins_cc (l : List TCoin) : F7 [.sq 37 (l.map coinT)] = some ([], .t (.bool (okCs l))) := by
  have hi : inv (List.map coinT) (l.map coinT) = some l := inv_of (f := List.map coinT) (fun a b h => coins_inj a b h) l
  simp only [F7, hi]

end Go.Fw

end

section
/- view's answer: lists of coins alike. -/
namespace Go.Fw
open Go Go.Proofs
set_option linter.unusedVariables false
set_option linter.unusedSimpArgs false

/-- Are lists alike? -/
noncomputable def samesB : List TCoin → List TCoin → Bool
  | [], [] => true
  | a :: x, b :: y => sameC a b && samesB x y
  | _, _ => false
theorem samesB_iff : ∀ a b : List TCoin, samesB a b = true ↔ a = b
  | [], [] => by simp [samesB]
  | [], _ :: _ => by simp [samesB]
  | _ :: _, [] => by simp [samesB]
  | a :: x, b :: y => by simp only [samesB, Bool.and_eq_true, sameC_iff, samesB_iff x y, List.cons.injEq]
theorem samesB_self (a : List TCoin) : samesB a a = true := (samesB_iff a a).2 rfl
theorem samesB_len {a b : List TCoin} (h : a.length ≠ b.length) : samesB a b = false := by
  cases hb : samesB a b with
  | false => rfl
  | true => rw [(samesB_iff a b).1 hb] at h; exact (h rfl).elim

noncomputable def F18 : Fun
  | [x, y] => match inv coinsT x, inv coinsT y with
    | some a, some b => @ite _ ((a.length ≤ 1000000 ∧ b.length ≤ 1000000)) (Classical.propDecidable _) ((some ([], .t (.bool (samesB a b))))) none
    | _, _ => none
  | _ => none

theorem ct18 : CT [(12, ⟨[false, false], treeG F12⟩)] [0, 1, 4, 5, 10, 14, 26] [(6, [⟨0, [0], [], []⟩, ⟨0, [5], [], []⟩, ⟨1, [17, 18], [], []⟩, ⟨1, [19], [2], []⟩, ⟨0, [1], [], []⟩, ⟨0, [5], [], []⟩, ⟨1, [21, 22], [], []⟩, ⟨1, [23], [6], []⟩, ⟨1, [20, 24], [2, 3, 6, 7], []⟩, ⟨0, [25], [2, 3, 6, 7, 8], []⟩])] := ⟨(.cons c12.g (.nil _))⟩

set_option maxHeartbeats 2000000 in
theorem c18 : ACon Try.prog 18 F18 := by
  refine aconc E_ok (rs := [.tmp 4 4]) Try.func18 rfl Try.ntmps18 (by kernel_rfl) rfl (by decide) F18 (np := 2) ?_ ?_
  · intro ts h; unfold F18; split <;> first | rfl | (simp at h; done)
  intro ts H r hF hwf
  unfold F18 at hF
  split at hF <;> try (cases hF; done)
  split at hF <;> try (cases hF; done)
  rename_i a b ha hb
  split at hF
  case isFalse => cases hF
  rename_i hcc
  obtain ⟨hl1, hl2⟩ := hcc
  cases hF
  obtain rfl := inv_inv ha
  obtain rfl := inv_inv hb
  have hma : (a.map coinT).length = a.length := List.length_map ..
  have hmb : (b.map coinT).length = b.length := List.length_map ..
  simp only [coinsT]
  by_cases hne : a.length = b.length
  rotate_left
  · have hq : ((a.length : Int) != (b.length : Int)) = true := by
      rw [bne_iff_ne]; omega
    rw [samesB_len hne]
    repeat refine St (And.intro hma <| And.intro hmb <| hq) ct18 ?_
    exact AWP.ret (Fin trivial [] [])
  have hq : ((a.length : Int) != (b.length : Int)) = false := by
    rw [bne_eq_false_iff_eq]; omega
  obtain ⟨R, hR⟩ : ∃ R, samesB a b = R := ⟨_, rfl⟩
  rw [hR]
  repeat refine St (And.intro hma <| And.intro hmb <| hq) ct18 ?_
  refine AWP.loop (G := { i : Nat // i ≤ a.length ∧ samesB (a.drop i) (b.drop i) = R }) (fun i => ⟨[(0, .t (.sq 37 (a.map coinT))), (1, .t (.sq 37 (b.map coinT))), (5, .t (.int .i64 (i.1 : Int)))], []⟩) (fun i => a.length - i.1) ⟨0, Nat.zero_le _, hR⟩ (Wt trivial [0, 1, 5] []) ?_
  rintro ⟨i, hi, hT⟩
  dsimp only
  by_cases hlt : i < a.length
  · have hlt2 : (i : Int) < (a.length : Int) := by omega
    have hlb : i < b.length := by omega
    have hlb2 : (i : Int) < (b.length : Int) := by omega
    have hw1 : IntKind.i64.wrap ((i : Int) + 1) = ((i + 1 : Nat) : Int) := by rw [wrap_i64 (by omega) (by omega)]; omega
    have hg := coin_getD a i hlt
    have hg2 := coin_getD b i hlb
    have hd1 : a.drop i = a.getD i dCoin :: a.drop (i + 1) := by
      rw [List.drop_eq_getElem_cons hlt]
      simp [List.getD_eq_getElem?_getD, hlt]
    have hd2 : b.drop i = b.getD i dCoin :: b.drop (i + 1) := by
      rw [List.drop_eq_getElem_cons hlb]
      simp [List.getD_eq_getElem?_getD, hlb]
    rw [hd1, hd2, samesB] at hT
    have h1 := same_cc (a.getD i dCoin) (b.getD i dCoin)
    rw [coinT_st, coinT_st] at h1
    rw [coinT_st] at hg hg2
    generalize a.getD i dCoin = c at *
    generalize b.getD i dCoin = d at *
    cases hs : sameC c d with
    | false =>
      rw [hs] at h1
      rw [hs, Bool.false_and] at hT
      subst hT
      repeat refine St (And.intro hlt <| And.intro hlt2 <| And.intro hlb <| And.intro hlb2 <| And.intro hma <| And.intro hmb <| And.intro hw1 <| And.intro hg <| And.intro hg2 <| h1) ct18 ?_
      exact AWP.ret (Fin trivial [] [])
    | true =>
      rw [hs] at h1
      rw [hs, Bool.true_and] at hT
      repeat refine St (And.intro hlt <| And.intro hlt2 <| And.intro hlb <| And.intro hlb2 <| And.intro hma <| And.intro hmb <| And.intro hw1 <| And.intro hg <| And.intro hg2 <| h1) ct18 ?_
      exact ⟨⟨i + 1, by omega, hT⟩, (Wt trivial [0, 1, 5] []), by simp only; omega⟩
  obtain rfl : i = a.length := by omega
  have hlt2 : ¬ (a.length : Int) < (a.length : Int) := by omega
  rw [List.drop_length, List.drop_of_length_le (show b.length ≤ a.length by omega), samesB] at hT
  subst hT
  repeat refine St (And.intro hlt2 <| hma) ct18 ?_
  exact AWP.ret (Fin trivial [] [])
theorem sames_cc (a b : List TCoin) (h : a.length ≤ 1000000) (h2 : b.length ≤ 1000000) : F18 [.sq 37 (a.map coinT), .sq 37 (b.map coinT)] = some ([], .t (.bool (samesB a b))) := by
  show F18 [coinsT a, coinsT b] = _
  simp only [F18, inv_of coinsT_inj]
  exact if_pos ⟨h, h2⟩

end Go.Fw

end

section
/- Coins in order: a place is where a Ref stands, or would. Plain laws. -/
namespace Go.Fw
open Go
set_option linter.unusedVariables false
set_option linter.unusedSimpArgs false

theorem cmpL_rev : ∀ x y : List UInt8, cmpL y x = - cmpL x y
  | [], [] => rfl
  | [], _ :: _ => rfl
  | _ :: _, [] => rfl
  | u :: x, v :: y => by
    unfold cmpL
    by_cases h : u = v
    · subst h
      rw [if_pos rfl, if_pos rfl, cmpL_rev x y]
    · rw [if_neg h, if_neg (Ne.symm h)]
      by_cases h2 : u < v
      · rw [if_pos h2, if_neg (fun h3 => by have := UInt8.lt_asymm h2 h3; exact this)]; rfl
      · have h3 : v < u := by
          rcases UInt8.lt_or_lt_of_ne h with h4 | h4
          · exact (h2 h4).elim
          · exact h4
        rw [if_neg h2, if_pos h3]
theorem cmpL_trans : ∀ x y z : List UInt8, cmpL x y < 0 → cmpL y z < 0 → cmpL x z < 0
  | [], [], _, h, _ => by simp [cmpL] at h
  | [], _ :: _, [], _, h => by simp [cmpL] at h
  | [], _ :: _, _ :: _, _, _ => by simp [cmpL]
  | _ :: _, [], _, h, _ => by simp [cmpL] at h
  | _ :: _, _ :: _, [], _, h => by simp [cmpL] at h
  | u :: x, v :: y, w :: z, h, k => by
    unfold cmpL at h k ⊢
    by_cases h1 : u = v
    · subst h1
      rw [if_pos rfl] at h
      by_cases h2 : u = w
      · subst h2
        rw [if_pos rfl] at k ⊢
        exact cmpL_trans x y z h k
      · rw [if_neg h2] at k ⊢
        exact k
    · rw [if_neg h1] at h
      have h3 : u < v := by
        by_cases h4 : u < v
        · exact h4
        · rw [if_neg h4] at h; simp at h
      by_cases h2 : v = w
      · subst h2
        rw [if_neg h1, if_pos h3]; decide
      · rw [if_neg h2] at k
        have h5 : v < w := by
          by_cases h4 : v < w
          · exact h4
          · rw [if_neg h4] at k; simp at k
        have h6 : u < w := UInt8.lt_trans h3 h5
        rw [if_neg (fun e => by subst e; exact UInt8.lt_irrefl _ h6), if_pos h6]; decide
theorem cmpI_rev (a b : Int) : cmpI b a = - cmpI a b := by
  unfold cmpI
  split <;> split <;> first | rfl | omega
theorem cmpI_zero {a b : Int} (h : cmpI a b = 0) : a = b := by
  unfold cmpI at h
  split at h
  · cases h
  · split at h
    · cases h
    · omega
theorem cmpI_neg {a b : Int} : cmpI a b < 0 ↔ a < b := by
  unfold cmpI
  split
  · simp [*]
  · split <;> simp <;> omega
theorem cmpR_self (a : TRef) : cmpR a a = 0 := by
  unfold cmpR
  rw [if_pos (cmpL_self _)]
  unfold cmpI
  rw [if_neg (by omega), if_neg (by omega)]
theorem cmpR_rev (a b : TRef) : cmpR b a = - cmpR a b := by
  unfold cmpR
  rw [cmpL_rev a.h.1 b.h.1, cmpI_rev (a.i.toNat : Int)]
  by_cases h : cmpL a.h.1 b.h.1 = 0
  · rw [if_pos (by omega), if_pos h]
  · rw [if_neg (by omega), if_neg h]
theorem cmpR_eq {a b : TRef} (h : cmpR a b = 0) : a = b := by
  obtain ⟨⟨h1, g1⟩, i1⟩ := a
  obtain ⟨⟨h2, g2⟩, i2⟩ := b
  unfold cmpR at h
  dsimp only at h
  split at h
  · rename_i h0
    have e := cmpL_eq _ _ h0
    subst e
    have e := cmpI_zero h
    have e2 : i1 = i2 := UInt32.toNat_inj.1 (by omega)
    subst e2
    rfl
  · rename_i h0
    exact (h0 h).elim
theorem cmpR_iff {a b : TRef} : cmpR a b = 0 ↔ a = b := ⟨cmpR_eq, fun h => by rw [h]; exact cmpR_self b⟩
theorem cmpR_trans {a b c : TRef} (h : cmpR a b < 0) (k : cmpR b c < 0) : cmpR a c < 0 := by
  unfold cmpR at h k ⊢
  by_cases h1 : cmpL a.h.1 b.h.1 = 0
  · have e := cmpL_eq _ _ h1
    rw [if_pos h1] at h
    rw [e]
    by_cases h2 : cmpL b.h.1 c.h.1 = 0
    · rw [if_pos h2] at k ⊢
      have := cmpI_neg.1 h
      have := cmpI_neg.1 k
      exact cmpI_neg.2 (by omega)
    · rw [if_neg h2] at k ⊢
      exact k
  · rw [if_neg h1] at h
    by_cases h2 : cmpL b.h.1 c.h.1 = 0
    · have e := cmpL_eq _ _ h2
      rw [← e, if_neg h1]
      exact h
    · rw [if_neg h2] at k
      have := cmpL_trans _ _ _ h k
      rw [if_neg (by omega)]
      exact this

/-- Coins in order. -/
def Srt (l : List TCoin) : Prop := l.Pairwise fun a b => cmpR a.r b.r < 0
theorem Srt.nil : Srt [] := List.Pairwise.nil
theorem Srt.at {l : List TCoin} (h : Srt l) {i j : Nat} (hij : i < j) (hj : j < l.length) : cmpR (l.getD i dCoin).r (l.getD j dCoin).r < 0 := by
  have := (List.pairwise_iff_getElem.1 h) i j (by omega) hj hij
  simpa [List.getD_eq_getElem?_getD, List.getElem?_eq_getElem hj, List.getElem?_eq_getElem (show i < l.length by omega)] using this

theorem bs_inv (f : Nat → Int) (N : Nat) (mono : ∀ a b, a ≤ b → b < N → f b < 0 → f a < 0) : ∀ (n i j : Nat), j - i < n → i ≤ j → j ≤ N → (∀ k, k < i → f k < 0) → (∀ k, j ≤ k → k < N → ¬ f k < 0) →
    (∀ k, k < bsN f n i j → f k < 0) ∧ ∀ k, bsN f n i j ≤ k → k < N → ¬ f k < 0
  | 0, _, _, h, _, _, _, _ => by omega
  | n + 1, i, j, h, hij, hN, h1, h2 => by
    unfold bsN
    by_cases hlt : i < j
    · rw [if_pos hlt]
      by_cases hm : f ((i + j) / 2) < 0
      · rw [if_pos hm]
        exact bs_inv f N mono n _ _ (by omega) (by omega) hN (fun k hk => mono k ((i + j) / 2) (by omega) (by omega) hm) h2
      · rw [if_neg hm]
        exact bs_inv f N mono n _ _ (by omega) (by omega) (by omega) h1 (fun k hk hkN hf => hm (mono _ k (by omega) hkN hf))
    · rw [if_neg hlt]
      exact ⟨h1, fun k hk => h2 k (by omega)⟩

theorem Srt.mono {l : List TCoin} (h : Srt l) (r : TRef) (a b : Nat) (hab : a ≤ b) (hb : b < l.length) (hf : cmpR (l.getD b dCoin).r r < 0) : cmpR (l.getD a dCoin).r r < 0 := by
  rcases Nat.lt_or_eq_of_le hab with h1 | h1
  · exact cmpR_trans (h.at h1 hb) hf
  · rw [h1]; exact hf
theorem plN_spec {l : List TCoin} (h : Srt l) (r : TRef) : (∀ k, k < plN l r → cmpR (l.getD k dCoin).r r < 0) ∧ ∀ k, plN l r ≤ k → k < l.length → ¬ cmpR (l.getD k dCoin).r r < 0 :=
  bs_inv (fun k => cmpR (l.getD k dCoin).r r) l.length (fun a b => h.mono r a b) (l.length + 1) 0 l.length (by omega) (by omega) (Nat.le_refl _) (fun k hk => by omega) (fun k h1 h2 => by omega)
theorem plN_uniq {l : List TCoin} (h : Srt l) {r : TRef} {i : Nat} (hi : i ≤ l.length) (h1 : ∀ k, k < i → cmpR (l.getD k dCoin).r r < 0) (h2 : ∀ k, i ≤ k → k < l.length → ¬ cmpR (l.getD k dCoin).r r < 0) : plN l r = i := by
  obtain ⟨g1, g2⟩ := plN_spec h r
  have hle := plN_le l r
  rcases Nat.lt_trichotomy (plN l r) i with h3 | h3 | h3
  · exact (g2 _ (Nat.le_refl _) (by omega) (h1 _ h3)).elim
  · exact h3
  · exact (h2 i (Nat.le_refl _) (by omega) (g1 i h3)).elim
theorem plB_ref {l : List TCoin} {r : TRef} (h : plB l r = true) : (l.getD (plN l r) dCoin).r = r := by
  unfold plB at h
  rw [Bool.and_eq_true, decide_eq_true_eq, decide_eq_true_eq] at h
  exact cmpR_eq h.2
/-- A coin stands at its own place. -/
theorem plN_own {l : List TCoin} (h : Srt l) {i : Nat} (hi : i < l.length) : plN l (l.getD i dCoin).r = i :=
  plN_uniq h (by omega) (fun k hk => h.at hk hi) (fun k hk hkl hf => by
    rcases Nat.lt_or_eq_of_le hk with h1 | h1
    · have h2 := h.at h1 hkl
      rw [cmpR_rev] at h2
      omega
    · rw [← h1, cmpR_self] at hf; omega)
theorem plB_own {l : List TCoin} (h : Srt l) {i : Nat} (hi : i < l.length) : plB l (l.getD i dCoin).r = true := by
  unfold plB
  rw [plN_own h hi, decide_eq_true hi, cmpR_self]; rfl

/-! ### Adding, spending: in order, and one undoes the other. -/
theorem srt_take {l : List TCoin} (h : Srt l) (i : Nat) : Srt (l.take i) := List.Pairwise.sublist (List.take_sublist _ _) h
theorem srt_drop {l : List TCoin} (h : Srt l) (i : Nat) : Srt (l.drop i) := List.Pairwise.sublist (List.drop_sublist _ _) h
theorem srt_del {l : List TCoin} (h : Srt l) (i : Nat) : Srt (delC l i (i + 1)) := by
  have h2 : (delC l i (i + 1)).Sublist l := by
    unfold delC
    have h3 : (l.take i ++ l.drop (i + 1)).Sublist (l.take i ++ l.drop i) := List.Sublist.append_left (by
      rw [show l.drop (i + 1) = (l.drop i).drop 1 by rw [List.drop_drop]]
      exact List.drop_sublist _ _) _
    rwa [List.take_append_drop] at h3
  exact List.Pairwise.sublist h2 h
theorem mem_take_getD {l : List TCoin} {i : Nat} {a : TCoin} (h : a ∈ l.take i) : ∃ k, k < i ∧ k < l.length ∧ l.getD k dCoin = a := by
  obtain ⟨k, hk, rfl⟩ := List.mem_iff_getElem.1 h
  rw [List.length_take] at hk
  refine ⟨k, by omega, by omega, ?_⟩
  simp [List.getD_eq_getElem?_getD, List.getElem?_eq_getElem (show k < l.length by omega)]
theorem mem_drop_getD {l : List TCoin} {i : Nat} {a : TCoin} (h : a ∈ l.drop i) : ∃ k, i ≤ k ∧ k < l.length ∧ l.getD k dCoin = a := by
  obtain ⟨k, hk, rfl⟩ := List.mem_iff_getElem.1 h
  rw [List.length_drop] at hk
  refine ⟨i + k, by omega, by omega, ?_⟩
  simp [List.getD_eq_getElem?_getD, List.getElem?_eq_getElem (show i + k < l.length by omega)]
theorem not_plB {l : List TCoin} (h : Srt l) {r : TRef} (hb : plB l r = false) {k : Nat} (hk : plN l r ≤ k) (hkl : k < l.length) : cmpR r (l.getD k dCoin).r < 0 := by
  have h1 := (plN_spec h r).2
  have h2 := h1 (plN l r) (Nat.le_refl _) (by omega)
  unfold plB at hb
  rw [decide_eq_true (show plN l r < l.length by omega), Bool.true_and, decide_eq_false_iff_not] at hb
  have h3 : cmpR r (l.getD (plN l r) dCoin).r < 0 := by rw [cmpR_rev]; omega
  rcases Nat.lt_or_eq_of_le hk with h4 | h4
  · exact cmpR_trans h3 (h.at h4 hkl)
  · rw [← h4]; exact h3
theorem srt_ins {l : List TCoin} (h : Srt l) {c : TCoin} (hb : plB l c.r = false) : Srt (insC l (plN l c.r) c) := by
  unfold insC Srt
  rw [List.append_assoc, List.pairwise_append]
  refine ⟨srt_take h _, ?_, ?_⟩
  · rw [List.singleton_append, List.pairwise_cons]
    refine ⟨fun a ha => ?_, srt_drop h _⟩
    obtain ⟨k, h1, h2, rfl⟩ := mem_drop_getD ha
    exact not_plB h hb h1 h2
  · intro a ha b hb2
    obtain ⟨i, h1, h2, rfl⟩ := mem_take_getD ha
    have h3 := (plN_spec h c.r).1 i h1
    rw [List.singleton_append, List.mem_cons] at hb2
    rcases hb2 with rfl | hb2
    · exact h3
    · obtain ⟨k, h4, h5, rfl⟩ := mem_drop_getD hb2
      exact h.at (by omega) h5
theorem addV_srt {l : List TCoin} (h : Srt l) (c : TCoin) : Srt (addV l c).1 := by
  unfold addV
  cases hb : plB l c.r with
  | true => exact h
  | false => exact srt_ins h hb
theorem spdV_srt {l : List TCoin} (h : Srt l) (r : TRef) : Srt (spdV l r).1 := by
  unfold spdV
  split
  · exact srt_del h _
  · exact h

theorem insC_getD {l : List TCoin} {i : Nat} (hi : i ≤ l.length) (c : TCoin) : (insC l i c).getD i dCoin = c := by
  unfold insC
  rw [List.append_assoc, List.getD_eq_getElem?_getD, List.getElem?_append_right (by rw [List.length_take]; omega), List.length_take, Nat.min_eq_left hi]
  simp
theorem ins_del {l : List TCoin} {i : Nat} (hi : i ≤ l.length) (c : TCoin) : delC (insC l i c) i (i + 1) = l := by
  unfold delC insC
  have ht : (l.take i ++ [c] ++ l.drop i).take i = l.take i := by
    rw [List.append_assoc, List.take_append_of_le_length (by rw [List.length_take]; omega), List.take_take, Nat.min_self]
  have hd : (l.take i ++ [c] ++ l.drop i).drop (i + 1) = l.drop i := by
    rw [List.drop_append_of_le_length (by rw [List.length_append, List.length_take, Nat.min_eq_left hi]; simp)]
    rw [List.drop_of_length_le (by rw [List.length_append, List.length_take, Nat.min_eq_left hi]; simp), List.nil_append]
  rw [ht, hd, List.take_append_drop]
theorem del_ins {l : List TCoin} {i : Nat} (hi : i < l.length) : insC (delC l i (i + 1)) i (l.getD i dCoin) = l := by
  unfold delC insC
  have ht : (l.take i ++ l.drop (i + 1)).take i = l.take i := by
    rw [List.take_append_of_le_length (by rw [List.length_take]; omega), List.take_take, Nat.min_self]
  have hd : (l.take i ++ l.drop (i + 1)).drop i = l.drop (i + 1) := by
    rw [List.drop_append_of_le_length (by rw [List.length_take]; omega), List.drop_of_length_le (by rw [List.length_take]; omega), List.nil_append]
  have hg : l.getD i dCoin = l[i] := by simp [List.getD_eq_getElem?_getD, List.getElem?_eq_getElem hi]
  rw [ht, hd, hg, List.append_assoc, List.singleton_append, ← List.drop_eq_getElem_cons hi, List.take_append_drop]

/-- What was added is spent: all is as it was. -/
theorem add_spend {l l' : List TCoin} (h : Srt l) {c : TCoin} (ha : addV l c = (l', 0)) : spdV l' c.r = (l, c, 0) := by
  unfold addV at ha
  cases hb : plB l c.r with
  | true => rw [hb] at ha; simp at ha
  | false =>
    rw [hb, if_neg (by simp)] at ha
    obtain rfl : insC l (plN l c.r) c = l' := by injection ha
    have hle := plN_le l c.r
    have hs := srt_ins h hb
    have hlen := insC_len l (plN l c.r) c
    have hg := insC_getD hle c
    have hn : plN (insC l (plN l c.r) c) c.r = plN l c.r := by
      have := plN_own hs (i := plN l c.r) (by omega)
      rwa [hg] at this
    have hp : plB (insC l (plN l c.r) c) c.r = true := by
      have := plB_own hs (i := plN l c.r) (by omega)
      rwa [hg] at this
    unfold spdV
    rw [hp, if_pos rfl, hn, hg, ins_del hle]
/-- What was spent is added: all is as it was. -/
theorem spend_add {l l' : List TCoin} (h : Srt l) {r : TRef} {c : TCoin} (hsp : spdV l r = (l', c, 0)) : c.r = r ∧ addV l' c = (l, 0) := by
  unfold spdV at hsp
  cases hb : plB l r with
  | false => rw [hb] at hsp; simp at hsp
  | true =>
    rw [hb, if_pos rfl] at hsp
    simp only [Prod.mk.injEq, and_true] at hsp
    obtain ⟨rfl, rfl⟩ := hsp
    have hlt : plN l r < l.length := by
      unfold plB at hb
      rw [Bool.and_eq_true] at hb
      exact of_decide_eq_true hb.1
    have hr := plB_ref hb
    refine ⟨hr, ?_⟩
    rw [addV, hr]
    have hs := srt_del h (plN l r)
    obtain ⟨g1, g2⟩ := plN_spec h r
    have hlen : (delC l (plN l r) (plN l r + 1)).length = l.length - 1 := by
      unfold delC; rw [List.length_append, List.length_take, List.length_drop]; omega
    have lo : ∀ k, k < plN l r → (delC l (plN l r) (plN l r + 1)).getD k dCoin = l.getD k dCoin := by
      intro k hk
      unfold delC
      rw [List.getD_eq_getElem?_getD, List.getElem?_append_left (by rw [List.length_take]; omega), List.getElem?_take, if_pos hk, List.getD_eq_getElem?_getD]
    have hi : ∀ k, plN l r ≤ k → (delC l (plN l r) (plN l r + 1)).getD k dCoin = l.getD (k + 1) dCoin := by
      intro k hk
      unfold delC
      rw [List.getD_eq_getElem?_getD, List.getElem?_append_right (by rw [List.length_take]; omega), List.length_take, Nat.min_eq_left (by omega), List.getElem?_drop, List.getD_eq_getElem?_getD]
      congr 2; omega
    have up : ∀ k, plN l r < k → k < l.length → cmpR r (l.getD k dCoin).r < 0 := by
      intro k hk hkl
      have := h.at hk hkl
      rwa [hr] at this
    have hn : plN (delC l (plN l r) (plN l r + 1)) r = plN l r := by
      refine plN_uniq hs (by omega) (fun k hk => by rw [lo k hk]; exact g1 k hk) (fun k hk hkl hf => ?_)
      rw [hi k hk] at hf
      have := up (k + 1) (by omega) (by omega)
      rw [cmpR_rev] at this
      omega
    have hp : plB (delC l (plN l r) (plN l r + 1)) r = false := by
      unfold plB
      rw [hn, hlen]
      by_cases h3 : plN l r < l.length - 1
      · rw [decide_eq_true h3, Bool.true_and, decide_eq_false_iff_not, hi _ (Nat.le_refl _)]
        intro h4
        have := up (plN l r + 1) (by omega) (by omega)
        rw [cmpR_rev] at this
        omega
      · rw [decide_eq_false h3]; rfl
    rw [hp, if_neg (by simp), hn, del_ins hlt]

/-! ### Coins loaded. -/
theorem addV_err (l : List TCoin) (c : TCoin) : ((addV l c).2 = 0 ∧ plB l c.r = false ∧ (addV l c).1 = insC l (plN l c.r) c) ∨ ((addV l c).2 = 32 ∧ plB l c.r = true ∧ (addV l c).1 = l) := by
  unfold addV
  cases hb : plB l c.r with
  | true => exact .inr ⟨rfl, rfl, rfl⟩
  | false => exact .inl ⟨rfl, rfl, rfl⟩
theorem addsV_err : ∀ (cs l : List TCoin), ((addsV l cs).2 = 0 ∧ (addsV l cs).1.length = l.length + cs.length) ∨ (addsV l cs).2 = 32
  | [], l => .inl ⟨rfl, rfl⟩
  | c :: cs, l => by
    unfold addsV
    rcases addV_err l c with ⟨h1, h2, h3⟩ | ⟨h1, h2, h3⟩
    · rw [if_neg (by omega), h3]
      rcases addsV_err cs (insC l (plN l c.r) c) with ⟨g1, g2⟩ | g1
      · exact .inl ⟨g1, by rw [g2, insC_len, List.length_cons]; omega⟩
      · exact .inr g1
    · rw [if_pos (by omega)]
      exact .inr h1
theorem addsV_srt : ∀ (cs l : List TCoin), Srt l → Srt (addsV l cs).1
  | [], l, h => h
  | c :: cs, l, h => by
    unfold addsV
    split
    · exact addV_srt h c
    · exact addsV_srt cs _ (addV_srt h c)

/-! ### A block applied; an error may leave a part of it. -/
def blkV (nm : TTx → H32) (ht : UInt32) : List TCoin → List TTx → Bool → List TCoin → List TCoin × List TCoin × Int
  | l, [], _, acc => (l, acc, 0)
  | l, t :: ts, first, acc =>
    if (applyV l t (nm t) ht first).2.2 ≠ 0 then ((applyV l t (nm t) ht first).1, acc, (applyV l t (nm t) ht first).2.2)
    else blkV nm ht (applyV l t (nm t) ht first).1 ts false (acc ++ (applyV l t (nm t) ht first).2.1)

/-! ### A transaction reverted; an error may leave a part of it. -/
def refB (a b : TRef) : Bool := a.h.1 == b.h.1 && ((a.i.toNat : Int) == (b.i.toNat : Int))
theorem refB_iff (a b : TRef) : refB a b = true ↔ a = b := by
  obtain ⟨⟨h1, g1⟩, i1⟩ := a
  obtain ⟨⟨h2, g2⟩, i2⟩ := b
  simp only [refB, Bool.and_eq_true, beq_iff_eq]
  constructor
  · rintro ⟨e1, e2⟩
    subst e1
    have e2' : i1 = i2 := UInt32.toNat_inj.1 (by omega)
    subst e2'
    rfl
  · intro h; cases h; exact ⟨rfl, rfl⟩
def eqRefs : List TCoin → List TRef → Bool
  | [], [] => true
  | c :: cs, r :: rs => refB c.r r && eqRefs cs rs
  | _, _ => false
theorem eqRefs_iff : ∀ (cs : List TCoin) (rs : List TRef), eqRefs cs rs = true ↔ cs.map (·.r) = rs
  | [], [] => by simp [eqRefs]
  | [], _ :: _ => by simp [eqRefs]
  | _ :: _, [] => by simp [eqRefs]
  | c :: cs, r :: rs => by
    simp only [eqRefs, Bool.and_eq_true, refB_iff, eqRefs_iff cs rs, List.map_cons, List.cons.injEq]
theorem eqRefs_len {cs : List TCoin} {rs : List TRef} (h : cs.length ≠ rs.length) : eqRefs cs rs = false := by
  cases hb : eqRefs cs rs with
  | false => rfl
  | true =>
    have := (eqRefs_iff cs rs).1 hb
    subst this
    simp at h
def unmV (nm : H32) : Nat → List TCoin → List TCoin × Int
  | 0, l => (l, 0)
  | n + 1, l => if (spdV l ⟨nm, UInt32.ofNat n⟩).2.2 ≠ 0 then ((spdV l ⟨nm, UInt32.ofNat n⟩).1, (spdV l ⟨nm, UInt32.ofNat n⟩).2.2) else unmV nm n (spdV l ⟨nm, UInt32.ofNat n⟩).1
theorem unmV_ok (nm : H32) : ∀ (n : Nat) (l : List TCoin), lowL l = true → lowL (unmV nm n l).1 = true ∧ (unmV nm n l).1.length ≤ l.length
  | 0, l, h => ⟨h, Nat.le_refl _⟩
  | n + 1, l, h => by
    obtain ⟨s1, s2, s3⟩ := spdV_ok h ⟨nm, UInt32.ofNat n⟩
    unfold unmV
    split
    · exact ⟨s1, s2⟩
    · obtain ⟨t1, t2⟩ := unmV_ok nm n _ s1
      exact ⟨t1, by omega⟩
def revV (l : List TCoin) (t : TTx) (nm : H32) (first : Bool) (sp : List TCoin) : List TCoin × Int :=
  if chkE t ≠ 0 then (l, 1)
  else if eqRefs sp (insR t first) = false then (l, 1)
  else if (unmV nm t.outs.length l).2 ≠ 0 then unmV nm t.outs.length l
  else addsV (unmV nm t.outs.length l).1 sp.reverse

/-! ### A block undone; an error may leave a part of it. -/
def cumN (ts : List TTx) : Nat → Nat
  | 0 => 0
  | i + 1 => cumN ts i + (insR (ts.getD i dTx) (decide (i = 0))).length
theorem cumN_mono (ts : List TTx) {i j : Nat} (h : i ≤ j) : cumN ts i ≤ cumN ts j := by
  induction j with
  | zero => rw [Nat.le_zero.1 h]; exact Nat.le_refl _
  | succ j ih =>
    rcases Nat.lt_or_eq_of_le h with h1 | h1
    · exact Nat.le_trans (ih (by omega)) (Nat.le_add_right _ _)
    · rw [h1]; exact Nat.le_refl _
def undV (nm : TTx → H32) (ts : List TTx) (sp : List TCoin) : Nat → List TCoin → List TCoin × Int
  | 0, l => (l, 0)
  | i + 1, l =>
    if (revV l (ts.getD i dTx) (nm (ts.getD i dTx)) (decide (i = 0)) ((sp.take (cumN ts (i + 1))).drop (cumN ts i))).2 ≠ 0 then revV l (ts.getD i dTx) (nm (ts.getD i dTx)) (decide (i = 0)) ((sp.take (cumN ts (i + 1))).drop (cumN ts i))
    else undV nm ts sp i (revV l (ts.getD i dTx) (nm (ts.getD i dTx)) (decide (i = 0)) ((sp.take (cumN ts (i + 1))).drop (cumN ts i))).1

end Go.Fw

end
