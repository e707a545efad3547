/- The abstract machine, and the contracts of the code: part 49. -/
import Derived.Test.YthhpapbokodpdaaP48

section
/- view: a transaction applied. -/
namespace Go.Fw
open Go Go.Proofs
set_option linter.unusedVariables false
set_option linter.unusedSimpArgs false

noncomputable def nmH (t : TTx) : H32 := ⟨namO t, namO_len t⟩
theorem name_tc (t : TTx) : F46 [txT t] = some ([], .t (.ba 32 (namO t))) := by simp only [F46, inv_of txT_inj]

noncomputable def G31 : GFun
  | HB, [.ptr 0 0 [], .t x, .t y, .t (.bool first)] => match inv vwH HB, inv txT x, inv h32T y with
    | some l, some t, some ht => @ite _ ((l.length ≤ 900000 ∧ lowL l = true)) (Classical.propDecidable _) ((some (vwN (applyV l t (nmH t) ht first).1, .tup [.t (.sq 37 ((applyV l t (nmH t) ht first).2.1.map coinT)), .t (.int .i64 (applyV l t (nmH t) ht first).2.2)]))) none
    | _, _, _ => none
  | _, _ => none

theorem ct31 : CT [(24, ⟨[true, false], G24⟩), (34, ⟨[false, false], treeG F34⟩), (44, ⟨[false], treeG F44⟩), (45, ⟨[true, false], G45⟩), (46, ⟨[false], treeG F46⟩)] [0, 1, 2, 3, 5, 8, 9, 10, 11, 12, 13, 14, 15, 18, 28, 33, 34, 35, 36, 51] [] := ⟨(.cons g24 (.cons c34.g (.cons c44.g (.cons g45 (.cons c46.g (.nil _))))))⟩

set_option maxRecDepth 8000 in
set_option maxHeartbeats 8000000 in
theorem g31 : GCon Try.prog 31 G31 := by
  refine gconc E_ok (rs := [.tmp 8 22, .tmp 9 30]) Try.func31 rfl Try.ntmps31 (by kernel_rfl) rfl (by decide) G31 (np := 4) ?_ ?_
  · intro HB xs h; unfold G31; split <;> first | rfl | (simp at h; done)
  intro HB xs H r hG hwf hex
  unfold G31 at hG
  split at hG <;> try (cases hG; done)
  rename_i x y first
  split at hG <;> try (cases hG; done)
  rename_i l t ht hl htx hht
  split at hG
  case isFalse => cases hG
  rename_i hcc
  cases hG
  obtain ⟨hlen, hlow⟩ := hcc
  obtain rfl := inv_inv hl
  obtain rfl := inv_inv htx
  obtain rfl := inv_inv hht
  have hck := check_c t
  have hnm := name_tc t
  have hml : (t.outs.map outT).length = t.outs.length := List.length_map ..
  rw [txT_st] at hck hnm ⊢
  simp only [vwH, h32T]
  unfold applyV
  rcases chk_two t with ⟨e1, e2, e3⟩ | ⟨e1, e2⟩
  rotate_left
  · rw [e1] at hck
    rw [if_pos (by rw [e1]; decide)]
    dsimp only
    repeat refine St (And.intro (And.intro @gentry.eq_1 <| @gentry.eq_2) <| hck) ct31 ?_
    refine AWP.weak (Weak.moveBx (v' := _) 0 1 [0] 0 _ rfl rfl rfl (by decide) (by simp only [W, eqq, ↓reduceIte, Nat.reduceEqDiff, Nat.reduceLT, Nat.reduceLeDiff, Nat.reduceAdd, Nat.reduceMul, Nat.reduceSub, Nat.reduceBEq, Int.reduceLE, Int.reduceLT, Int.reduceNeg, Int.reduceToNat, Int.reduceEq, Int.reduceBEq, Int.reduceBNe, Nat.reduceBNe, bne_self_eq_false, reduceCtorEq, gt_iff_lt, ge_iff_le]) (by simp only [W, eqq, ↓reduceIte, Nat.reduceEqDiff, Nat.reduceLT, Nat.reduceLeDiff, Nat.reduceAdd, Nat.reduceMul, Nat.reduceSub, Nat.reduceBEq, Int.reduceLE, Int.reduceLT, Int.reduceNeg, Int.reduceToNat, Int.reduceEq, Int.reduceBEq, Int.reduceBNe, Nat.reduceBNe, bne_self_eq_false, reduceCtorEq, gt_iff_lt, ge_iff_le]) (by simp only [W, eqq, ↓reduceIte, Nat.reduceEqDiff, Nat.reduceLT, Nat.reduceLeDiff, Nat.reduceAdd, Nat.reduceMul, Nat.reduceSub, Nat.reduceBEq, Int.reduceLE, Int.reduceLT, Int.reduceNeg, Int.reduceToNat, Int.reduceEq, Int.reduceBEq, Int.reduceBNe, Nat.reduceBNe, bne_self_eq_false, reduceCtorEq, gt_iff_lt, ge_iff_le]; rfl)) ?_
    exact AWP.ret (Fin (And.intro @vwN.eq_def <| @List.map_nil.{0, 0}) [] [0, 1, 3])
  rw [e1] at hck
  rw [if_neg (by rw [e1]; simp)]
  obtain ⟨c1, c2, c3, _⟩ := countsB_ok e2
  have hin := inputs_c t first (by omega)
  have hrl : (insR t first).length ≤ 20 := by unfold insR; split <;> simp <;> omega
  have htk := take_vc l (insR t first) (by omega) hlow (by omega)
  obtain ⟨t1, t2, t3, t4⟩ := takeV_ok (insR t first) l [] hlow rfl
  generalize takeV l (insR t first) [] = K at *
  generalize insR t first = I at *
  obtain ⟨L1, sp, e⟩ := K
  dsimp only at htk t1 t2 t3 t4 ⊢
  simp only [vwN, refsT] at htk hin
  by_cases he : e = 0
  rotate_left
  · rw [if_pos he]
    have he2 : (e != 0) = true := by simpa using he
    dsimp only
    repeat refine St (And.intro (And.intro @gentry.eq_1 <| @gentry.eq_2) <| And.intro hck <| And.intro hin <| And.intro htk <| he2) ct31 ?_
    exact AWP.ret (Fin (And.intro @vwN.eq_def <| @List.map_nil.{0, 0}) [] [0, 1, 3])
  subst he
  rw [if_neg (by simp)]
  obtain ⟨R, hR⟩ : ∃ R, addsV L1 (madeC t (nmH t) ht first) = R := ⟨_, rfl⟩
  rw [hR]
  have hd0 : ((0 : Int) != 0) = false := rfl
  have hmk := madeC_low e2 (nmH t) ht first
  have hout : ∀ i, i < t.outs.length → (t.outs.map outT).getD i default = .st [.int .u64 ((t.outs.getD i dOut).val.toNat : Int), .by (t.outs.getD i dOut).scr] := fun i hi => by simp [hi, outT]
  have hol : ∀ i, i < t.outs.length → (t.outs.getD i dOut).scr.length ≤ 1000 := fun i hi => c3 _ (by simp [List.getD_eq_getElem?_getD, hi])
  have hnl : namO t = (nmH t).1 := rfl
  rw [hnl] at hnm
  generalize hN : nmH t = N at *
  repeat refine St (And.intro (And.intro @gentry.eq_1 <| @gentry.eq_2) <| And.intro hck <| And.intro hin <| And.intro htk <| And.intro hd0 <| And.intro hnm <| hml) ct31 ?_
  refine AWP.loop (G := { x : Nat × List TCoin // x.1 ≤ t.outs.length ∧ x.2.length ≤ 900000 + x.1 ∧ lowL x.2 = true ∧ addsV x.2 ((madeC t N ht first).drop x.1) = R }) (fun x => ⟨[(0, .ptr 0 0 []), (2, .t (.int .u32 (ht.toNat : Int))), (3, .t (.bool first)), (10, .t (.sq 37 (sp.map coinT))), (12, .ptr 3 0 []), (33, .t (.sq 2 (t.outs.map outT))), (34, .t (.int .i64 (t.outs.length : Int))), (35, .t (.int .i64 (x.1.1 : Int)))], [.bx (.st [.own 2]), .no, .sq 37 (x.1.2.map coinT), .bx (.t (.ba 32 N.1))]⟩) (fun x => t.outs.length - x.1.1) ⟨⟨0, L1⟩, Nat.zero_le _, by show L1.length ≤ 900000 + 0; omega, t1, hR⟩ (Wt trivial [0, 2, 3, 10, 12, 33, 34, 35] [0, 1, 3, 4]) ?_
  rintro ⟨⟨i, L⟩, hi, hLl, hLo, hT⟩
  dsimp only at hi hLl hLo hT ⊢
  clear hR htk t1 t2 t3 t4 hlen hlow
  by_cases hlt : i < t.outs.length
  · have hlt2 : (i : Int) < (t.outs.length : Int) := by omega
    have hw1 : IntKind.i64.wrap ((i : Int) + 1) = ((i + 1 : Nat) : Int) := by rw [wrap_i64 (by omega) (by omega)]; omega
    have hw2 : IntKind.u32.wrap (i : Int) = ((UInt32.ofNat i).toNat : Int) := by
      rw [wrap_u32 (by omega) (by omega), UInt32.toNat_ofNat', Nat.mod_eq_of_lt (by omega)]
    have hg := hout i hlt
    have hlc := hol i hlt
    rw [madeC_drop t N ht first hlt, addsV] at hT
    have had := add_c L ⟨⟨N, UInt32.ofNat i⟩, t.outs.getD i dOut, ht, first⟩ (by omega) (by unfold lowC; rw [decide_eq_true_eq]; dsimp only; omega)
    obtain ⟨a1, a2⟩ := addV_ok (l := L) hLo (c := ⟨⟨N, UInt32.ofNat i⟩, t.outs.getD i dOut, ht, first⟩) (by unfold lowC; rw [decide_eq_true_eq]; dsimp only; omega)
    generalize addV L ⟨⟨N, UInt32.ofNat i⟩, t.outs.getD i dOut, ht, first⟩ = A at *
    obtain ⟨L', e⟩ := A
    dsimp only at hT had a1 a2
    generalize t.outs.getD i dOut = o at *
    generalize UInt32.ofNat i = ui at *
    simp only [vwN] at had
    by_cases he : e = 0
    · subst he
      rw [if_neg (by simp)] at hT
      repeat refine St (And.intro hlt <| And.intro hlt2 <| And.intro hml <| And.intro hw1 <| And.intro hw2 <| And.intro hg <| And.intro had <| hd0) ct31 ?_
      exact ⟨⟨⟨i + 1, L'⟩, by show i + 1 ≤ t.outs.length; omega, by show L'.length ≤ 900000 + (i + 1); omega, a1, hT⟩, (Wt trivial [0, 2, 3, 10, 12, 33, 34, 35] [0, 1, 5, 3]), by simp only; omega⟩
    · rw [if_pos he] at hT
      have he2 : (e != 0) = true := by simpa using he
      subst hT
      dsimp only
      rw [if_pos he]
      dsimp only
      repeat refine St (And.intro hlt <| And.intro hlt2 <| And.intro hml <| And.intro hw1 <| And.intro hw2 <| And.intro hg <| And.intro had <| he2) ct31 ?_
      exact AWP.ret (Fin (And.intro @vwN.eq_def <| @List.map_nil.{0, 0}) [] [0, 1, 5])
  obtain rfl : i = t.outs.length := by omega
  have hlt2 : ¬ (t.outs.length : Int) < (t.outs.length : Int) := by omega
  rw [show (madeC t N ht first).drop t.outs.length = [] from List.drop_of_length_le (by rw [madeC_len]; omega), addsV] at hT
  subst hT
  dsimp only
  rw [if_neg (by simp)]
  repeat refine St hlt2 ct31 ?_
  exact AWP.ret (Fin @vwN.eq_def [] [0, 1, 2])
theorem apply_vc (l : List TCoin) (t : TTx) (ht : UInt32) (first : Bool) (h : l.length ≤ 900000) (h2 : lowL l = true) : G31 [.bx (.st [.own 1]), .sq 37 (l.map coinT)] [.ptr 0 0 [], .t (txT t), .t (.int .u32 (ht.toNat : Int)), .t (.bool first)] = some (vwN (applyV l t (nmH t) ht first).1, .tup [.t (.sq 37 ((applyV l t (nmH t) ht first).2.1.map coinT)), .t (.int .i64 (applyV l t (nmH t) ht first).2.2)]) := by
  show G31 (vwH l) [.ptr 0 0 [], .t (txT t), .t (h32T ht), .t (.bool first)] = _
  simp only [G31, inv_of vwH_inj, inv_of txT_inj, inv_of h32T_inj]
  exact if_pos ⟨h, h2⟩

end Go.Fw

end

section
/- A row compared with nil, as a step. -/
namespace Go.Fw
open Go Go.Proofs
set_option linter.unusedVariables false
set_option linter.unusedSimpArgs false

/-- A comparison with nil, at a region's end. -/
theorem AWP.noK {gl : GCalls} {keep : List Nat} {ds : List (Nat × List Info)} {kp N id d j : Nat} {l : List Oper} {o : Oper} {t t' e : TypeId} {sz : Nat} {b : List T} {Q : Exit → AS → Prop} {S S1 : AS} {F : Prop} (hF : F) (ct : CT gl keep ds)
    (hQ : ∀ r : Bool, (r = true → b = []) → Q .normal ⟨prune keep ((d, .t (.bool r)) :: S1.s), S1.H⟩)
    (hop : o.op = .binOp .eql t (.tmp j) (.const (.slice none 0 0)) t' := by rfl) (hd : o.dst = some d := by rfl) (hdN : d < N := by decide) (ht : (E t).ty = .sl e := by rfl)
    (h : F → gops E eqq gl N (l ++ [o]) l S = some S1 := by (intro hF; simp only [W, eqq, ↓reduceIte, Nat.reduceEqDiff, Nat.reduceLT, Nat.reduceLeDiff, Nat.reduceAdd, Nat.reduceMul, Nat.reduceSub, Nat.reduceBEq, Int.reduceLE, Int.reduceLT, Int.reduceNeg, Int.reduceToNat, Int.reduceEq, Int.reduceBEq, Int.reduceBNe, Nat.reduceBNe, bne_self_eq_false, reduceCtorEq, gt_iff_lt, ge_iff_le, hF]; with_reducible rfl)) (hw : wantA (l ++ [o]) S1.s o = some true := by rfl) {x : Nat} (hsl : lk j S1.s = .own x := by rfl) (hbl : S1.H[x]? = some (.sq sz b) := by rfl) :
    AWP kp Try.prog N (.region id (l ++ [o]).toArray false) Q S := AWP.gnilO X_ok ct.cl keep hop hd hdN ht (h hF) hw hsl hbl hQ

end Go.Fw

end

section
/- view: a trial; Apply. -/
namespace Go.Fw
open Go Go.Proofs
set_option linter.unusedVariables false
set_option linter.unusedSimpArgs false

noncomputable def G47 : GFun
  | HB, [.own 0] => match inv csH HB with
    | some l => @ite _ ((l.length ≤ 1000000)) (Classical.propDecidable _) ((some (csH l ++ csH l, .own 1))) none
    | none => none
  | _, _ => none

theorem ct47 : CT [] [0, 2, 4] [] := ⟨GClOk.nil _⟩

theorem g47 : GCon Try.prog 47 G47 := by
  refine gconc E_ok (rs := [.tmp 2 22]) Try.func47 rfl Try.ntmps47 (by kernel_rfl) rfl (by decide) G47 (np := 1) ?_ ?_
  · intro HB xs h; unfold G47; split <;> first | rfl | (simp at h; done)
  intro HB xs H r hG hwf hex
  unfold G47 at hG
  split at hG <;> try (cases hG; done)
  split at hG <;> try (cases hG; done)
  rename_i l hl
  split at hG
  case isFalse => cases hG
  rename_i hlen
  cases hG
  obtain rfl := inv_inv hl
  have hml : (l.map coinT).length ≤ 1000000 := by rw [List.length_map]; exact hlen
  simp only [csH, List.cons_append, List.nil_append]
  generalize l.map coinT = X at *
  refine St (And.intro @gentry.eq_1 <| @gentry.eq_2) ct47 ?_
  refine St (And.intro @gentry.eq_1 <| @gentry.eq_2) ct47 ?_
  refine St (And.intro @gentry.eq_1 <| @gentry.eq_2) ct47 ?_
  refine AWP.seq ?_
  refine AWP.noK (l := [_]) trivial ct47 (fun r hr => ?_)
  show AWP _ _ _ _ _ _
  cases r
  · repeat refine St (And.intro (And.intro @gentry.eq_1 <| @gentry.eq_2) <| hml) ct47 ?_
    exact AWP.ret (Fin trivial [] [0, 2])
  · obtain rfl := hr rfl
    repeat refine St (And.intro @gentry.eq_1 <| @gentry.eq_2) ct47 ?_
    refine AWP.weak (Wo 2 (.sq 37 [])) ?_
    exact AWP.ret (Fin trivial [] [0, 1])

theorem clone_vc (l : List TCoin) (h : l.length ≤ 1000000) : G47 [.sq 37 (l.map coinT)] [.own 0] = some ([.sq 37 (l.map coinT), .sq 37 (l.map coinT)], .own 1) := by
  show G47 (csH l) [.own 0] = _
  simp only [G47, inv_of csH_inj]
  exact if_pos h

/-- What Apply's trial is lent. -/
structure ApX where
  l : List TCoin
  t : TTx
  ht : UInt32
  first : Bool
noncomputable def apH (x : ApX) : List Blk := [.bx (.st [.own 1]), .sq 37 (x.l.map coinT), .bx (.t (txT x.t)), .bx (.t (h32T x.ht)), .bx (.t (.bool x.first)), .bx (.t .nil)]
theorem apH_inj (a b : ApX) (h : apH a = apH b) : a = b := by
  obtain ⟨l1, t1, h1, f1⟩ := a
  obtain ⟨l2, t2, h2, f2⟩ := b
  simp only [apH, List.cons.injEq, Blk.sq.injEq, Blk.bx.injEq, AV.t.injEq, T.bool.injEq, true_and, and_true] at h
  obtain ⟨g1, g2, g3, g4⟩ := h
  rw [coins_inj _ _ g1, txT_inj _ _ g2, h32T_inj _ _ g3, g4]
noncomputable def apN (x : ApX) (l sp : List TCoin) : List Blk := [.bx (.st [.own 6]), .no, .bx (.t (txT x.t)), .bx (.t (h32T x.ht)), .bx (.t (.bool x.first)), .bx (.t (.sq 37 (sp.map coinT))), .sq 37 (l.map coinT)]
noncomputable def ap1 (x : ApX) : List TCoin × List TCoin × Int := applyV x.l x.t (nmH x.t) x.ht x.first

noncomputable def G37 : GFun
  | HB, [.ptr 0 0 [], .ptr 2 0 [], .ptr 3 0 [], .ptr 4 0 [], .ptr 5 0 []] => match inv apH HB with
    | some x => @ite _ ((x.l.length ≤ 900000 ∧ lowL x.l = true)) (Classical.propDecidable _) ((some (apN x (ap1 x).1 (ap1 x).2.1, .t (.int .i64 (ap1 x).2.2)))) none
    | none => none
  | _, _ => none

theorem ct37 : CT [(31, ⟨[true, false, false, false], G31⟩)] [0, 1, 2, 3, 4, 6, 7, 8] [] := ⟨(.cons g31 (.nil _))⟩

set_option maxHeartbeats 2000000 in
theorem g37 : GCon Try.prog 37 G37 := by
  refine gconc E_ok (rs := [.tmp 6 30]) Try.func37 rfl Try.ntmps37 (by kernel_rfl) rfl (by decide) G37 (np := 5) ?_ ?_
  · intro HB xs h; unfold G37; split <;> first | rfl | (simp at h; done)
  intro HB xs H r hG hwf hex
  unfold G37 at hG
  split at hG <;> try (cases hG; done)
  split at hG <;> try (cases hG; done)
  rename_i x hx
  split at hG
  case isFalse => cases hG
  rename_i hcc
  cases hG
  obtain ⟨hlen, hlow⟩ := hcc
  obtain rfl := inv_inv hx
  have h := apply_vc x.l x.t x.ht x.first hlen hlow
  obtain ⟨l, t, ht, first⟩ := x
  dsimp only at h hlen hlow
  simp only [apH, apN, ap1, h32T]
  generalize applyV l t (nmH t) ht first = R at *
  obtain ⟨L, sp, e⟩ := R
  dsimp only at h ⊢
  rw [txT_st] at h ⊢
  simp only [vwN] at h
  repeat refine St (And.intro (And.intro @gentry.eq_1 <| @gentry.eq_2) <| h) ct37 ?_
  exact AWP.ret (Fin trivial [] [0, 1, 2, 3, 4, 5, 6])
theorem ap1_c (x : ApX) (h : x.l.length ≤ 900000) (h2 : lowL x.l = true) : G37 [.bx (.st [.own 1]), .sq 37 (x.l.map coinT), .bx (.t (txT x.t)), .bx (.t (.int .u32 (x.ht.toNat : Int))), .bx (.t (.bool x.first)), .bx (.t .nil)] [.ptr 0 0 [], .ptr 2 0 [], .ptr 3 0 [], .ptr 4 0 [], .ptr 5 0 []] = some (apN x (ap1 x).1 (ap1 x).2.1, .t (.int .i64 (ap1 x).2.2)) := by
  show G37 (apH x) _ = _
  simp only [G37, inv_of apH_inj]
  exact if_pos ⟨h, h2⟩

/-- The trial of Apply. -/
noncomputable def G32A : GFun
  | HB, [.ptr 0 0 [], .clo 37 [.ptr 2 0 [], .ptr 3 0 [], .ptr 4 0 [], .ptr 5 0 []]] => match inv apH HB with
    | some x => @ite _ ((x.l.length ≤ 900000 ∧ lowL x.l = true)) (Classical.propDecidable _) ((some (apN x (if (ap1 x).2.2 = 0 then (ap1 x).1 else x.l) (ap1 x).2.1, .t (.int .i64 (ap1 x).2.2)))) none
    | none => none
  | _, _ => none

theorem ct32A : CT [(37, ⟨[true, true, true, true, true], G37⟩), (47, ⟨[true], G47⟩)] [0, 1, 4, 5, 6, 18] [] := ⟨(.cons g37 (.cons g47 (.nil _)))⟩

set_option maxHeartbeats 4000000 in
theorem g32A : GCon Try.prog 32 G32A := by
  refine gconc E_ok (rs := [.tmp 4 30]) Try.func32 rfl Try.ntmps32 (by kernel_rfl) rfl (by decide) G32A (np := 2) ?_ ?_
  · intro HB xs h; unfold G32A; split <;> first | rfl | (simp at h; done)
  intro HB xs H r hG hwf hex
  unfold G32A at hG
  split at hG <;> try (cases hG; done)
  
  split at hG <;> try (cases hG; done)
  rename_i x hx
  split at hG
  case isFalse => cases hG
  rename_i hcc
  cases hG
  obtain ⟨hlen, hlow⟩ := hcc
  obtain rfl := inv_inv hx
  have h := ap1_c x hlen hlow
  have hcl := clone_vc x.l (by omega)
  generalize ap1 x = R at *
  obtain ⟨l, t, ht, first⟩ := x
  obtain ⟨L, sp, e⟩ := R
  dsimp only at h hcl ⊢
  simp only [apH, apN, h32T] at h ⊢
  rw [txT_st] at h ⊢
  by_cases he : e = 0
  · subst he
    rw [if_pos rfl]
    have he2 : ((0 : Int) == 0) = true := rfl
    repeat refine St (And.intro (And.intro @gentry.eq_1 <| @gentry.eq_2) <| And.intro hcl <| And.intro h <| he2) ct32A ?_
    refine AWP.weak (Weak.drop 1 _ rfl rfl) ?_
    exact AWP.ret (Fin trivial [] [0, 1, 2, 3, 4, 5, 8])
  · rw [if_neg he]
    have he2 : (e == 0) = false := by simpa using he
    repeat refine St (And.intro (And.intro @gentry.eq_1 <| @gentry.eq_2) <| And.intro hcl <| And.intro h <| he2) ct32A ?_
    refine AWP.weak (Weak.moveBx (v' := _) 0 1 [0] 0 _ rfl rfl rfl (by decide) (by simp only [W, eqq, ↓reduceIte, Nat.reduceEqDiff, Nat.reduceLT, Nat.reduceLeDiff, Nat.reduceAdd, Nat.reduceMul, Nat.reduceSub, Nat.reduceBEq, Int.reduceLE, Int.reduceLT, Int.reduceNeg, Int.reduceToNat, Int.reduceEq, Int.reduceBEq, Int.reduceBNe, Nat.reduceBNe, bne_self_eq_false, reduceCtorEq, gt_iff_lt, ge_iff_le]) (by simp only [W, eqq, ↓reduceIte, Nat.reduceEqDiff, Nat.reduceLT, Nat.reduceLeDiff, Nat.reduceAdd, Nat.reduceMul, Nat.reduceSub, Nat.reduceBEq, Int.reduceLE, Int.reduceLT, Int.reduceNeg, Int.reduceToNat, Int.reduceEq, Int.reduceBEq, Int.reduceBNe, Nat.reduceBNe, bne_self_eq_false, reduceCtorEq, gt_iff_lt, ge_iff_le]) (by simp only [W, eqq, ↓reduceIte, Nat.reduceEqDiff, Nat.reduceLT, Nat.reduceLeDiff, Nat.reduceAdd, Nat.reduceMul, Nat.reduceSub, Nat.reduceBEq, Int.reduceLE, Int.reduceLT, Int.reduceNeg, Int.reduceToNat, Int.reduceEq, Int.reduceBEq, Int.reduceBNe, Nat.reduceBNe, bne_self_eq_false, reduceCtorEq, gt_iff_lt, ge_iff_le]; rfl)) ?_
    exact AWP.ret (Fin trivial [] [0, 1, 2, 3, 4, 5, 9])

theorem trialA_c (x : ApX) (h : x.l.length ≤ 900000) (h2 : lowL x.l = true) : G32A [.bx (.st [.own 1]), .sq 37 (x.l.map coinT), .bx (.t (txT x.t)), .bx (.t (.int .u32 (x.ht.toNat : Int))), .bx (.t (.bool x.first)), .bx (.t .nil)] [.ptr 0 0 [], .clo 37 [.ptr 2 0 [], .ptr 3 0 [], .ptr 4 0 [], .ptr 5 0 []]] = some (apN x (if (ap1 x).2.2 = 0 then (ap1 x).1 else x.l) (ap1 x).2.1, .t (.int .i64 (ap1 x).2.2)) := by
  show G32A (apH x) _ = _
  simp only [G32A, inv_of apH_inj]
  exact if_pos ⟨h, h2⟩

/-- A transaction applied, or nothing changed. -/
noncomputable def appV (l : List TCoin) (t : TTx) (ht : UInt32) (first : Bool) : List TCoin × List TCoin × Int :=
  (if (applyV l t (nmH t) ht first).2.2 = 0 then (applyV l t (nmH t) ht first).1 else l, (applyV l t (nmH t) ht first).2.1, (applyV l t (nmH t) ht first).2.2)
noncomputable def G23 : GFun
  | [], [.t .nilp, .t x, .t y, .t (.bool first)] => match inv txT x, inv h32T y with
    | some t, some ht => some ([], .tup [.t (.sq 37 []), .t (.int .i64 1)])
    | _, _ => none
  | HB, [.ptr 0 0 [], .t x, .t y, .t (.bool first)] => match inv vwH HB, inv txT x, inv h32T y with
    | some l, some t, some ht => @ite _ ((l.length ≤ 900000 ∧ lowL l = true)) (Classical.propDecidable _) ((some (vwN (appV l t ht first).1, .tup [.t (.sq 37 ((appV l t ht first).2.1.map coinT)), .t (.int .i64 (appV l t ht first).2.2)]))) none
    | _, _, _ => none
  | _, _ => none

theorem ct23 : CT [(32, ⟨[true, true], G32A⟩)] [0, 1, 2, 3, 5, 6, 7, 8, 9, 10, 11, 13] [] := ⟨(.cons g32A (.nil _))⟩

set_option maxHeartbeats 4000000 in
theorem g23 : GCon Try.prog 23 G23 := by
  refine gconc E_ok (rs := [.tmp 8 22, .tmp 9 30]) Try.func23 rfl Try.ntmps23 (by kernel_rfl) rfl (by decide) G23 (np := 4) ?_ ?_
  · intro HB xs h; unfold G23; split <;> first | rfl | (simp at h; done)
  intro HB xs H r hG hwf hex
  unfold G23 at hG
  split at hG <;> try (cases hG; done)
  · rename_i x y first
    split at hG <;> try (cases hG; done)
    rename_i t ht htx hht
    cases hG
    obtain rfl := inv_inv htx
    obtain rfl := inv_inv hht
    rw [txT_st]
    simp only [h32T]
    repeat refine St (And.intro @gentry.eq_1 <| @gentry.eq_2) ct23 ?_
    exact AWP.ret (Fin trivial [] [])
  rename_i x y first
  split at hG <;> try (cases hG; done)
  rename_i l t ht hl htx hht
  split at hG
  case isFalse => cases hG
  rename_i hcc
  cases hG
  obtain ⟨hlen, hlow⟩ := hcc
  obtain rfl := inv_inv hl
  obtain rfl := inv_inv htx
  obtain rfl := inv_inv hht
  have h := trialA_c ⟨l, t, ht, first⟩ hlen hlow
  rw [show appV l t ht first = (if (ap1 ⟨l, t, ht, first⟩).2.2 = 0 then (ap1 ⟨l, t, ht, first⟩).1 else l, (ap1 ⟨l, t, ht, first⟩).2.1, (ap1 ⟨l, t, ht, first⟩).2.2) from rfl]
  generalize ap1 ⟨l, t, ht, first⟩ = R at *
  obtain ⟨L, sp, e⟩ := R
  dsimp only at h ⊢
  generalize (if e = 0 then L else l) = Z at *
  simp only [vwH, apN, h32T] at h ⊢
  rw [txT_st] at h ⊢
  repeat refine St (And.intro (And.intro @gentry.eq_1 <| @gentry.eq_2) <| h) ct23 ?_
  exact AWP.ret (Fin @vwN.eq_def [] [0, 1, 6])
theorem appl_c (l : List TCoin) (t : TTx) (ht : UInt32) (first : Bool) (h : l.length ≤ 900000) (h2 : lowL l = true) : G23 [.bx (.st [.own 1]), .sq 37 (l.map coinT)] [.ptr 0 0 [], .t (txT t), .t (.int .u32 (ht.toNat : Int)), .t (.bool first)] = some (vwN (appV l t ht first).1, .tup [.t (.sq 37 ((appV l t ht first).2.1.map coinT)), .t (.int .i64 (appV l t ht first).2.2)]) := by
  show G23 (vwH l) [.ptr 0 0 [], .t (txT t), .t (h32T ht), .t (.bool first)] = _
  simp only [G23, inv_of vwH_inj, inv_of txT_inj, inv_of h32T_inj]
  exact if_pos ⟨h, h2⟩

end Go.Fw

end

section
/- A region in two parts. -/
namespace Go.Fw
open Go Go.Proofs
set_option linter.unusedVariables false

theorem AWP.sK {gl : GCalls} {keep : List Nat} {ds : List (Nat × List Info)} {kp N id : Nat} {l1 l2 : List Oper} {Q : Exit → AS → Prop} {S S1 S2 S3 : AS} {F : Prop} (hF : F) (ct : CT gl keep ds)
    (hw : Weak kp N S1 S2) (hQ : Q .normal ⟨prune keep S3.s, S3.H⟩)
    (h1 : F → gops E eqq gl N (l1 ++ l2) l1 S = some S1 := by (intro hF; simp only [W, eqq, ↓reduceIte, Nat.reduceEqDiff, Nat.reduceLT, Nat.reduceLeDiff, Nat.reduceAdd, Nat.reduceMul, Nat.reduceSub, Nat.reduceBEq, Int.reduceLE, Int.reduceLT, Int.reduceNeg, Int.reduceToNat, Int.reduceEq, Int.reduceBEq, Int.reduceBNe, Nat.reduceBNe, bne_self_eq_false, reduceCtorEq, gt_iff_lt, ge_iff_le, hF]; with_reducible rfl))
    (h2 : F → gops E eqq gl N (l1 ++ l2) l2 S2 = some S3 := by (intro hF; simp only [W, eqq, ↓reduceIte, Nat.reduceEqDiff, Nat.reduceLT, Nat.reduceLeDiff, Nat.reduceAdd, Nat.reduceMul, Nat.reduceSub, Nat.reduceBEq, Int.reduceLE, Int.reduceLT, Int.reduceNeg, Int.reduceToNat, Int.reduceEq, Int.reduceBEq, Int.reduceBNe, Nat.reduceBNe, bne_self_eq_false, reduceCtorEq, gt_iff_lt, ge_iff_le, hF]; with_reducible rfl)) : AWP kp Try.prog N (.region id (l1 ++ l2).toArray false) Q S :=
  AWP.gsplit X_ok ct.cl keep (h1 hF) hw (h2 hF) hQ

end Go.Fw

end

section
/- Chapter 25: the live question. -/
namespace Go.Fw
open Go Go.Proofs
set_option linter.unusedVariables false
set_option linter.unusedSimpArgs false

def tx0 : TTx := ⟨0, [], [⟨1, []⟩, ⟨2, []⟩], 0⟩
theorem bare0 : bareB tx0 = [0, 0, 0, 0, 0, 2, 1, 0, 0, 0, 0, 0, 0, 0, 0, 2, 0, 0, 0, 0, 0, 0, 0, 0, 0, 0, 0, 0] := by decide +kernel
theorem name0 : shaL (shaL (bareB tx0)) ≠ List.replicate 32 0 := by
  rw [bare0]
  decide +kernel
theorem fits0 : fitsB tx0 = true := by decide +kernel
theorem nm0 : (nmH tx0).1 ≠ zH.1 := by
  show namO tx0 ≠ List.replicate 32 0
  unfold namO
  rw [if_pos fits0]
  exact name0
noncomputable def live0 : TCoin := ⟨⟨nmH tx0, 0⟩, ⟨1, []⟩, 7, true⟩
noncomputable def live1 : TCoin := ⟨⟨nmH tx0, 1⟩, ⟨2, []⟩, 7, true⟩
theorem live_app : appV [] tx0 7 true = ([live0, live1], [], 0) := by
  have hc : chkE tx0 = 0 := by unfold chkE; rw [if_pos fits0]
  have hm : madeC tx0 (nmH tx0) 7 true = [live0, live1] := rfl
  have ht : takeV [] (insR tx0 true) [] = ([], [], 0) := rfl
  have a0 : addV [] live0 = ([live0], 0) := by
    unfold addV
    rw [if_neg (by simp [plB])]
    rfl
  have hp : plN [live0] live1.r = 1 := by
    have e : cmpR live0.r live1.r = -1 := by
      show (if cmpL (nmH tx0).1 (nmH tx0).1 = 0 then cmpI ((0 : UInt32).toNat : Int) ((1 : UInt32).toNat : Int) else cmpL (nmH tx0).1 (nmH tx0).1) = -1
      rw [if_pos (cmpL_self _)]
      rfl
    unfold plN
    rw [bs_step (by simp) (by simp)]
    have e2 : cmpR (([live0] : List TCoin).getD ((0 + [live0].length) / 2) dCoin).r live1.r = -1 := e
    rw [if_pos (by rw [e2]; decide)]
    exact bs_end (by simp)
  have a1 : addV [live0] live1 = ([live0, live1], 0) := by
    unfold addV
    rw [if_neg (by unfold plB; rw [hp]; simp), hp]
    rfl
  have hA : addsV [] [live0, live1] = ([live0, live1], 0) := by
    unfold addsV
    rw [a0, if_neg (by simp)]
    unfold addsV
    rw [a1, if_neg (by simp)]
    rfl
  have hV : applyV [] tx0 (nmH tx0) 7 true = ([live0, live1], [], 0) := by
    unfold applyV
    rw [hc, if_neg (by simp), ht]
    dsimp only
    rw [if_neg (by simp), hm, hA]
    rfl
  unfold appV
  rw [hV]
  rfl
theorem two_get (a b d : TCoin) : ∀ i, i < 2 → ([a, b] : List TCoin).getD i d = a ∨ ([a, b] : List TCoin).getD i d = b
  | 0, _ => .inl rfl
  | 1, _ => .inr rfl
theorem live_spend : spdV [live0, live1] ⟨zH, 0⟩ = ([live0, live1], dCoin, 33) := by
  have hne : ∀ i, i < 2 → cmpR (([live0, live1] : List TCoin).getD i dCoin).r ⟨zH, 0⟩ ≠ 0 := by
    intro i hi h
    have key : ∀ c : TCoin, c.r.h = nmH tx0 → cmpR c.r ⟨zH, 0⟩ ≠ 0 := by
      intro c hc h
      unfold cmpR at h
      rw [hc] at h
      split at h
      · rename_i h0
        exact nm0 (cmpL_eq _ _ h0)
      · rename_i h0
        exact h0 h
    rcases two_get live0 live1 dCoin i hi with e | e
    · rw [e] at h; exact key live0 rfl h
    · rw [e] at h; exact key live1 rfl h
  have hb : plB [live0, live1] ⟨zH, 0⟩ = false := by
    unfold plB
    by_cases h : plN [live0, live1] ⟨zH, 0⟩ < [live0, live1].length
    · rw [decide_eq_true h, Bool.true_and, decide_eq_false_iff_not]
      exact hne _ h
    · rw [decide_eq_false h]; rfl
  unfold spdV
  rw [hb]
  rfl

def F8 : Fun
  | [] => some ([], .t (.bool true))
  | _ => none

theorem ct8 : CT [(10, ⟨[true], G10⟩), (14, ⟨[true, false], G14⟩), (15, ⟨[true], G15⟩), (23, ⟨[true, false, false, false], G23⟩), (26, ⟨[], treeG F26⟩)] [0, 1, 2, 3, 4, 6, 9] [] := ⟨(.cons g10 (.cons g14 (.cons g15 (.cons g23 (.cons c26.g (.nil _))))))⟩

set_option maxRecDepth 8000 in
set_option maxHeartbeats 4000000 in
theorem c8 : ACon Try.prog 8 F8 := by
  refine aconc E_ok (rs := [.tmp 0 4]) Try.func8 rfl Try.ntmps8 (by kernel_rfl) rfl (by decide) F8 (np := 0) ?_ ?_
  · intro ts h; unfold F8; split <;> first | rfl | (simp at h; done)
  intro ts H r hF hwf
  unfold F8 at hF
  split at hF <;> try (cases hF; done)
  cases hF
  have hA := appl_c [] tx0 7 true (by simp) rfl
  rw [live_app] at hA
  have hL := list_c [live0, live1] (by simp) rfl
  have hSp := spend_vc [live0, live1] ⟨zH, 0⟩ (by simp) rfl
  rw [live_spend] at hSp
  have hN : G15 [.bx (.st [.own 1]), .sq 37 ([live0, live1].map coinT)] [.ptr 0 0 []] = some (vwH [live0, live1], .t (.int .i64 2)) := by
    show G15 (vwH [live0, live1]) _ = _
    simp only [G15, inv_of vwH_inj]
    rfl
  have e0 : coinT live0 = .st [.st [.ba 32 (nmH tx0).1, .int .u32 0], .st [.int .u64 1, .by []], .int .u32 7, .bool true] := rfl
  have e1 : coinT live1 = .st [.st [.ba 32 (nmH tx0).1, .int .u32 1], .st [.int .u64 2, .by []], .int .u32 7, .bool true] := rfl
  have et : txT tx0 = .st [.int .u32 0, .sq 35 [], .sq 2 [.st [.int .u64 1, .by []], .st [.int .u64 2, .by []]], .int .u32 0] := rfl
  have h7 : ((7 : UInt32).toNat : Int) = 7 := rfl
  have h0 : ((0 : UInt32).toNat : Int) = 0 := rfl
  have hz : zH.1 = zby 32 := rfl
  simp only [vwH, vwN, List.map_cons, List.map_nil, e0, e1, et, h7, h0, hz, dCoin_T, List.cons_append, List.nil_append] at hA hL hSp hN
  generalize nmH tx0 = N at *
  repeat refine St (And.intro @F26.eq_def <| And.intro @vwH.eq_def <| And.intro @List.map_nil.{0, 0} <| And.intro hA <| And.intro hL <| And.intro hSp <| hN) ct8 ?_
  refine AWP.sK (l1 := [_, _, _, _]) (And.intro hA <| And.intro hL <| And.intro hSp <| hN) ct8 (Weak.trans (Weak.freeze 2) (Weak.thawS (y := .sq 2 [.st [.int .u64 1, .by []], .st [.int .u64 2, .by []]]) 14 rfl)) ?_
  show AWP _ _ _ _ _ _
  repeat refine St (And.intro @F26.eq_def <| And.intro @vwH.eq_def <| And.intro @List.map_nil.{0, 0} <| And.intro hA <| And.intro hL <| And.intro hSp <| hN) ct8 ?_
  exact AWP.ret (Fin trivial [] [])

end Go.Fw

end

section
/- view: Block, Revert, Undo of no view. -/
namespace Go.Fw
open Go Go.Proofs
set_option linter.unusedVariables false
set_option linter.unusedSimpArgs false

noncomputable def F17 : Fun
  | [.nilp, .sq 4 xs, .int .u32 h] => some ([], .tup [.t (.sq 37 []), .t (.int .i64 1)])
  | _ => none

theorem ct17 : CT [(31, ⟨[true, false, false, false], G31⟩), (32, ⟨[true, true], G32A⟩)] [0, 1, 2, 4, 5, 6, 7, 8, 9, 10, 12, 17] [] := ⟨(.cons g31 (.cons g32A (.nil _)))⟩

theorem c17 : ACon Try.prog 17 F17 := by
  refine aconc E_ok (rs := [.tmp 6 22, .tmp 7 30]) Try.func17 rfl Try.ntmps17 (by kernel_rfl) rfl (by decide) F17 (np := 3) ?_ ?_
  · intro ts h; unfold F17; split <;> first | rfl | (simp at h; done)
  intro ts H r hF hwf
  unfold F17 at hF
  split at hF <;> try (cases hF; done)
  cases hF
  repeat refine St trivial ct17 ?_
  exact AWP.ret (Fin trivial [] [])


noncomputable def F25 : Fun
  | [.nilp, y, .bool f, .sq 37 []] => match inv txT y with
    | some t => some ([], .t (.int .i64 1))
    | none => none
  | _ => none

theorem ct25 : CT [(32, ⟨[true, true], G32A⟩)] [0, 1, 2, 3, 5, 6, 7, 8, 10] [] := ⟨(.cons g32A (.nil _))⟩

theorem c25 : ACon Try.prog 25 F25 := by
  refine aconc E_ok (rs := [.tmp 8 30]) Try.func25 rfl Try.ntmps25 (by kernel_rfl) rfl (by decide) F25 (np := 4) ?_ ?_
  · intro ts h; unfold F25; split <;> first | rfl | (simp at h; done)
  intro ts H r hF hwf
  unfold F25 at hF
  split at hF <;> try (cases hF; done)
  split at hF <;> try (cases hF; done)
  rename_i t ht
  cases hF
  obtain rfl := inv_inv ht
  rw [txT_st]
  repeat refine St trivial ct25 ?_
  exact AWP.ret (Fin trivial [] [])

noncomputable def F19 : Fun
  | [.nilp, .sq 4 [], .sq 37 []] => some ([], .t (.int .i64 1))
  | _ => none

theorem ct19 : CT [(32, ⟨[true, true], G32A⟩), (34, ⟨[false, false], treeG F34⟩)] [0, 1, 2, 4, 5, 6, 7, 8, 9, 10, 12, 13, 14, 15, 16, 31] [] := ⟨(.cons g32A (.cons c34.g (.nil _)))⟩

theorem c19 : ACon Try.prog 19 F19 := by
  refine aconc E_ok (rs := [.tmp 6 30]) Try.func19 rfl Try.ntmps19 (by kernel_rfl) rfl (by decide) F19 (np := 3) ?_ ?_
  · intro ts h; unfold F19; split <;> first | rfl | (simp at h; done)
  intro ts H r hF hwf
  unfold F19 at hF
  split at hF <;> try (cases hF; done)
  cases hF
  repeat refine St trivial ct19 ?_
  exact AWP.ret (Fin trivial [] [])

end Go.Fw

end

section
/- view's answer: what may be asked about (lines of R09a and R11b). -/
namespace Go.Fw
open Go Go.Proofs
set_option linter.unusedVariables false
set_option linter.unusedSimpArgs false

theorem tx_getD (l : List TTx) (k : Nat) (h : k < l.length) : (l.map txT).getD k default = txT (l.getD k dTx) := by simp [h]

noncomputable def F30 : Fun
  | [y] => match inv txT y with
    | some t => some ([], .t (.bool (smallT t)))
    | none => none
  | _ => none

theorem ct30 : CT [] [0, 1, 2, 3, 4, 5, 15, 20, 30, 35, 45, 54, 67] [] := ⟨GClOk.nil _⟩

set_option maxHeartbeats 1000000 in
theorem c30 : ACon Try.prog 30 F30 := by
  refine aconc E_ok (rs := [.tmp 2 4]) Try.func30 rfl Try.ntmps30 (by kernel_rfl) rfl (by decide) F30 (np := 1) ?_ ?_
  · intro ts h; unfold F30; split <;> first | rfl | (simp at h; done)
  intro ts H r hF hwf
  unfold F30 at hF
  split at hF <;> try (cases hF; done)
  split at hF <;> try (cases hF; done)
  rename_i t ht
  cases hF
  obtain rfl := inv_inv ht
  have hcb := smallT_eq t
  obtain ⟨c, hc⟩ : ∃ c, smallT t = c := ⟨_, rfl⟩
  rw [hc] at hcb
  rw [hc]
  obtain ⟨v, is, os, k⟩ := t
  dsimp only at hcb
  have hyu : txT ⟨v, is, os, k⟩ = .st [.int .u32 (v.toNat : Int), .sq 35 (is.map inT), .sq 2 (os.map outT), .int .u32 (k.toNat : Int)] := rfl
  rw [hyu]
  by_cases h1 : 6 < (is.length : Int)
  · have e : c = false := by rw [hcb]; have : ¬ is.length ≤ 6 := by omega
                             simp [this]
    subst e
    repeat refine St h1 ct30 ?_
    exact AWP.ret (Fin trivial [] [])
  by_cases h2 : 6 < (os.length : Int)
  · have e : c = false := by rw [hcb]; have : ¬ os.length ≤ 6 := by omega
                             simp [this]
    subst e
    repeat refine St (And.intro h1 <| h2) ct30 ?_
    exact AWP.ret (Fin trivial [] [])
  have hcb' : c = (os.all scrS && is.all witS) := by
    rw [hcb]
    have e1 : is.length ≤ 6 := by omega
    have e2 : os.length ≤ 6 := by omega
    simp [e1, e2]
  repeat refine St (And.intro h1 <| h2) ct30 ?_
  refine AWP.loop (G := { i : Nat // i ≤ os.length ∧ (os.take i).all scrS = true }) (fun i => ⟨[(1, .ptr 0 0 []), (3, .t (.int .i64 (i.1 : Int)))], [.bx (.t (.st [.int .u32 (v.toNat : Int), .sq 35 (is.map inT), .sq 2 (os.map outT), .int .u32 (k.toNat : Int)]))]⟩) (fun i => os.length - i.1) ⟨0, by omega, rfl⟩ (Wt trivial [1, 3] [0]) ?_
  intro ⟨i, hi, ha⟩
  dsimp only
  by_cases hlt : (i : Int) < (os.length : Int)
  · have hlt' : i < os.length := by omega
    have hget := out_getD os i hlt'
    have hal := all_take scrS dOut os i hlt'
    have hbad := all_getD scrS dOut os i hlt'
    generalize os.getD i dOut = x at *
    by_cases hb : 600 < (x.scr.length : Int)
    · have hx : scrS x = false := decide_eq_false (by omega)
      have e : c = false := by rw [hcb', hbad hx]; rfl
      subst e
      repeat refine St (And.intro hlt <| And.intro hlt' <| And.intro hget <| And.intro @outT.eq_def <| hb) ct30 ?_
      exact AWP.ret (Fin trivial [] [])
    · have hx : scrS x = true := decide_eq_true (by omega)
      rw [ha, hx] at hal
      repeat refine St (And.intro hlt <| And.intro hlt' <| And.intro hget <| And.intro @outT.eq_def <| hb) ct30 ?_
      exact ⟨⟨i + 1, by omega, by rw [hal]; rfl⟩, (Wt trivial [1, 3] [0]), by simp only; omega⟩
  obtain rfl : i = os.length := by omega
  rw [List.take_length] at ha
  rw [ha, Bool.true_and] at hcb'
  repeat refine St hlt ct30 ?_
  refine AWP.loop (G := { i : Nat // i ≤ is.length ∧ (is.take i).all witS = true }) (fun i => ⟨[(1, .ptr 0 0 []), (4, .t (.int .i64 (i.1 : Int)))], [.bx (.t (.st [.int .u32 (v.toNat : Int), .sq 35 (is.map inT), .sq 2 (os.map outT), .int .u32 (k.toNat : Int)]))]⟩) (fun i => is.length - i.1) ⟨0, by omega, rfl⟩ (Wt trivial [1, 4] [0]) ?_
  intro ⟨i, hi, hai⟩
  dsimp only
  by_cases hlti : (i : Int) < (is.length : Int)
  · have hlt' : i < is.length := by omega
    have hget := in_getD is i hlt'
    have hal := all_take witS dIn is i hlt'
    have hbad := all_getD witS dIn is i hlt'
    generalize is.getD i dIn = x at *
    have hxe : witS x = (decide (x.wit.length ≤ 6) && x.wit.all fun y => decide (y.length ≤ 600)) := rfl
    by_cases h30 : 6 < (x.wit.length : Int)
    · have e : c = false := by rw [hcb', hbad (by rw [hxe]; have : ¬ x.wit.length ≤ 6 := by omega
                                                  simp [this])]
      subst e
      repeat refine St (And.intro hlti <| And.intro hlt' <| And.intro hget <| And.intro @inT.eq_def <| And.intro @refT.eq_def <| h30) ct30 ?_
      exact AWP.ret (Fin trivial [] [])
    have h30' : decide (x.wit.length ≤ 6) = true := decide_eq_true (by omega)
    rw [h30', Bool.true_and] at hxe
    repeat refine St (And.intro hlti <| And.intro hlt' <| And.intro hget <| And.intro @inT.eq_def <| And.intro @refT.eq_def <| h30) ct30 ?_
    refine AWP.loop (G := { j : Nat // j ≤ x.wit.length ∧ (x.wit.take j).all (fun y => decide (y.length ≤ 600)) = true }) (fun j => ⟨[(1, .ptr 0 0 []), (4, .t (.int .i64 (i : Int))), (5, .t (.int .i64 (j.1 : Int)))], [.bx (.t (.st [.int .u32 (v.toNat : Int), .sq 35 (is.map inT), .sq 2 (os.map outT), .int .u32 (k.toNat : Int)]))]⟩) (fun j => x.wit.length - j.1) ⟨0, by omega, rfl⟩ (Wt trivial [1, 4, 5] [0]) ?_
    intro ⟨j, hj, haj⟩
    dsimp only
    by_cases hltj : (j : Int) < (x.wit.length : Int)
    · have hltj' : j < x.wit.length := by omega
      have hgetj := map_getD x.wit j hltj'
      have halj := all_take (fun y : List UInt8 => decide (y.length ≤ 600)) [] x.wit j hltj'
      have hbadj := all_getD (fun y : List UInt8 => decide (y.length ≤ 600)) [] x.wit j hltj'
      generalize x.wit.getD j [] = y at *
      by_cases hb : 600 < (y.length : Int)
      · have hx : decide (y.length ≤ 600) = false := decide_eq_false (by omega)
        have e : c = false := by rw [hcb', hbad (by rw [hxe]; exact hbadj hx)]
        subst e
        repeat refine St (And.intro hlti <| And.intro hlt' <| And.intro hget <| And.intro @inT.eq_def <| And.intro @refT.eq_def <| And.intro hltj <| And.intro hltj' <| And.intro hgetj <| hb) ct30 ?_
        exact AWP.ret (Fin trivial [] [])
      · have hx : decide (y.length ≤ 600) = true := decide_eq_true (by omega)
        rw [haj, hx] at halj
        repeat refine St (And.intro hlti <| And.intro hlt' <| And.intro hget <| And.intro @inT.eq_def <| And.intro @refT.eq_def <| And.intro hltj <| And.intro hltj' <| And.intro hgetj <| hb) ct30 ?_
        exact ⟨⟨j + 1, by omega, by rw [halj]; rfl⟩, (Wt trivial [1, 4, 5] [0]), by simp only; omega⟩
    obtain rfl : j = x.wit.length := by omega
    rw [List.take_length] at haj
    rw [haj] at hxe
    rw [hai, hxe] at hal
    repeat refine St (And.intro hlti <| And.intro hlt' <| And.intro hget <| And.intro @inT.eq_def <| And.intro @refT.eq_def <| hltj) ct30 ?_
    exact ⟨⟨i + 1, by omega, by rw [hal]; rfl⟩, (Wt trivial [1, 4] [0]), by simp only; omega⟩
  obtain rfl : i = is.length := by omega
  rw [List.take_length] at hai
  rw [hai] at hcb'
  subst hcb'
  repeat refine St hlti ct30 ?_
  exact AWP.ret (Fin trivial [] [])

theorem rSmall_c (t : TTx) : F30 [txT t] = some ([], .t (.bool (smallT t))) := by
  simp only [F30, inv_of txT_inj]


def smallBl (l : List TTx) : Bool := decide (l.length ≤ 8) && l.all smallT
theorem smallBl_ok {l : List TTx} (h : smallBl l = true) : l.length ≤ 8 ∧ l.all smallT = true := by
  simpa [smallBl] using h
noncomputable def F16 : Fun
  | [y] => match inv txsT y with
    | some l => some ([], .t (.bool (smallBl l)))
    | none => none
  | _ => none

theorem ct16 : CT [(30, ⟨[false], treeG F30⟩)] [0, 2, 3, 7, 19] [] := ⟨(.cons c30.g (.nil _))⟩

set_option maxHeartbeats 1000000 in
theorem c16 : ACon Try.prog 16 F16 := by
  refine aconc E_ok (rs := [.tmp 2 4]) Try.func16 rfl Try.ntmps16 (by kernel_rfl) rfl (by decide) F16 (np := 1) ?_ ?_
  · intro ts h; unfold F16; split <;> first | rfl | (simp at h; done)
  intro ts H r hF hwf
  unfold F16 at hF
  split at hF <;> try (cases hF; done)
  split at hF <;> try (cases hF; done)
  rename_i l hl
  cases hF
  obtain rfl := inv_inv hl
  have hg : l.length ≤ maxLen := by
    have h1 := hwf (txsT l) (by simp)
    simp only [txsT, T.wf] at h1
    simpa using h1.2.1
  unfold maxLen at hg
  have hsm : smallBl l = (decide (l.length ≤ 8) && l.all smallT) := rfl
  obtain ⟨c, hc⟩ : ∃ c, smallBl l = c := ⟨_, rfl⟩
  rw [hc] at hsm ⊢
  dsimp only [txsT]
  repeat refine St trivial ct16 ?_
  refine AWP.loop (G := { i : Nat // i ≤ l.length ∧ i ≤ 8 ∧ (l.take i).all smallT = true }) (fun i => ⟨[(0, .t (.sq 4 (l.map txT))), (3, .t (.int .i64 (i.1 : Int)))], []⟩) (fun i => l.length - i.1) ⟨0, by omega, by omega, rfl⟩ (Wt trivial [0, 3] []) ?_
  intro ⟨i, hi, hi8, ha⟩
  dsimp only
  by_cases hlt : (i : Int) < (l.length : Int)
  · have hlt' : i < l.length := by omega
    by_cases h8 : i = 8
    · have e : c = false := by rw [hsm, decide_eq_false (by omega)]; rfl
      have h8' : ((i : Int) == 8) = true := by rw [beq_iff_eq]; omega
      subst e
      repeat refine St (And.intro hlt <| h8') ct16 ?_
      exact AWP.ret (Fin trivial [] [])
    have h8' : ((i : Int) == 8) = false := by rw [beq_eq_false_iff_ne]; omega
    have hget := tx_getD l i hlt'
    have hal := all_take smallT dTx l i hlt'
    have hbad := all_getD smallT dTx l i hlt'
    generalize l.getD i dTx = x at *
    have q1 : F30 [txT x] = some ([], .t (.bool (smallT x))) := by simp only [F30, inv_of txT_inj]
    rw [txT_st] at q1 hget
    cases hx : smallT x with
    | false =>
      rw [hx] at q1
      have e : c = false := by rw [hsm, hbad hx, Bool.and_false]
      subst e
      repeat refine St (And.intro hlt <| And.intro hlt' <| And.intro h8' <| And.intro hget <| q1) ct16 ?_
      exact AWP.ret (Fin trivial [] [])
    | true =>
      rw [hx] at q1
      rw [ha, hx] at hal
      repeat refine St (And.intro hlt <| And.intro hlt' <| And.intro h8' <| And.intro hget <| q1) ct16 ?_
      exact ⟨⟨i + 1, by omega, by omega, by rw [hal]; rfl⟩, (Wt trivial [0, 3] []), by simp only; omega⟩
  obtain rfl : i = l.length := by omega
  rw [List.take_length] at ha
  have e : c = true := by rw [hsm, ha, decide_eq_true hi8]; rfl
  subst e
  repeat refine St hlt ct16 ?_
  exact AWP.ret (Fin trivial [] [])

theorem rsmallb_c (l : List TTx) : F16 [.sq 4 (l.map txT)] = some ([], .t (.bool (smallBl l))) := by
  have : F16 [txsT l] = some ([], .t (.bool (smallBl l))) := by simp only [F16, inv_of txsT_inj]
  exact this


end Go.Fw

end

section
/- view's answer: coins alike; which coins may be asked about. -/
namespace Go.Fw
open Go Go.Proofs
set_option linter.unusedVariables false
set_option linter.unusedSimpArgs false

/-- Are coins alike? -/
noncomputable def sameC (a b : TCoin) : Bool := @decide (a = b) (Classical.propDecidable _)
theorem sameC_eq (a b : TCoin) : sameC a b = (a.r.h.1 == b.r.h.1 && (((a.r.i.toNat : Int) == (b.r.i.toNat : Int))) && ((a.out.val.toNat : Int) == (b.out.val.toNat : Int)) && (a.out.scr == b.out.scr) && ((a.ht.toNat : Int) == (b.ht.toNat : Int)) && (a.first == b.first)) := by
  obtain ⟨⟨⟨h1, g1⟩, i1⟩, ⟨v1, s1⟩, t1, f1⟩ := a
  obtain ⟨⟨⟨h2, g2⟩, i2⟩, ⟨v2, s2⟩, t2, f2⟩ := b
  dsimp only
  rw [Bool.eq_iff_iff]
  unfold sameC
  rw [@decide_eq_true_iff _ (Classical.propDecidable _)]
  simp only [Bool.and_eq_true, beq_iff_eq]
  constructor
  · intro h
    cases h
    exact ⟨⟨⟨⟨⟨rfl, rfl⟩, rfl⟩, rfl⟩, rfl⟩, rfl⟩
  · rintro ⟨⟨⟨⟨⟨e1, e2⟩, e3⟩, e4⟩, e5⟩, e6⟩
    subst e1 e4 e6
    have e2' : i1 = i2 := UInt32.toNat_inj.1 (by omega)
    have e3' : v1 = v2 := UInt64.toNat_inj.1 (by omega)
    have e5' : t1 = t2 := UInt32.toNat_inj.1 (by omega)
    subst e2' e3' e5'
    rfl
theorem sameC_self (a : TCoin) : sameC a a = true := by unfold sameC; exact @decide_eq_true _ (Classical.propDecidable _) rfl
theorem sameC_iff (a b : TCoin) : sameC a b = true ↔ a = b := by unfold sameC; exact @decide_eq_true_iff _ (Classical.propDecidable _)

noncomputable def F12 : Fun
  | [x, y] => match inv coinT x, inv coinT y with
    | some a, some b => some ([], .t (.bool (sameC a b)))
    | _, _ => none
  | _ => none

theorem ct12 : CT [] [0, 1, 2, 3, 4] [] := ⟨GClOk.nil _⟩

set_option maxHeartbeats 2000000 in
theorem c12 : ACon Try.prog 12 F12 := by
  refine aconc E_ok (rs := [.tmp 4 4]) Try.func12 rfl Try.ntmps12 (by kernel_rfl) rfl (by decide) F12 (np := 2) ?_ ?_
  · intro ts h; unfold F12; split <;> first | rfl | (simp at h; done)
  intro ts H r hF hwf
  unfold F12 at hF
  split at hF <;> try (cases hF; done)
  split at hF <;> try (cases hF; done)
  rename_i a b ha hb
  cases hF
  obtain rfl := inv_inv ha
  obtain rfl := inv_inv hb
  have he := sameC_eq a b
  obtain ⟨c, hc⟩ : ∃ c, sameC a b = c := ⟨_, rfl⟩
  rw [hc] at he ⊢
  simp only [coinT_st]
  cases c1 : (a.r.h.1 == b.r.h.1 && ((a.r.i.toNat : Int) == (b.r.i.toNat : Int))) with
  | false =>
    rw [c1] at he
    simp only [Bool.false_and] at he
    subst he
    repeat refine St c1 ct12 ?_
    exact AWP.ret (Fin trivial [] [])
  | true =>
  rw [c1] at he
  simp only [Bool.true_and] at he
  cases c2 : ((a.out.val.toNat : Int) == (b.out.val.toNat : Int)) with
  | false =>
    rw [c2] at he
    simp only [Bool.false_and] at he
    subst he
    repeat refine St (And.intro c1 <| c2) ct12 ?_
    exact AWP.ret (Fin trivial [] [])
  | true =>
  rw [c2] at he
  simp only [Bool.true_and] at he
  cases c3 : (a.out.scr == b.out.scr) with
  | false =>
    rw [c3] at he
    simp only [Bool.false_and] at he
    subst he
    repeat refine St (And.intro c1 <| And.intro c2 <| c3) ct12 ?_
    exact AWP.ret (Fin trivial [] [])
  | true =>
  rw [c3] at he
  simp only [Bool.true_and] at he
  cases c4 : ((a.ht.toNat : Int) == (b.ht.toNat : Int)) with
  | false =>
    rw [c4] at he
    simp only [Bool.false_and] at he
    subst he
    repeat refine St (And.intro c1 <| And.intro c2 <| And.intro c3 <| c4) ct12 ?_
    exact AWP.ret (Fin trivial [] [])
  | true =>
  rw [c4] at he
  simp only [Bool.true_and] at he
  subst he
  repeat refine St (And.intro c1 <| And.intro c2 <| And.intro c3 <| c4) ct12 ?_
  exact AWP.ret (Fin trivial [] [])
theorem same_cc (a b : TCoin) : F12 [coinT a, coinT b] = some ([], .t (.bool (sameC a b))) := by
  simp only [F12, inv_of coinT_inj]

end Go.Fw

end

section
/- Chapter 25: ViewNil walked. -/
namespace Go.Fw
open Go Go.Proofs
set_option linter.unusedVariables false
set_option linter.unusedSimpArgs false

theorem lap : (∀ (α : Type) (l : List α), List.append [] l = l) ∧ ∀ (α : Type) (a : α) (x y : List α), List.append (a :: x) y = a :: List.append x y := ⟨fun _ _ => rfl, fun _ _ _ _ => rfl⟩

noncomputable def F6 : Fun
  | [x, y] => match inv coinT x, inv txT y with
    | some c, some t => some ([], .t (.bool true))
    | _, _ => none
  | _ => none

theorem ct6 : CT [(8, ⟨[], treeG F8⟩), (10, ⟨[true], G10⟩), (11, ⟨[true, false], G11⟩), (12, ⟨[false, false], treeG F12⟩), (14, ⟨[true, false], G14⟩), (15, ⟨[true], G15⟩), (16, ⟨[false], treeG F16⟩), (17, ⟨[false, false, false], treeG F17⟩), (19, ⟨[false, false, false], treeG F19⟩), (21, ⟨[true], G21⟩), (23, ⟨[true, false, false, false], G23⟩), (24, ⟨[true, false], G24⟩), (25, ⟨[false, false, false, false], treeG F25⟩)] [0, 1, 2, 3, 4, 5, 6, 7, 8, 9, 10, 11, 12, 13, 17] [] := ⟨(.cons c8.g (.cons g10 (.cons g11 (.cons c12.g (.cons g14 (.cons g15 (.cons c16.g (.cons c17.g (.cons c19.g (.cons g21 (.cons g23 (.cons g24 (.cons c25.g (.nil _))))))))))))))⟩

set_option maxRecDepth 20000 in
set_option maxHeartbeats 4000000 in
theorem c6 : ACon Try.prog 6 F6 := by
  refine aconc E_ok (rs := [.tmp 4 4]) Try.func6 rfl Try.ntmps6 (by kernel_rfl) rfl (by decide) F6 (np := 2) ?_ ?_
  · intro ts h; unfold F6; split <;> first | rfl | (simp at h; done)
  intro ts H r hF hwf
  unfold F6 at hF
  split at hF <;> try (cases hF; done)
  split at hF <;> try (cases hF; done)
  rename_i c t hc ht
  cases hF
  obtain rfl := inv_inv hc
  obtain rfl := inv_inv ht
  have h0 := rsmallb_c [t]
  have hG : G11 [] [.t .nilp, .t (rfT c.r)] = some ([], .tup [.t (coinT dCoin), .t (.bool false)]) := by
    simp only [G11, inv_of rfT_inj]
  have hSp : G14 [] [.t .nilp, .t (rfT c.r)] = some ([], .tup [.t (coinT dCoin), .t (.int .i64 1)]) := by
    simp only [G14, inv_of rfT_inj]
  have hA : G23 [] [.t .nilp, .t (txT t), .t (.int .u32 1), .t (.bool false)] = some ([], .tup [.t (.sq 37 []), .t (.int .i64 1)]) := by
    show G23 [] [.t .nilp, .t (txT t), .t (h32T 1), .t (.bool false)] = _
    simp only [G23, inv_of txT_inj, inv_of h32T_inj]
  have hD : G24 [] [.t .nilp, .t (coinT c)] = some ([], .t (.int .i64 1)) := by
    simp only [G24, inv_of coinT_inj]
  have hR : F25 [.nilp, txT t, .bool false, .sq 37 []] = some ([], .t (.int .i64 1)) := by
    simp only [F25, inv_of txT_inj]
  have hU : F19 [.nilp, .sq 4 [], .sq 37 []] = some ([], .t (.int .i64 1)) := rfl
  have hL : G10 [] [.t .nilp] = some ([], .t (.sq 37 [])) := rfl
  have hN : G15 [] [.t .nilp] = some ([], .t (.int .i64 0)) := rfl
  have hC : G21 [] [.t .nilp] = some ([], .t .nilp) := rfl
  have hB2 : F17 [.nilp, .sq 4 [txT t], .int .u32 1] = some ([], .tup [.t (.sq 37 []), .t (.int .i64 1)]) := rfl
  have hE := same_cc dCoin dCoin
  rw [sameC_self, dCoin_T] at hE
  simp only [List.map_cons, List.map_nil] at h0
  rw [dCoin_T] at hG hSp
  simp only [rfT] at hG hSp
  simp only [coinT_st c] at hD ⊢
  rw [txT_st] at h0 hA hR hB2 ⊢
  cases hsm : smallBl [t] with
  | false =>
    rw [hsm] at h0
    repeat refine St (And.intro h0 <| @F8.eq_def) ct6 ?_
    exact AWP.ret (Fin trivial [] [])
  | true =>
    rw [hsm] at h0
    repeat refine St (And.intro h0 <| And.intro (And.intro @gentry.eq_1 <| @gentry.eq_2) <| And.intro hG <| And.intro hSp <| And.intro hA <| And.intro hB2 <| And.intro hD <| And.intro hR <| And.intro hU <| And.intro hL <| And.intro hN <| And.intro hC <| And.intro hE <| And.intro @F8.eq_def <| @lap) ct6 ?_
    exact AWP.ret (Fin trivial [] [])
theorem nil_c (c : TCoin) (t : TTx) : F6 [coinT c, txT t] = some ([], .t (.bool true)) := by
  simp only [F6, inv_of coinT_inj, inv_of txT_inj]

end Go.Fw

end
