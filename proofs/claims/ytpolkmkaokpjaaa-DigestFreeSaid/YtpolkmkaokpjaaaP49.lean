/- The abstract machine, and the contracts of the code: part 49. -/
import Derived.Test.YtpolkmkaokpjaaaP48

section
/- digest's answer: messages, annexes. -/
namespace Go.Fw
open Go Go.Proofs
set_option linter.unusedVariables false
set_option linter.unusedSimpArgs false

theorem add_21 : IntKind.u8.wrap (2 + 1) = 3 := rfl
theorem add_01 : IntKind.u8.wrap 1 = 1 := rfl
theorem put_x {b : List UInt8} (n : Int) (h : b.length ≤ 1000000) : F31 [.by b, .int .u64 n, .int .i64 4] = some ([.by (b ++ le 4 n)], .own 0) := put_c n 4 (by omega) (by omega) (by omega)

noncomputable def F19 : Fun
  | [y, .by leaf, .by annex] => match inv spT y with
    | some s => if leaf.length ≤ 1000000 ∧ annex.length ≤ 1000000 then some ([], .tup [.t (.ba 32 (msgM s leaf annex)), .t (.int .i64 (msgE s leaf))]) else none
    | none => none
  | _ => none

theorem ct19 : CT [(16, ⟨[false], treeG F16⟩), (21, ⟨[false], treeG F21⟩), (31, ⟨[false, false, false], treeG F31⟩), (32, ⟨[false], treeG F32⟩), (34, ⟨[false, false], treeG F34⟩), (39, ⟨[false, false], treeG F39⟩)] [0, 1, 2, 3, 6, 7, 8, 9, 10, 11, 12, 13, 14, 15, 16, 29, 37, 95, 98, 112, 121] [] := ⟨(.cons c16.g (.cons c21.g (.cons c31.g (.cons c32.g (.cons c34.g (.cons c39.g (.nil _)))))))⟩

set_option maxRecDepth 20000 in
set_option maxHeartbeats 8000000 in
theorem c19 : ACon Try.prog 19 F19 := by
  refine aconc E_ok (rs := [.cell 6 35, .tmp 7 36]) Try.func19 rfl Try.ntmps19 (by kernel_rfl) rfl (by decide) F19 (np := 3) ?_ ?_
  · intro ts h; unfold F19; split <;> first | rfl | (simp at h; done)
  intro ts H r hF hwf
  unfold F19 at hF
  split at hF <;> try (cases hF; done)
  rename_i y leaf annex
  split at hF <;> try (cases hF; done)
  rename_i s hs
  split at hF
  case isFalse => cases hF
  rename_i hb
  cases hF
  obtain ⟨hb1, hb2⟩ := hb
  obtain rfl := inv_inv hs
  have h1 := rchecks_d s
  rcases chkS_two s with ⟨e1, e2⟩ | ⟨e1, e2⟩
  case inr =>
    have hno := okM_no1 leaf e2
    rw [show msgM s leaf annex = zby 32 from if_neg (by rw [hno]; simp), show msgE s leaf = 1 from if_neg (by rw [hno]; simp)]
    rw [e1] at h1
    rw [spT_st] at h1 ⊢
    repeat refine St h1 ct19 ?_
    exact AWP.ret (Fin trivial [] [])
  rw [e1] at h1
  by_cases hl : leaf.length ≠ 0 ∧ leaf.length ≠ 32
  · have hno : okM s leaf = false := okM_no2 hl.1 hl.2
    rw [show msgM s leaf annex = zby 32 from if_neg (by rw [hno]; simp), show msgE s leaf = 1 from if_neg (by rw [hno]; simp)]
    have c1 : ((leaf.length : Int) != 0) = true := by rw [bne_iff_ne]; omega
    have c2 : ((leaf.length : Int) != 32) = true := by rw [bne_iff_ne]; omega
    rw [spT_st] at h1 ⊢
    repeat refine St (And.intro h1 <| And.intro c1 <| c2) ct19 ?_
    exact AWP.ret (Fin trivial [] [])
  have hl2 : leaf.length = 0 ∨ leaf.length = 32 := by omega
  have hyes := okM_yes e2 hl2
  rw [show msgM s leaf annex = tagL tagM (msgL9 s leaf annex) from if_pos hyes, show msgE s leaf = 0 from if_pos hyes]
  obtain ⟨f1, f2, f3, f4, f5⟩ := okS_ok e2
  obtain ⟨b1, b2, b3⟩ := fits_cat f1
  have hcat := okS_cat e2
  have htwo := cat_two s.spent
  have h2 := rparts_d (t := s.tx) (by omega) (by omega)
  have l1 := refsL_len s.tx.ins
  have l2 := seqsL_len s.tx.ins
  have l3 := outsL_len s.tx.outs
  have l4 := valsL_len s.spent
  have l5 := scrsL_len s.spent
  have g4 : F32 [.by (cat valB9 s.spent)] = some ([], .t (.ba 32 (valsL s.spent))) := refsum_c (by omega)
  have g5 : F32 [.by (cat scrB9 s.spent)] = some ([], .t (.ba 32 (scrsL s.spent))) := refsum_c (by omega)
  rw [partT_eq, txT_st] at h2
  rw [spT_st] at h1 ⊢
  unfold msgL9 headM hshM
  generalize refsL s.tx.ins = x1 at *
  generalize seqsL s.tx.ins = x2 at *
  generalize outsL s.tx.outs = x3 at *
  generalize valsL s.spent = x4 at *
  generalize scrsL s.spent = x5 at *
  obtain ⟨⟨v, is, os, k⟩, ix, sp⟩ := s
  dsimp only at *
  clear hyes e1 e2 hs f1 f5
  have ll : ∀ n : Int, (le 4 n).length = 4 := fun n => le_len 4 n
  have m1 := ll (v.toNat : Int)
  have m2 := ll (k.toNat : Int)
  have m3 := ll ix
  have t1 : x1.take 32 = x1 := List.take_of_length_le (by omega)
  have t2 : x2.take 32 = x2 := List.take_of_length_le (by omega)
  have t3 : x3.take 32 = x3 := List.take_of_length_le (by omega)
  have t4 : x4.take 32 = x4 := List.take_of_length_le (by omega)
  have t5 : x5.take 32 = x5 := List.take_of_length_le (by omega)
  have p1 : F31 [.by [UInt8.ofNat 0, UInt8.ofNat 0], .int .u64 (v.toNat : Int), .int .i64 4] = some ([.by ([0, 0] ++ le 4 (v.toNat : Int))], .own 0) := put_x _ (by simp)
  have p2 : F31 [.by ([0, 0] ++ le 4 (v.toNat : Int)), .int .u64 (k.toNat : Int), .int .i64 4] = some ([.by ([0, 0] ++ le 4 (v.toNat : Int) ++ le 4 (k.toNat : Int))], .own 0) := put_x _ (by simp; omega)
  obtain ⟨y1, hy1⟩ : ∃ y, [0, 0] ++ le 4 (v.toNat : Int) = y := ⟨_, rfl⟩
  rw [hy1] at p1 p2 ⊢
  obtain ⟨y2, hy2⟩ : ∃ y, y1 ++ le 4 (k.toNat : Int) = y := ⟨_, rfl⟩
  have hy2l : y2.length = 10 := by rw [← hy2, ← hy1]; simp; omega
  rw [hy2] at p2 ⊢
  have hflat : y2 ++ [x1, x4, x5, x2, x3].flatten = y2 ++ x1 ++ x4 ++ x5 ++ x2 ++ x3 := by simp
  rw [hflat]
  have n2 : (y2 ++ x1).length ≤ 1000 := by rw [List.length_append]; omega
  have n3 : (y2 ++ x1 ++ x4).length ≤ 1000 := by rw [List.length_append, List.length_append]; omega
  have n4 : (y2 ++ x1 ++ x4 ++ x5).length ≤ 1000 := by simp only [List.length_append]; omega
  have n5 : (y2 ++ x1 ++ x4 ++ x5 ++ x2).length ≤ 1000 := by simp only [List.length_append]; omega
  obtain ⟨y3, hy3⟩ : ∃ y, y2 ++ x1 ++ x4 ++ x5 ++ x2 ++ x3 = y := ⟨_, rfl⟩
  have hy3l : y3.length = 170 := by rw [← hy3]; simp only [List.length_append]; omega
  have hwi : IntKind.u64.wrap ix = ix := wrap_u64 (by omega) (by omega)
  have htl : tagM.length = 10 := rfl
  rcases hl2 with hcl0 | hcl0
  · have cz : ((leaf.length : Int) != 0) = false := by rw [hcl0]; rfl
    have cl1 : leaf.length = 0 := hcl0
    have cl : ¬ 0 < (leaf.length : Int) := by omega
    repeat refine St (And.intro h1 <| And.intro cz <| And.intro p1 <| p2) ct19 ?_
    refine AWP.loop (G := { i : Nat // i ≤ sp.length }) (fun i => ⟨[(1, .t (.by leaf)), (2, .t (.by annex)), (3, .ptr 0 0 []), (6, .ptr 1 0 []), (8, .own 2), (9, .own 3), (10, .t (.int .i64 (i.1 : Int)))], [.bx (.t (.st [.st [.int .u32 (v.toNat : Int), .sq 35 (is.map inT), .sq 2 (os.map outT), .int .u32 (k.toNat : Int)], .int .i64 ix, .sq 2 (sp.map outT)])), .bx (.t (.ba 32 (zby 32))), .by (cat valB9 (sp.take i.1)), .by (cat scrB9 (sp.take i.1))]⟩) (fun i => sp.length - i.1) ⟨0, by omega⟩ (Wt (And.intro @List.take_zero.{0} <| @cat_nil) [1, 2, 3, 6, 8, 9, 10] [0, 1, 2, 3]) ?_
    intro ⟨i, hi⟩
    dsimp only
    by_cases hlt : (i : Int) < (sp.length : Int)
    · have hlt' : i < sp.length := by omega
      have hget := out_getD sp i hlt'
      have hct := cat_take valB9 dOut sp i hlt'
      have hcs := cat_take scrB9 dOut sp i hlt'
      have hM := cat_take_le valB9 sp i
      have hN := cat_take_le scrB9 sp i
      have hx := at_cat scrB9 dOut sp i hlt'
      generalize sp.getD i dOut = x at *
      have hxs : (scrB9 x).length = (sizeB x.scr.length).length + x.scr.length := by simp [scrB9]
      have r1 := rput8 (cat valB9 (sp.take i)) x.val (by omega)
      have r2 := rputbytes (cat scrB9 (sp.take i)) x.scr (by omega)
      have hfin : cat valB9 (sp.take i) ++ le 8 (x.val.toNat : Int) = cat valB9 (sp.take (i + 1)) := hct.symm
      have hfin2 : cat scrB9 (sp.take i) ++ sizeB x.scr.length ++ x.scr = cat scrB9 (sp.take (i + 1)) := by rw [hcs]; simp only [scrB9, List.append_assoc]
      repeat refine St (And.intro hlt <| And.intro hlt' <| And.intro hget <| And.intro @outT.eq_def <| And.intro r1 <| r2) ct19 ?_
      exact ⟨⟨i + 1, by omega⟩, (Wt (And.intro hfin <| hfin2) [1, 2, 3, 6, 8, 9, 10] [0, 1, 4, 5]), by simp only; omega⟩
    obtain rfl : i = sp.length := by omega
    rw [show sp.take sp.length = sp from List.take_length]
    by_cases ca0 : annex.length = 0
    · have ca1 : annex.length = 0 := ca0
      have ca : ¬ 0 < (annex.length : Int) := by omega
      have kn : kndM leaf annex = 0 := by unfold kndM; simp [cl1, ca1]
      have q1 : F31 [.by (y3 ++ [UInt8.ofNat 0]), .int .u64 ix, .int .i64 4] = some ([.by (y3 ++ [0] ++ le 4 ix)], .own 0) := put_x _ (by simp; omega)
      have n0 : (y3 ++ [0] ++ le 4 ix).length = 175 := by simp; omega
      have am : annM annex = [] := if_neg (by omega)
      rw [am, List.append_nil]
      have n1 : (y3 ++ [0] ++ le 4 ix).length = 175 := n0
      have lm : leafM leaf = [] := if_neg (by omega)
      rw [lm, List.append_nil]
      have nn3 : (y3 ++ [0] ++ le 4 ix).length ≤ 1000 := by rw [n1]; omega
      rw [kn]
      have q7 : F39 [.str [84, 97, 112, 83, 105, 103, 104, 97, 115, 104], .by (y3 ++ [0] ++ le 4 ix)] = some ([], .t (.ba 32 (tagL tagM (y3 ++ [0] ++ le 4 ix)))) := if_pos ⟨by omega, by simp⟩
      have q8 := tagL_len tagM (y3 ++ [0] ++ le 4 ix)
      rw [hy3]
      generalize tagL tagM (y3 ++ [0] ++ le 4 ix) = res at *
      repeat refine St (And.intro hlt <| And.intro cl <| And.intro ca <| And.intro hwi <| And.intro q1 <| And.intro @add_21 <| And.intro @add_01 <| And.intro hy3l <| And.intro h2 <| And.intro g4 <| And.intro g5 <| And.intro p1 <| And.intro p2 <| And.intro t1 <| And.intro t2 <| And.intro t3 <| And.intro t4 <| And.intro t5 <| And.intro l1 <| And.intro l2 <| And.intro l3 <| And.intro l4 <| And.intro l5 <| And.intro n2 <| And.intro n3 <| And.intro n4 <| And.intro n5 <| And.intro hy2l <| And.intro hy3 <| And.intro @u32u64 <| And.intro n1 <| And.intro q7 <| q8) ct19 ?_
      exact AWP.ret (Fin trivial [] [])
    · have ca1 : 0 < annex.length := by omega
      have ca : 0 < (annex.length : Int) := by omega
      have kn : kndM leaf annex = 1 := by unfold kndM; simp [cl1, ca1]
      have q1 : F31 [.by (y3 ++ [UInt8.ofNat 1]), .int .u64 ix, .int .i64 4] = some ([.by (y3 ++ [1] ++ le 4 ix)], .own 0) := put_x _ (by simp; omega)
      have n0 : (y3 ++ [1] ++ le 4 ix).length = 175 := by simp; omega
      have hsb := sizeB_len (annex.length : Int)
      have q2 : F34 [.by [], .by annex] = some ([.by (sizeB annex.length ++ annex)], .own 0) := by
        have h0 : ([] : List UInt8).length = 0 := rfl
        have := rputbytes [] annex (by rw [h0]; omega)
        rw [List.nil_append] at this; exact this
      have q3 : F32 [.by (sizeB annex.length ++ annex)] = some ([], .t (.ba 32 (shaL (sizeB annex.length ++ annex)))) := refsum_c (by simp; omega)
      have q4 := shaL_len (sizeB annex.length ++ annex)
      have am : annM annex = shaL (sizeB annex.length ++ annex) := if_pos (by omega)
      rw [am]
      generalize shaL (sizeB annex.length ++ annex) = a1 at *
      have q5 : a1.take 32 = a1 := List.take_of_length_le (by omega)
      have n1 : (y3 ++ [1] ++ le 4 ix ++ a1).length = 207 := by rw [List.length_append]; omega
      have lm : leafM leaf = [] := if_neg (by omega)
      rw [lm, List.append_nil]
      have nn3 : (y3 ++ [1] ++ le 4 ix ++ a1).length ≤ 1000 := by rw [n1]; omega
      rw [kn]
      have q7 : F39 [.str [84, 97, 112, 83, 105, 103, 104, 97, 115, 104], .by (y3 ++ [1] ++ le 4 ix ++ a1)] = some ([], .t (.ba 32 (tagL tagM (y3 ++ [1] ++ le 4 ix ++ a1)))) := if_pos ⟨by omega, by simp⟩
      have q8 := tagL_len tagM (y3 ++ [1] ++ le 4 ix ++ a1)
      rw [hy3]
      generalize tagL tagM (y3 ++ [1] ++ le 4 ix ++ a1) = res at *
      repeat refine St (And.intro hlt <| And.intro cl <| And.intro ca <| And.intro hwi <| And.intro q1 <| And.intro @add_21 <| And.intro @add_01 <| And.intro hy3l <| And.intro h2 <| And.intro g4 <| And.intro g5 <| And.intro p1 <| And.intro p2 <| And.intro t1 <| And.intro t2 <| And.intro t3 <| And.intro t4 <| And.intro t5 <| And.intro l1 <| And.intro l2 <| And.intro l3 <| And.intro l4 <| And.intro l5 <| And.intro n2 <| And.intro n3 <| And.intro n4 <| And.intro n5 <| And.intro hy2l <| And.intro hy3 <| And.intro @u32u64 <| And.intro q2 <| And.intro q3 <| And.intro q4 <| And.intro q5 <| And.intro n0 <| And.intro n1 <| And.intro q7 <| q8) ct19 ?_
      exact AWP.ret (Fin trivial [] [])
  · have cz : ((leaf.length : Int) != 0) = true := by rw [hcl0]; rfl
    have cz2 : ((leaf.length : Int) != 32) = false := by rw [hcl0]; rfl
    have cl1 : leaf.length = 32 := hcl0
    have cl : 0 < (leaf.length : Int) := by omega
    repeat refine St (And.intro h1 <| And.intro cz <| And.intro cz2 <| And.intro p1 <| p2) ct19 ?_
    refine AWP.loop (G := { i : Nat // i ≤ sp.length }) (fun i => ⟨[(1, .t (.by leaf)), (2, .t (.by annex)), (3, .ptr 0 0 []), (6, .ptr 1 0 []), (8, .own 2), (9, .own 3), (10, .t (.int .i64 (i.1 : Int)))], [.bx (.t (.st [.st [.int .u32 (v.toNat : Int), .sq 35 (is.map inT), .sq 2 (os.map outT), .int .u32 (k.toNat : Int)], .int .i64 ix, .sq 2 (sp.map outT)])), .bx (.t (.ba 32 (zby 32))), .by (cat valB9 (sp.take i.1)), .by (cat scrB9 (sp.take i.1))]⟩) (fun i => sp.length - i.1) ⟨0, by omega⟩ (Wt (And.intro @List.take_zero.{0} <| @cat_nil) [1, 2, 3, 6, 8, 9, 10] [0, 1, 2, 3]) ?_
    intro ⟨i, hi⟩
    dsimp only
    by_cases hlt : (i : Int) < (sp.length : Int)
    · have hlt' : i < sp.length := by omega
      have hget := out_getD sp i hlt'
      have hct := cat_take valB9 dOut sp i hlt'
      have hcs := cat_take scrB9 dOut sp i hlt'
      have hM := cat_take_le valB9 sp i
      have hN := cat_take_le scrB9 sp i
      have hx := at_cat scrB9 dOut sp i hlt'
      generalize sp.getD i dOut = x at *
      have hxs : (scrB9 x).length = (sizeB x.scr.length).length + x.scr.length := by simp [scrB9]
      have r1 := rput8 (cat valB9 (sp.take i)) x.val (by omega)
      have r2 := rputbytes (cat scrB9 (sp.take i)) x.scr (by omega)
      have hfin : cat valB9 (sp.take i) ++ le 8 (x.val.toNat : Int) = cat valB9 (sp.take (i + 1)) := hct.symm
      have hfin2 : cat scrB9 (sp.take i) ++ sizeB x.scr.length ++ x.scr = cat scrB9 (sp.take (i + 1)) := by rw [hcs]; simp only [scrB9, List.append_assoc]
      repeat refine St (And.intro hlt <| And.intro hlt' <| And.intro hget <| And.intro @outT.eq_def <| And.intro r1 <| r2) ct19 ?_
      exact ⟨⟨i + 1, by omega⟩, (Wt (And.intro hfin <| hfin2) [1, 2, 3, 6, 8, 9, 10] [0, 1, 4, 5]), by simp only; omega⟩
    obtain rfl : i = sp.length := by omega
    rw [show sp.take sp.length = sp from List.take_length]
    by_cases ca0 : annex.length = 0
    · have ca1 : annex.length = 0 := ca0
      have ca : ¬ 0 < (annex.length : Int) := by omega
      have kn : kndM leaf annex = 2 := by unfold kndM; simp [cl1, ca1]
      have q1 : F31 [.by (y3 ++ [UInt8.ofNat 2]), .int .u64 ix, .int .i64 4] = some ([.by (y3 ++ [2] ++ le 4 ix)], .own 0) := put_x _ (by simp; omega)
      have n0 : (y3 ++ [2] ++ le 4 ix).length = 175 := by simp; omega
      have am : annM annex = [] := if_neg (by omega)
      rw [am, List.append_nil]
      have n1 : (y3 ++ [2] ++ le 4 ix).length = 175 := n0
      have lm : leafM leaf = leaf ++ [0, 255, 255, 255, 255] := if_pos (by omega)
      rw [lm]
      have ap : y3 ++ [2] ++ le 4 ix ++ leaf ++ [UInt8.ofNat 0, UInt8.ofNat 255, UInt8.ofNat 255, UInt8.ofNat 255, UInt8.ofNat 255] = y3 ++ [2] ++ le 4 ix ++ (leaf ++ [0, 255, 255, 255, 255]) := by simp only [List.append_assoc]; rfl
      have nn2 : (y3 ++ [2] ++ le 4 ix ++ leaf).length ≤ 1000 := by rw [List.length_append, n1]; omega
      have nn3 : (y3 ++ [2] ++ le 4 ix ++ (leaf ++ [0, 255, 255, 255, 255])).length ≤ 1000 := by rw [List.length_append, n1]; simp; omega
      rw [kn]
      have q7 : F39 [.str [84, 97, 112, 83, 105, 103, 104, 97, 115, 104], .by (y3 ++ [2] ++ le 4 ix ++ (leaf ++ [0, 255, 255, 255, 255]))] = some ([], .t (.ba 32 (tagL tagM (y3 ++ [2] ++ le 4 ix ++ (leaf ++ [0, 255, 255, 255, 255]))))) := if_pos ⟨by omega, by simp⟩
      have q8 := tagL_len tagM (y3 ++ [2] ++ le 4 ix ++ (leaf ++ [0, 255, 255, 255, 255]))
      rw [hy3]
      generalize tagL tagM (y3 ++ [2] ++ le 4 ix ++ (leaf ++ [0, 255, 255, 255, 255])) = res at *
      repeat refine St (And.intro hlt <| And.intro cl <| And.intro ca <| And.intro hwi <| And.intro q1 <| And.intro @add_21 <| And.intro @add_01 <| And.intro hy3l <| And.intro h2 <| And.intro g4 <| And.intro g5 <| And.intro p1 <| And.intro p2 <| And.intro t1 <| And.intro t2 <| And.intro t3 <| And.intro t4 <| And.intro t5 <| And.intro l1 <| And.intro l2 <| And.intro l3 <| And.intro l4 <| And.intro l5 <| And.intro n2 <| And.intro n3 <| And.intro n4 <| And.intro n5 <| And.intro hy2l <| And.intro hy3 <| And.intro @u32u64 <| And.intro n1 <| And.intro ap <| And.intro nn2 <| And.intro q7 <| q8) ct19 ?_
      exact AWP.ret (Fin trivial [] [])
    · have ca1 : 0 < annex.length := by omega
      have ca : 0 < (annex.length : Int) := by omega
      have kn : kndM leaf annex = 3 := by unfold kndM; simp [cl1, ca1]
      have q1 : F31 [.by (y3 ++ [UInt8.ofNat 3]), .int .u64 ix, .int .i64 4] = some ([.by (y3 ++ [3] ++ le 4 ix)], .own 0) := put_x _ (by simp; omega)
      have n0 : (y3 ++ [3] ++ le 4 ix).length = 175 := by simp; omega
      have hsb := sizeB_len (annex.length : Int)
      have q2 : F34 [.by [], .by annex] = some ([.by (sizeB annex.length ++ annex)], .own 0) := by
        have h0 : ([] : List UInt8).length = 0 := rfl
        have := rputbytes [] annex (by rw [h0]; omega)
        rw [List.nil_append] at this; exact this
      have q3 : F32 [.by (sizeB annex.length ++ annex)] = some ([], .t (.ba 32 (shaL (sizeB annex.length ++ annex)))) := refsum_c (by simp; omega)
      have q4 := shaL_len (sizeB annex.length ++ annex)
      have am : annM annex = shaL (sizeB annex.length ++ annex) := if_pos (by omega)
      rw [am]
      generalize shaL (sizeB annex.length ++ annex) = a1 at *
      have q5 : a1.take 32 = a1 := List.take_of_length_le (by omega)
      have n1 : (y3 ++ [3] ++ le 4 ix ++ a1).length = 207 := by rw [List.length_append]; omega
      have lm : leafM leaf = leaf ++ [0, 255, 255, 255, 255] := if_pos (by omega)
      rw [lm]
      have ap : y3 ++ [3] ++ le 4 ix ++ a1 ++ leaf ++ [UInt8.ofNat 0, UInt8.ofNat 255, UInt8.ofNat 255, UInt8.ofNat 255, UInt8.ofNat 255] = y3 ++ [3] ++ le 4 ix ++ a1 ++ (leaf ++ [0, 255, 255, 255, 255]) := by simp only [List.append_assoc]; rfl
      have nn2 : (y3 ++ [3] ++ le 4 ix ++ a1 ++ leaf).length ≤ 1000 := by rw [List.length_append, n1]; omega
      have nn3 : (y3 ++ [3] ++ le 4 ix ++ a1 ++ (leaf ++ [0, 255, 255, 255, 255])).length ≤ 1000 := by rw [List.length_append, n1]; simp; omega
      rw [kn]
      have q7 : F39 [.str [84, 97, 112, 83, 105, 103, 104, 97, 115, 104], .by (y3 ++ [3] ++ le 4 ix ++ a1 ++ (leaf ++ [0, 255, 255, 255, 255]))] = some ([], .t (.ba 32 (tagL tagM (y3 ++ [3] ++ le 4 ix ++ a1 ++ (leaf ++ [0, 255, 255, 255, 255]))))) := if_pos ⟨by omega, by simp⟩
      have q8 := tagL_len tagM (y3 ++ [3] ++ le 4 ix ++ a1 ++ (leaf ++ [0, 255, 255, 255, 255]))
      rw [hy3]
      generalize tagL tagM (y3 ++ [3] ++ le 4 ix ++ a1 ++ (leaf ++ [0, 255, 255, 255, 255])) = res at *
      repeat refine St (And.intro hlt <| And.intro cl <| And.intro ca <| And.intro hwi <| And.intro q1 <| And.intro @add_21 <| And.intro @add_01 <| And.intro hy3l <| And.intro h2 <| And.intro g4 <| And.intro g5 <| And.intro p1 <| And.intro p2 <| And.intro t1 <| And.intro t2 <| And.intro t3 <| And.intro t4 <| And.intro t5 <| And.intro l1 <| And.intro l2 <| And.intro l3 <| And.intro l4 <| And.intro l5 <| And.intro n2 <| And.intro n3 <| And.intro n4 <| And.intro n5 <| And.intro hy2l <| And.intro hy3 <| And.intro @u32u64 <| And.intro q2 <| And.intro q3 <| And.intro q4 <| And.intro q5 <| And.intro n0 <| And.intro n1 <| And.intro ap <| And.intro nn2 <| And.intro q7 <| q8) ct19 ?_
      exact AWP.ret (Fin trivial [] [])

theorem rmsg_d (s : TSp) {leaf annex : List UInt8} (h1 : leaf.length ≤ 1000000) (h2 : annex.length ≤ 1000000) : F19 [spT s, .by leaf, .by annex] = some ([], .tup [.t (.ba 32 (msgM s leaf annex)), .t (.int .i64 (msgE s leaf))]) := by
  simp only [F19, inv_of spT_inj]; exact if_pos ⟨h1, h2⟩

def F10 : Fun
  | [.sq 1 xs] => match asBys xs with
    | some l => if l.length ≤ 100000000 then some ([], .tup [.t (.sq 1 ((annR l).map .by)), .t (.by (annA l))]) else none
    | none => none
  | _ => none

theorem ct10 : CT [] [0, 2, 3, 4, 27] [(4, [⟨0, [0], [], []⟩, ⟨0, [4], [], []⟩, ⟨0, [30], [], []⟩, ⟨1, [29, 31], [], []⟩, ⟨0, [0], [], []⟩, ⟨0, [4], [], []⟩, ⟨0, [34], [], []⟩, ⟨1, [33, 35], [], []⟩, ⟨1, [36], [7], []⟩, ⟨0, [32], [3], []⟩, ⟨0, [37], [3, 7, 8], []⟩])] := ⟨GClOk.nil _⟩

set_option maxHeartbeats 4000000 in
theorem c10 : ACon Try.prog 10 F10 := by
  refine aconc E_ok (rs := [.tmp 2 22, .tmp 3 24]) Try.func10 rfl Try.ntmps10 (by kernel_rfl) rfl (by decide) F10 (np := 1) ?_ ?_
  · intro ts h; unfold F10; split <;> first | rfl | (simp at h; done)
  intro ts H r hF hwf
  unfold F10 at hF
  split at hF <;> try (cases hF; done)
  rename_i xs
  split at hF <;> try (cases hF; done)
  rename_i l hl
  split at hF
  case isFalse => cases hF
  rename_i hb1
  cases hF
  obtain rfl := asBys_inv hl
  have hget := map_getD l (l.length - 1)
  have hc := isAnn_cases l
  have hA : annA l = if isAnn l = true then lastW l else [] := rfl
  have hR : annR l = if isAnn l = true then l.take (l.length - 1) else l := rfl
  have hlw : lastW l = l.getD (l.length - 1) [] := rfl
  rw [← hlw] at hget
  generalize isAnn l = an at *
  generalize lastW l = w at *
  generalize annA l = A at *
  generalize annR l = R at *
  clear hlw
  have hw : ∀ _ : 2 ≤ l.length, IntKind.i64.wrap ((l.length : Int) - 1) = ((l.length - 1 : Nat) : Int) := fun h => by rw [wrap_i64 (by omega) (by omega)]; omega
  obtain ⟨n1, hn1⟩ : ∃ n1, l.length - 1 = n1 := ⟨_, rfl⟩
  rw [hn1] at hw hget hR
  rcases hc with ⟨h1, rfl⟩ | ⟨h1, h2, rfl⟩ | ⟨h1, h2, h3, rfl⟩ | ⟨h1, h2, h3, rfl⟩
  · have hR' : R = l := by rw [hR]; exact if_neg (by simp)
    have hA' : A = [] := by rw [hA]; exact if_neg (by simp)
    subst hR'
    subst hA'
    have k1 : (R.length : Int) < 2 := by omega
    repeat refine St k1 ct10 ?_
    exact AWP.ret (Fin trivial [] [])
  · have hR' : R = l := by rw [hR]; exact if_neg (by simp)
    have hA' : A = [] := by rw [hA]; exact if_neg (by simp)
    subst hR'
    subst hA'
    have k2 : ¬ (R.length : Int) < 2 := by omega
    have k3 : n1 < R.length := by omega
    have k4 : (n1 : Int) < (R.length : Int) := by omega
    have k5 := hget k3
    have k6 := hw h1
    have k7 : ((w.length : Int) == 0) = true := by rw [beq_iff_eq]; omega
    repeat refine St (And.intro k2 <| And.intro k3 <| And.intro k4 <| And.intro k5 <| And.intro k6 <| k7) ct10 ?_
    exact AWP.ret (Fin trivial [] [])
  · have hR' : R = l := by rw [hR]; exact if_neg (by simp)
    have hA' : A = [] := by rw [hA]; exact if_neg (by simp)
    subst hR'
    subst hA'
    have k2 : ¬ (R.length : Int) < 2 := by omega
    have k3 : n1 < R.length := by omega
    have k4 : (n1 : Int) < (R.length : Int) := by omega
    have k5 := hget k3
    have k6 := hw h1
    have k7 : ((w.length : Int) == 0) = false := by rw [beq_eq_false_iff_ne]; omega
    have k9 : 0 < (w.length : Int) := by omega
    have k8 : (((w.getD 0 0).toNat : Int) != 80) = true := by
      rw [bne_iff_ne]
      intro hh
      exact h3 (UInt8.toNat_inj.1 (by show (w.getD 0 0).toNat = 80; omega))
    repeat refine St (And.intro k2 <| And.intro k3 <| And.intro k4 <| And.intro k5 <| And.intro k6 <| And.intro k7 <| And.intro k8 <| And.intro k9 <| h2) ct10 ?_
    exact AWP.ret (Fin trivial [] [])
  · have hR' : R = l.take n1 := by rw [hR]; exact if_pos rfl
    have hA' : A = w := by rw [hA]; exact if_pos rfl
    subst hA'
    have k2 : ¬ (l.length : Int) < 2 := by omega
    have k3 : n1 < l.length := by omega
    have k4 : (n1 : Int) < (l.length : Int) := by omega
    have k5 := hget k3
    have k6 := hw h1
    have k7 : ((A.length : Int) == 0) = false := by rw [beq_eq_false_iff_ne]; omega
    have k0 : 0 < (A.length : Int) := by omega
    have k8 : (((A.getD 0 0).toNat : Int) != 80) = false := by rw [h3]; rfl
    have k9 : (l.map T.by).take n1 = R.map T.by := by rw [hR', List.map_take]
    have k10 : n1 ≤ l.length := by omega
    repeat refine St (And.intro k2 <| And.intro k3 <| And.intro k4 <| And.intro k5 <| And.intro k6 <| And.intro k7 <| And.intro k8 <| And.intro k9 <| And.intro k10 <| And.intro k0 <| h2) ct10 ?_
    exact AWP.ret (Fin trivial [] [])

theorem rannex_c {l : List (List UInt8)} (h1 : l.length ≤ 100000000) : F10 [.sq 1 (l.map .by)] = some ([], .tup [.t (.sq 1 ((annR l).map .by)), .t (.by (annA l))]) := by
  simp only [F10, asBys_map]; exact if_pos h1

end Go.Fw

end
