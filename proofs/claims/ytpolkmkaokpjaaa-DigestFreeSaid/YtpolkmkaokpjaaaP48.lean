/- The abstract machine, and the contracts of the code: part 48. -/
import Derived.Test.YtpolkmkaokpjaaaP47

section
/- digest: messages. -/
namespace Go.Fw
open Go Go.Proofs
set_option linter.unusedVariables false
set_option linter.unusedSimpArgs false

def kndM (leaf annex : List UInt8) : UInt8 := if 0 < leaf.length then (if 0 < annex.length then 3 else 2) else (if 0 < annex.length then 1 else 0)
def tagM : List UInt8 := [84, 97, 112, 83, 105, 103, 104, 97, 115, 104]
def headM (s : TSp) : List UInt8 := [0, 0] ++ le 4 (s.tx.ver.toNat : Int) ++ le 4 (s.tx.lock.toNat : Int)
def hshM (s : TSp) : List (List UInt8) := [refsL s.tx.ins, valsL s.spent, scrsL s.spent, seqsL s.tx.ins, outsL s.tx.outs]
def annM (annex : List UInt8) : List UInt8 := if 0 < annex.length then shaL (sizeB annex.length ++ annex) else []
def leafM (leaf : List UInt8) : List UInt8 := if 0 < leaf.length then leaf ++ [0, 255, 255, 255, 255] else []
def msgL9 (s : TSp) (leaf annex : List UInt8) : List UInt8 := headM s ++ (hshM s).flatten ++ [kndM leaf annex] ++ le 4 s.idx ++ annM annex ++ leafM leaf
def okM (s : TSp) (leaf : List UInt8) : Bool := okS s && (decide (leaf.length = 0) || decide (leaf.length = 32))
noncomputable def msgM (s : TSp) (leaf annex : List UInt8) : List UInt8 := if okM s leaf = true then tagL tagM (msgL9 s leaf annex) else zby 32
def msgE (s : TSp) (leaf : List UInt8) : Int := if okM s leaf = true then 0 else 1
theorem valsL_len (l : List TOut) : (valsL l).length = 32 := shaL_len _
theorem scrsL_len (l : List TOut) : (scrsL l).length = 32 := shaL_len _
theorem tagL_len (a b : List UInt8) : (tagL a b).length = 32 := shaL_len _
theorem msgM_len (s : TSp) (leaf annex : List UInt8) : (msgM s leaf annex).length = 32 := by unfold msgM; split; exact tagL_len _ _; rfl
theorem okM_no1 {s : TSp} (leaf : List UInt8) (h : okS s = false) : okM s leaf = false := by unfold okM; rw [h]; rfl
theorem okM_no2 {s : TSp} {leaf : List UInt8} (h0 : leaf.length ≠ 0) (h1 : leaf.length ≠ 32) : okM s leaf = false := by unfold okM; simp [h0, h1]
theorem okM_yes {s : TSp} {leaf : List UInt8} (h : okS s = true) (h0 : leaf.length = 0 ∨ leaf.length = 32) : okM s leaf = true := by
  unfold okM; rw [h]; simp only [Bool.true_and, Bool.or_eq_true, decide_eq_true_eq]; exact h0
theorem okS_cat {s : TSp} (h : okS s = true) : (cat tOutB s.spent).length ≤ 100000 := by
  obtain ⟨h1, h2, h3, h4, h5⟩ := okS_ok h
  have h6 := (fits_cat h1).1
  have h7 := cat_len tOutB 1017 s.spent fun x hx => by
    have h8 := List.all_eq_true.1 h5 x hx
    have h9 : x.scr.length ≤ 1000 := by simpa [scrOk] using h8
    have h10 := sizeB_len (x.scr.length : Int)
    simp only [tOutB, List.length_append, le_len]; omega
  have h8 : s.spent.length * 1017 ≤ 20 * 1017 := Nat.mul_le_mul_right _ (by omega)
  omega
theorem or_02 : abits .or .u8 0 2 = 2 := by decide +kernel
theorem or_01 : abits .or .u8 0 1 = 1 := by decide +kernel
theorem or_21 : abits .or .u8 2 1 = 3 := by decide +kernel
theorem put32_b {b : List UInt8} (n : Int) (h : b.length ≤ 1000000) : F29 [.by b, .int .u32 n] = some ([.by (b ++ le 4 n)], .own 0) := if_pos (by omega)
theorem le_ff : le 4 4294967295 = [255, 255, 255, 255] := by decide +kernel

noncomputable def F18 : Fun
  | [y, .by leaf, .by annex] => match inv spT y with
    | some s => if leaf.length ≤ 1000000 ∧ annex.length ≤ 1000000 then some ([], .tup [.t (.ba 32 (msgM s leaf annex)), .t (.int .i64 (msgE s leaf))]) else none
    | none => none
  | _ => none

theorem ct18 : CT [(15, ⟨[false], treeG F15⟩), (20, ⟨[false], treeG F20⟩), (29, ⟨[false, false], treeG F29⟩), (35, ⟨[false], treeG F35⟩), (36, ⟨[false], treeG F36⟩), (37, ⟨[false, false], treeG F37⟩), (38, ⟨[false, false], treeG F38⟩)] [0, 1, 2, 3, 6, 7, 8, 9, 10, 11, 13, 14, 15, 28, 57, 58, 59, 67, 72, 85, 94] [(17, [⟨0, [8], [], []⟩, ⟨0, [14], [], []⟩, ⟨1, [76], [], []⟩, ⟨2, [75, 77], [2], [0]⟩, ⟨0, [3], [], []⟩, ⟨0, [79], [], [0]⟩, ⟨0, [80], [], []⟩, ⟨1, [78, 81], [2, 3], []⟩, ⟨0, [82], [2, 3, 7], []⟩])] := ⟨(.cons c15.g (.cons c20.g (.cons c29.g (.cons c35.g (.cons c36.g (.cons c37.g (.cons c38.g (.nil _))))))))⟩

set_option maxRecDepth 20000 in
set_option maxHeartbeats 8000000 in
theorem c18 : ACon Try.prog 18 F18 := by
  refine aconc E_ok (rs := [.cell 6 35, .tmp 7 36]) Try.func18 rfl Try.ntmps18 (by kernel_rfl) rfl (by decide) F18 (np := 3) ?_ ?_
  · intro ts h; unfold F18; split <;> first | rfl | (simp at h; done)
  intro ts H r hF hwf
  unfold F18 at hF
  split at hF <;> try (cases hF; done)
  rename_i y leaf annex
  split at hF <;> try (cases hF; done)
  rename_i s hs
  split at hF
  case isFalse => cases hF
  rename_i hb
  cases hF
  obtain ⟨hb1, hb2⟩ := hb
  obtain rfl := inv_inv hs
  have h1 := checks_d s
  rcases chkS_two s with ⟨e1, e2⟩ | ⟨e1, e2⟩
  case inr =>
    have hno := okM_no1 leaf e2
    rw [show msgM s leaf annex = zby 32 from if_neg (by rw [hno]; simp), show msgE s leaf = 1 from if_neg (by rw [hno]; simp)]
    rw [e1] at h1
    rw [spT_st] at h1 ⊢
    repeat refine St h1 ct18 ?_
    exact AWP.ret (Fin trivial [] [])
  rw [e1] at h1
  by_cases hl : leaf.length ≠ 0 ∧ leaf.length ≠ 32
  · have hno : okM s leaf = false := okM_no2 hl.1 hl.2
    rw [show msgM s leaf annex = zby 32 from if_neg (by rw [hno]; simp), show msgE s leaf = 1 from if_neg (by rw [hno]; simp)]
    have c1 : ((leaf.length : Int) != 0) = true := by rw [bne_iff_ne]; omega
    have c2 : ((leaf.length : Int) != 32) = true := by rw [bne_iff_ne]; omega
    rw [spT_st] at h1 ⊢
    repeat refine St (And.intro h1 <| And.intro c1 <| c2) ct18 ?_
    exact AWP.ret (Fin trivial [] [])
  have hl2 : leaf.length = 0 ∨ leaf.length = 32 := by omega
  have hyes := okM_yes e2 hl2
  rw [show msgM s leaf annex = tagL tagM (msgL9 s leaf annex) from if_pos hyes, show msgE s leaf = 0 from if_pos hyes]
  obtain ⟨f1, f2, f3, f4, f5⟩ := okS_ok e2
  obtain ⟨b1, b2, b3⟩ := fits_cat f1
  have hcat := okS_cat e2
  have h2 := parts_d (t := s.tx) (by omega) (by omega)
  have h3 := spent_d (l := s.spent) (by omega)
  have l1 := refsL_len s.tx.ins
  have l2 := seqsL_len s.tx.ins
  have l3 := outsL_len s.tx.outs
  have l4 := valsL_len s.spent
  have l5 := scrsL_len s.spent
  rw [partT_eq, txT_st] at h2
  rw [spT_st] at h1 ⊢
  unfold msgL9 headM hshM
  generalize refsL s.tx.ins = x1 at *
  generalize seqsL s.tx.ins = x2 at *
  generalize outsL s.tx.outs = x3 at *
  generalize valsL s.spent = x4 at *
  generalize scrsL s.spent = x5 at *
  obtain ⟨⟨v, is, os, k⟩, ix, sp⟩ := s
  dsimp only at *
  clear hyes e1 e2 hs f1 f5
  have ll : ∀ n : Int, (le 4 n).length = 4 := fun n => le_len 4 n
  have m1 := ll (v.toNat : Int)
  have m2 := ll (k.toNat : Int)
  have m3 := ll ix
  have z0 : ([UInt8.ofNat 0, UInt8.ofNat 0] : List UInt8) = [0, 0] := rfl
  have p1 : F29 [.by [UInt8.ofNat 0, UInt8.ofNat 0], .int .u32 (v.toNat : Int)] = some ([.by ([0, 0] ++ le 4 (v.toNat : Int))], .own 0) := put32_b _ (by simp)
  have p2 : F29 [.by ([0, 0] ++ le 4 (v.toNat : Int)), .int .u32 (k.toNat : Int)] = some ([.by ([0, 0] ++ le 4 (v.toNat : Int) ++ le 4 (k.toNat : Int))], .own 0) := put32_b _ (by simp; omega)
  obtain ⟨y1, hy1⟩ : ∃ y, [0, 0] ++ le 4 (v.toNat : Int) = y := ⟨_, rfl⟩
  rw [hy1] at p1 p2 ⊢
  obtain ⟨y2, hy2⟩ : ∃ y, y1 ++ le 4 (k.toNat : Int) = y := ⟨_, rfl⟩
  have hy2l : y2.length = 10 := by rw [← hy2, ← hy1]; simp; omega
  rw [hy2] at p2 ⊢
  obtain ⟨hs, hhs⟩ : ∃ hs, [x1, x4, x5, x2, x3] = hs := ⟨_, rfl⟩
  have hmap : [T.ba 32 x1, T.ba 32 x4, T.ba 32 x5, T.ba 32 x2, T.ba 32 x3] = hs.map (T.ba 32) := by rw [← hhs]; rfl
  have hhl : hs.length = 5 := by rw [← hhs]; rfl
  have hh32 : ∀ i, i < 5 → (hs.getD i []).length = 32 := by
    intro i hi
    rw [← hhs]
    match i, hi with
    | 0, _ => exact l1
    | 1, _ => exact l4
    | 2, _ => exact l5
    | 3, _ => exact l2
    | 4, _ => exact l3
  have hfl : (hs.flatten).length = 160 := by rw [← hhs]; simp; omega
  rw [hhs]
  rcases hl2 with hcl0 | hcl0
  · have cz : ((leaf.length : Int) != 0) = false := by rw [hcl0]; rfl
    have cl1 : leaf.length = 0 := hcl0
    have cl : ¬ 0 < (leaf.length : Int) := by omega
    repeat refine St (And.intro h1 <| And.intro cz <| And.intro h2 <| And.intro h3 <| And.intro p1 <| And.intro p2 <| And.intro l1 <| And.intro l2 <| And.intro l3 <| And.intro l4 <| And.intro l5 <| hmap) ct18 ?_
    refine AWP.loop (G := { i : Nat // i ≤ 5 }) (fun i => ⟨[(1, .t (.by leaf)), (2, .t (.by annex)), (3, .ptr 0 0 []), (6, .ptr 1 0 []), (8, .own 2), (57, .t (.ar 5 32 (hs.map (T.ba 32)))), (58, .t (.int .i64 (i.1 : Int)))], [.bx (.t (.st [.st [.int .u32 (v.toNat : Int), .sq 35 (is.map inT), .sq 2 (os.map outT), .int .u32 (k.toNat : Int)], .int .i64 ix, .sq 2 (sp.map outT)])), .bx (.t (.ba 32 (zby 32))), .by (y2 ++ (hs.take i.1).flatten)]⟩) (fun i => 5 - i.1) ⟨0, by omega⟩ (Wt (And.intro @List.take_zero.{0} <| And.intro @List.flatten_nil.{0} <| And.intro @List.append_nil.{0} <| hmap) [1, 2, 3, 6, 8, 57, 58] [0, 1, 4]) ?_
    intro ⟨i, hi⟩
    dsimp only
    by_cases hlt : (i : Int) < 5
    · have hlt' : i < 5 := by omega
      have hltl : i < hs.length := by omega
      have hg : (hs.map (T.ba 32)).getD i default = .ba 32 (hs.getD i []) := by simp [hltl]
      have h32 := hh32 i hlt'
      have htk := take_getDx [] hs i hltl
      have hfs : ((hs.take i).flatten).length + ((hs.drop i).flatten).length = 160 := by rw [← List.length_append, ← List.flatten_append, List.take_append_drop]; exact hfl
      generalize hs.getD i [] = x at *
      have hxt : x.take 32 = x := List.take_of_length_le (by omega)
      have hfx : y2 ++ (hs.take i).flatten ++ x = y2 ++ (hs.take (i + 1)).flatten := by rw [htk]; simp
      have hyl : (y2 ++ (hs.take i).flatten).length ≤ 1000 := by rw [List.length_append]; omega
      repeat refine St (And.intro hlt <| And.intro hlt' <| And.intro hltl <| And.intro hhl <| And.intro hg <| And.intro h32 <| And.intro hxt <| And.intro hyl <| @T.size.eq_def) ct18 ?_
      exact ⟨⟨i + 1, by omega⟩, (Wt hfx [1, 2, 3, 6, 8, 57, 58] [0, 1, 4]), by simp only; omega⟩
    obtain rfl : i = 5 := by omega
    rw [show hs.take 5 = hs from List.take_of_length_le (by omega)]
    obtain ⟨y3, hy3⟩ : ∃ y, y2 ++ hs.flatten = y := ⟨_, rfl⟩
    have hy3l : y3.length = 170 := by rw [← hy3, List.length_append]; omega
    rw [hy3]
    have hwi : IntKind.u32.wrap ix = ix := wrap_u32 (by omega) (by omega)
    have htl : tagM.length = 10 := rfl
    by_cases ca0 : annex.length = 0
    · have ca1 : annex.length = 0 := ca0
      have ca : ¬ 0 < (annex.length : Int) := by omega
      have kn : kndM leaf annex = 0 := by unfold kndM; simp [cl1, ca1]
      have q1 : F29 [.by (y3 ++ [UInt8.ofNat 0]), .int .u32 ix] = some ([.by (y3 ++ [0] ++ le 4 ix)], .own 0) := put32_b _ (by simp; omega)
      have n0 : (y3 ++ [0] ++ le 4 ix).length = 175 := by simp; omega
      have am : annM annex = [] := if_neg (by omega)
      rw [am, List.append_nil]
      have n1 : (y3 ++ [0] ++ le 4 ix).length = 175 := n0
      have lm : leafM leaf = [] := if_neg (by omega)
      rw [lm, List.append_nil]
      have n3 : (y3 ++ [0] ++ le 4 ix).length ≤ 1000 := by rw [n1]; omega
      rw [kn]
      have q7 : F38 [.str [84, 97, 112, 83, 105, 103, 104, 97, 115, 104], .by (y3 ++ [0] ++ le 4 ix)] = some ([], .t (.ba 32 (tagL tagM (y3 ++ [0] ++ le 4 ix)))) := if_pos ⟨by omega, by simp⟩
      have q8 := tagL_len tagM (y3 ++ [0] ++ le 4 ix)
      generalize tagL tagM (y3 ++ [0] ++ le 4 ix) = res at *
      repeat refine St (And.intro hlt <| And.intro cl <| And.intro ca <| And.intro hwi <| And.intro q1 <| And.intro @or_02 <| And.intro @or_01 <| And.intro @or_21 <| And.intro hy3l <| And.intro n1 <| And.intro q7 <| q8) ct18 ?_
      exact AWP.ret (Fin trivial [] [])
    · have ca1 : 0 < annex.length := by omega
      have ca : 0 < (annex.length : Int) := by omega
      have kn : kndM leaf annex = 1 := by unfold kndM; simp [cl1, ca1]
      have q1 : F29 [.by (y3 ++ [UInt8.ofNat 1]), .int .u32 ix] = some ([.by (y3 ++ [1] ++ le 4 ix)], .own 0) := put32_b _ (by simp; omega)
      have n0 : (y3 ++ [1] ++ le 4 ix).length = 175 := by simp; omega
      have q2 := putby_e (x := annex) (by omega)
      have hsb := sizeB_len (annex.length : Int)
      have q3 : F36 [.by (sizeB annex.length ++ annex)] = some ([], .t (.ba 32 (shaL (sizeB annex.length ++ annex)))) := shasum_c (by simp; omega)
      have q4 := shaL_len (sizeB annex.length ++ annex)
      have am : annM annex = shaL (sizeB annex.length ++ annex) := if_pos (by omega)
      rw [am]
      generalize shaL (sizeB annex.length ++ annex) = a1 at *
      have q5 : a1.take 32 = a1 := List.take_of_length_le (by omega)
      have n1 : (y3 ++ [1] ++ le 4 ix ++ a1).length = 207 := by rw [List.length_append]; omega
      have lm : leafM leaf = [] := if_neg (by omega)
      rw [lm, List.append_nil]
      have n3 : (y3 ++ [1] ++ le 4 ix ++ a1).length ≤ 1000 := by rw [n1]; omega
      rw [kn]
      have q7 : F38 [.str [84, 97, 112, 83, 105, 103, 104, 97, 115, 104], .by (y3 ++ [1] ++ le 4 ix ++ a1)] = some ([], .t (.ba 32 (tagL tagM (y3 ++ [1] ++ le 4 ix ++ a1)))) := if_pos ⟨by omega, by simp⟩
      have q8 := tagL_len tagM (y3 ++ [1] ++ le 4 ix ++ a1)
      generalize tagL tagM (y3 ++ [1] ++ le 4 ix ++ a1) = res at *
      repeat refine St (And.intro hlt <| And.intro cl <| And.intro ca <| And.intro hwi <| And.intro q1 <| And.intro @or_02 <| And.intro @or_01 <| And.intro @or_21 <| And.intro hy3l <| And.intro q2 <| And.intro q3 <| And.intro q4 <| And.intro q5 <| And.intro n0 <| And.intro n1 <| And.intro q7 <| q8) ct18 ?_
      exact AWP.ret (Fin trivial [] [])
  · have cz : ((leaf.length : Int) != 0) = true := by rw [hcl0]; rfl
    have cz2 : ((leaf.length : Int) != 32) = false := by rw [hcl0]; rfl
    have cl1 : leaf.length = 32 := hcl0
    have cl : 0 < (leaf.length : Int) := by omega
    repeat refine St (And.intro h1 <| And.intro cz <| And.intro cz2 <| And.intro h2 <| And.intro h3 <| And.intro p1 <| And.intro p2 <| And.intro l1 <| And.intro l2 <| And.intro l3 <| And.intro l4 <| And.intro l5 <| hmap) ct18 ?_
    refine AWP.loop (G := { i : Nat // i ≤ 5 }) (fun i => ⟨[(1, .t (.by leaf)), (2, .t (.by annex)), (3, .ptr 0 0 []), (6, .ptr 1 0 []), (8, .own 2), (57, .t (.ar 5 32 (hs.map (T.ba 32)))), (58, .t (.int .i64 (i.1 : Int)))], [.bx (.t (.st [.st [.int .u32 (v.toNat : Int), .sq 35 (is.map inT), .sq 2 (os.map outT), .int .u32 (k.toNat : Int)], .int .i64 ix, .sq 2 (sp.map outT)])), .bx (.t (.ba 32 (zby 32))), .by (y2 ++ (hs.take i.1).flatten)]⟩) (fun i => 5 - i.1) ⟨0, by omega⟩ (Wt (And.intro @List.take_zero.{0} <| And.intro @List.flatten_nil.{0} <| And.intro @List.append_nil.{0} <| hmap) [1, 2, 3, 6, 8, 57, 58] [0, 1, 4]) ?_
    intro ⟨i, hi⟩
    dsimp only
    by_cases hlt : (i : Int) < 5
    · have hlt' : i < 5 := by omega
      have hltl : i < hs.length := by omega
      have hg : (hs.map (T.ba 32)).getD i default = .ba 32 (hs.getD i []) := by simp [hltl]
      have h32 := hh32 i hlt'
      have htk := take_getDx [] hs i hltl
      have hfs : ((hs.take i).flatten).length + ((hs.drop i).flatten).length = 160 := by rw [← List.length_append, ← List.flatten_append, List.take_append_drop]; exact hfl
      generalize hs.getD i [] = x at *
      have hxt : x.take 32 = x := List.take_of_length_le (by omega)
      have hfx : y2 ++ (hs.take i).flatten ++ x = y2 ++ (hs.take (i + 1)).flatten := by rw [htk]; simp
      have hyl : (y2 ++ (hs.take i).flatten).length ≤ 1000 := by rw [List.length_append]; omega
      repeat refine St (And.intro hlt <| And.intro hlt' <| And.intro hltl <| And.intro hhl <| And.intro hg <| And.intro h32 <| And.intro hxt <| And.intro hyl <| @T.size.eq_def) ct18 ?_
      exact ⟨⟨i + 1, by omega⟩, (Wt hfx [1, 2, 3, 6, 8, 57, 58] [0, 1, 4]), by simp only; omega⟩
    obtain rfl : i = 5 := by omega
    rw [show hs.take 5 = hs from List.take_of_length_le (by omega)]
    obtain ⟨y3, hy3⟩ : ∃ y, y2 ++ hs.flatten = y := ⟨_, rfl⟩
    have hy3l : y3.length = 170 := by rw [← hy3, List.length_append]; omega
    rw [hy3]
    have hwi : IntKind.u32.wrap ix = ix := wrap_u32 (by omega) (by omega)
    have htl : tagM.length = 10 := rfl
    by_cases ca0 : annex.length = 0
    · have ca1 : annex.length = 0 := ca0
      have ca : ¬ 0 < (annex.length : Int) := by omega
      have kn : kndM leaf annex = 2 := by unfold kndM; simp [cl1, ca1]
      have q1 : F29 [.by (y3 ++ [UInt8.ofNat 2]), .int .u32 ix] = some ([.by (y3 ++ [2] ++ le 4 ix)], .own 0) := put32_b _ (by simp; omega)
      have n0 : (y3 ++ [2] ++ le 4 ix).length = 175 := by simp; omega
      have am : annM annex = [] := if_neg (by omega)
      rw [am, List.append_nil]
      have n1 : (y3 ++ [2] ++ le 4 ix).length = 175 := n0
      have lm : leafM leaf = leaf ++ [0, 255, 255, 255, 255] := if_pos (by omega)
      rw [lm]
      have q6 : F29 [.by (y3 ++ [2] ++ le 4 ix ++ leaf ++ [UInt8.ofNat 0]), .int .u32 4294967295] = some ([.by (y3 ++ [2] ++ le 4 ix ++ (leaf ++ [0, 255, 255, 255, 255]))], .own 0) := by
        have h := put32_b (b := y3 ++ [2] ++ le 4 ix ++ leaf ++ [UInt8.ofNat 0]) 4294967295 (by rw [List.length_append, List.length_append, n1]; simp; omega)
        rw [h, le_ff]; simp only [List.append_assoc, List.cons_append, List.nil_append]; rfl
      have n2 : (y3 ++ [2] ++ le 4 ix ++ leaf).length ≤ 1000 := by rw [List.length_append, n1]; omega
      have n3 : (y3 ++ [2] ++ le 4 ix ++ (leaf ++ [0, 255, 255, 255, 255])).length ≤ 1000 := by rw [List.length_append, n1]; simp; omega
      rw [kn]
      have q7 : F38 [.str [84, 97, 112, 83, 105, 103, 104, 97, 115, 104], .by (y3 ++ [2] ++ le 4 ix ++ (leaf ++ [0, 255, 255, 255, 255]))] = some ([], .t (.ba 32 (tagL tagM (y3 ++ [2] ++ le 4 ix ++ (leaf ++ [0, 255, 255, 255, 255]))))) := if_pos ⟨by omega, by simp⟩
      have q8 := tagL_len tagM (y3 ++ [2] ++ le 4 ix ++ (leaf ++ [0, 255, 255, 255, 255]))
      generalize tagL tagM (y3 ++ [2] ++ le 4 ix ++ (leaf ++ [0, 255, 255, 255, 255])) = res at *
      repeat refine St (And.intro hlt <| And.intro cl <| And.intro ca <| And.intro hwi <| And.intro q1 <| And.intro @or_02 <| And.intro @or_01 <| And.intro @or_21 <| And.intro hy3l <| And.intro n1 <| And.intro q6 <| And.intro n2 <| And.intro q7 <| q8) ct18 ?_
      exact AWP.ret (Fin trivial [] [])
    · have ca1 : 0 < annex.length := by omega
      have ca : 0 < (annex.length : Int) := by omega
      have kn : kndM leaf annex = 3 := by unfold kndM; simp [cl1, ca1]
      have q1 : F29 [.by (y3 ++ [UInt8.ofNat 3]), .int .u32 ix] = some ([.by (y3 ++ [3] ++ le 4 ix)], .own 0) := put32_b _ (by simp; omega)
      have n0 : (y3 ++ [3] ++ le 4 ix).length = 175 := by simp; omega
      have q2 := putby_e (x := annex) (by omega)
      have hsb := sizeB_len (annex.length : Int)
      have q3 : F36 [.by (sizeB annex.length ++ annex)] = some ([], .t (.ba 32 (shaL (sizeB annex.length ++ annex)))) := shasum_c (by simp; omega)
      have q4 := shaL_len (sizeB annex.length ++ annex)
      have am : annM annex = shaL (sizeB annex.length ++ annex) := if_pos (by omega)
      rw [am]
      generalize shaL (sizeB annex.length ++ annex) = a1 at *
      have q5 : a1.take 32 = a1 := List.take_of_length_le (by omega)
      have n1 : (y3 ++ [3] ++ le 4 ix ++ a1).length = 207 := by rw [List.length_append]; omega
      have lm : leafM leaf = leaf ++ [0, 255, 255, 255, 255] := if_pos (by omega)
      rw [lm]
      have q6 : F29 [.by (y3 ++ [3] ++ le 4 ix ++ a1 ++ leaf ++ [UInt8.ofNat 0]), .int .u32 4294967295] = some ([.by (y3 ++ [3] ++ le 4 ix ++ a1 ++ (leaf ++ [0, 255, 255, 255, 255]))], .own 0) := by
        have h := put32_b (b := y3 ++ [3] ++ le 4 ix ++ a1 ++ leaf ++ [UInt8.ofNat 0]) 4294967295 (by rw [List.length_append, List.length_append, n1]; simp; omega)
        rw [h, le_ff]; simp only [List.append_assoc, List.cons_append, List.nil_append]; rfl
      have n2 : (y3 ++ [3] ++ le 4 ix ++ a1 ++ leaf).length ≤ 1000 := by rw [List.length_append, n1]; omega
      have n3 : (y3 ++ [3] ++ le 4 ix ++ a1 ++ (leaf ++ [0, 255, 255, 255, 255])).length ≤ 1000 := by rw [List.length_append, n1]; simp; omega
      rw [kn]
      have q7 : F38 [.str [84, 97, 112, 83, 105, 103, 104, 97, 115, 104], .by (y3 ++ [3] ++ le 4 ix ++ a1 ++ (leaf ++ [0, 255, 255, 255, 255]))] = some ([], .t (.ba 32 (tagL tagM (y3 ++ [3] ++ le 4 ix ++ a1 ++ (leaf ++ [0, 255, 255, 255, 255]))))) := if_pos ⟨by omega, by simp⟩
      have q8 := tagL_len tagM (y3 ++ [3] ++ le 4 ix ++ a1 ++ (leaf ++ [0, 255, 255, 255, 255]))
      generalize tagL tagM (y3 ++ [3] ++ le 4 ix ++ a1 ++ (leaf ++ [0, 255, 255, 255, 255])) = res at *
      repeat refine St (And.intro hlt <| And.intro cl <| And.intro ca <| And.intro hwi <| And.intro q1 <| And.intro @or_02 <| And.intro @or_01 <| And.intro @or_21 <| And.intro hy3l <| And.intro q2 <| And.intro q3 <| And.intro q4 <| And.intro q5 <| And.intro n0 <| And.intro n1 <| And.intro q6 <| And.intro n2 <| And.intro q7 <| q8) ct18 ?_
      exact AWP.ret (Fin trivial [] [])

theorem msg_d (s : TSp) {leaf annex : List UInt8} (h1 : leaf.length ≤ 1000000) (h2 : annex.length ≤ 1000000) : F18 [spT s, .by leaf, .by annex] = some ([], .tup [.t (.ba 32 (msgM s leaf annex)), .t (.int .i64 (msgE s leaf))]) := by
  simp only [F18, inv_of spT_inj]; exact if_pos ⟨h1, h2⟩

end Go.Fw

end
