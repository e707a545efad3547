/- The abstract machine, and the contracts of the code: part 55. -/
import Derived.Test.YtchljppcenckaaaP54

section
/- Chapter 9: TxName: its code walked. -/
namespace Go.Fw
open Go Go.Proofs
set_option linter.unusedVariables false
set_option linter.unusedSimpArgs false

def strip9 (x : TIn) : TIn := ⟨x.prev, x.idx, x.seq, []⟩
def bare9 (t : TTx) : TTx := ⟨t.ver, t.ins.map strip9, t.outs, t.lock⟩
theorem bare9_bare (t : TTx) : bareB (bare9 t) = bareB t := by
  have e : cat tInB (t.ins.map strip9) = cat tInB t.ins := by unfold cat; rw [List.map_map]; rfl
  unfold bareB bare9
  dsimp only
  rw [e, List.length_map]
theorem sizeB_pos (n : Int) : 1 ≤ (sizeB n).length := by
  unfold sizeB; repeat' split
  all_goals (simp only [List.length_append, le_len]; omega)
theorem bare9_cat (l : List TIn) : (cat witB (l.map strip9)).length ≤ (cat witB l).length := by
  induction l with
  | nil => exact Nat.le_refl _
  | cons x l ih =>
    rw [List.map_cons, cat_cons, cat_cons, List.length_append, List.length_append]
    have h1 : (witB (strip9 x)).length = 1 := by
      have e : witB (strip9 x) = sizeB 0 := by simp [witB, strip9, flat]
      rw [e]; decide +kernel
    have h2 : 1 ≤ (witB x).length := by
      have := sizeB_pos (x.wit.length : Int)
      unfold witB; rw [List.length_append]; omega
    omega
theorem bare9_whole (t : TTx) : (wholeB (bare9 t)).length ≤ (wholeB t).length := by
  have := bare9_cat t.ins
  unfold wholeB
  rw [bare9_bare, List.length_append, List.length_append]
  show _ + (cat witB (t.ins.map strip9)).length ≤ _
  omega
theorem bare9_counts {t : TTx} (h : countsB t = true) : countsB (bare9 t) = true := by
  obtain ⟨h1, h2, h3, h4⟩ := countsB_ok h
  have e1 : (bare9 t).ins.length = t.ins.length := List.length_map ..
  have e2 : (bare9 t).outs = t.outs := rfl
  have e3 : (bare9 t).ins.all witOk = true := by
    rw [List.all_eq_true]
    intro x hx
    obtain ⟨y, hy, rfl⟩ := List.mem_map.1 hx
    rfl
  have e4 : t.outs.all scrOk = true := by
    rw [List.all_eq_true]
    intro x hx
    exact decide_eq_true (h3 x hx)
  unfold countsB
  rw [e1, e2, e3, e4, decide_eq_true h1, decide_eq_true h2]; rfl
theorem bare9_fits {t : TTx} (h : fitsB t = true) : fitsB (bare9 t) = true := by
  simp only [fitsB, Bool.and_eq_true, decide_eq_true_eq] at h ⊢
  have := bare9_whole t
  exact ⟨bare9_counts h.1, by omega⟩

noncomputable def F7 : Fun
  | [y] => match inv txT y with
    | some t => some ([], .t (.bool true))
    | none => none
  | _ => none

theorem ct7 : CT [(9, ⟨[], treeG F9⟩), (15, ⟨[false], treeG F15⟩), (17, ⟨[false], treeG F17⟩), (18, ⟨[false], treeG F18⟩), (19, ⟨[false], treeG F19⟩), (20, ⟨[false], treeG F20⟩), (21, ⟨[false], treeG F21⟩)] [0, 1, 2, 3, 4, 5, 13, 21] [(8, [⟨0, [3], [], []⟩, ⟨1, [24], [], []⟩, ⟨0, [1], [], []⟩, ⟨1, [26], [], []⟩, ⟨0, [4], [], []⟩, ⟨1, [27, 28], [3], []⟩, ⟨0, [29], [3, 5], []⟩, ⟨1, [30], [3, 5], []⟩, ⟨0, [1], [], []⟩, ⟨1, [32], [], []⟩, ⟨0, [4], [], []⟩, ⟨1, [33, 34], [9], []⟩, ⟨0, [35], [9, 11], []⟩, ⟨1, [36], [9, 11], []⟩, ⟨1, [31, 37], [3, 5, 7, 9, 11, 13], []⟩, ⟨1, [38], [3, 5, 7, 9, 11, 13, 14], []⟩, ⟨2, [25, 39], [1, 3, 5, 7, 9, 11, 13, 14, 15], []⟩, ⟨0, [3], [1, 3, 5, 7, 9, 11, 13, 14, 15, 16], []⟩, ⟨2, [40, 41], [1, 3, 5, 7, 9, 11, 13, 14, 15, 16], []⟩]), (9, [⟨1, [1], [], []⟩, ⟨1, [42], [0], []⟩, ⟨1, [43], [0, 1], []⟩, ⟨1, [3], [], []⟩, ⟨1, [45], [0, 1, 3], []⟩, ⟨1, [46], [0, 1, 3, 4], []⟩, ⟨0, [44, 47], [0, 1, 2, 3, 4, 5], []⟩, ⟨0, [48], [0, 1, 2, 3, 4, 5], []⟩]), (10, (List.cons (⟨1, [], [], []⟩ : Info) <| List.cons (⟨0, [49], [0], []⟩ : Info) <| List.cons (⟨1, [1], [0], []⟩ : Info) <| List.cons (⟨1, [51], [0, 2], []⟩ : Info) <| List.cons (⟨1, [3], [0], []⟩ : Info) <| List.cons (⟨1, [53], [0, 2, 3, 4], []⟩ : Info) <| List.cons (⟨0, [52, 54], [0, 2, 3, 4, 5], []⟩ : Info) <| List.cons (⟨0, [50, 55], [0, 2, 3, 4, 5], []⟩ : Info) <| List.cons (⟨0, [56], [0, 2, 3, 4, 5], []⟩ : Info) <| List.cons (⟨1, [1], [0, 2, 3, 4, 5], []⟩ : Info) <| List.cons (⟨1, [58], [0, 2, 3, 4, 5, 9], []⟩ : Info) <| List.cons (⟨1, [59], [0, 2, 3, 4, 5, 9, 10], []⟩ : Info) <| List.cons (⟨1, [3], [0, 2, 3, 4, 5], []⟩ : Info) <| List.cons (⟨1, [61], [0, 2, 3, 4, 5, 9, 10, 12], []⟩ : Info) <| List.cons (⟨1, [62], [0, 2, 3, 4, 5, 9, 10, 12, 13], []⟩ : Info) <| List.cons (⟨0, [60, 63], [0, 2, 3, 4, 5, 9, 10, 11, 12, 13, 14], []⟩ : Info) <| List.cons (⟨0, [57, 64], [0, 2, 3, 4, 5, 9, 10, 11, 12, 13, 14], []⟩ : Info) <| List.cons (⟨0, [65], [0, 2, 3, 4, 5, 9, 10, 11, 12, 13, 14], []⟩ : Info) <| List.cons (⟨1, [1], [0, 2, 3, 4, 5, 9, 10, 11, 12, 13, 14], []⟩ : Info) <| List.cons (⟨1, [67], [0, 2, 3, 4, 5, 9, 10, 11, 12, 13, 14, 18], []⟩ : Info) <| List.cons (⟨1, [3], [0, 2, 3, 4, 5, 9, 10, 11, 12, 13, 14], []⟩ : Info) <| List.cons (⟨1, [69], [0, 2, 3, 4, 5, 9, 10, 11, 12, 13, 14, 18, 19, 20], []⟩ : Info) <| List.cons (⟨0, [5], [0, 2, 3, 4, 5, 9, 10, 11, 12, 13, 14], []⟩ : Info) <| List.cons (⟨0, [70, 71], [0, 2, 3, 4, 5, 9, 10, 11, 12, 13, 14, 18, 19, 20, 21], []⟩ : Info) <| List.cons (⟨0, [68, 72], [0, 2, 3, 4, 5, 9, 10, 11, 12, 13, 14, 18, 19, 20, 21], []⟩ : Info) <| List.cons (⟨0, [66, 73], [0, 2, 3, 4, 5, 9, 10, 11, 12, 13, 14, 18, 19, 20, 21], []⟩ : Info) <| List.cons (⟨0, [74], [0, 2, 3, 4, 5, 9, 10, 11, 12, 13, 14, 18, 19, 20, 21], []⟩ : Info) <| List.cons (⟨0, [5], [0, 2, 3, 4, 5, 9, 10, 11, 12, 13, 14, 18, 19, 20, 21], []⟩ : Info) <| List.cons (⟨0, [76], [0, 2, 3, 4, 5, 9, 10, 11, 12, 13, 14, 18, 19, 20, 21], []⟩ : Info) <| List.cons (⟨0, [75, 77], [0, 2, 3, 4, 5, 9, 10, 11, 12, 13, 14, 18, 19, 20, 21], []⟩ : Info) <| List.cons (⟨0, [78], [0, 2, 3, 4, 5, 9, 10, 11, 12, 13, 14, 18, 19, 20, 21], []⟩ : Info) <| []))] := ⟨(.cons c9.g (.cons c15.g (.cons c17.g (.cons c18.g (.cons c19.g (.cons c20.g (.cons c21.g (.nil _))))))))⟩

set_option maxRecDepth 20000 in
set_option maxHeartbeats 4000000 in
theorem c7 : ACon Try.prog 7 F7 := by
  refine aconc E_ok (rs := [.tmp 2 4]) Try.func7 rfl Try.ntmps7 (by kernel_rfl) rfl (by decide) F7 (np := 1) ?_ ?_
  · intro ts h; unfold F7; split <;> first | rfl | (simp at h; done)
  intro ts H r hF hwf
  unfold F7 at hF
  split at hF <;> try (cases hF; done)
  split at hF <;> try (cases hF; done)
  rename_i t ht
  cases hF
  obtain rfl := inv_inv ht
  have h1 := rsml_t t
  have h2 := check_c t
  cases hs1 : smallT t with
  | false =>
    rw [hs1] at h1
    rw [txT_st] at h1 ⊢
    repeat refine St (And.intro h1 <| @F9.eq_def) ct7 ?_
    exact AWP.ret (Fin trivial [] [])
  | true =>
  rw [hs1] at h1
  rcases chk_two t with ⟨e1, e2, e3⟩ | ⟨e1, e2⟩
  case inr =>
    rw [e1] at h2
    rw [txT_st] at h1 h2 ⊢
    repeat refine St (And.intro h1 <| And.intro h2 <| @F9.eq_def) ct7 ?_
    exact AWP.ret (Fin trivial [] [])
  rw [e1] at h2
  have hf := fit_of e2 e3
  have hg := bare9_fits hf
  have h3 := who_t t
  have h4 := who_t (bare9 t)
  rw [show whoO t = wholeB t from if_pos hf] at h3
  rw [show whoO (bare9 t) = wholeB (bare9 t) from if_pos hg] at h4
  have h5 := nam_t t
  have h6 := nam_t (bare9 t)
  rw [show namO (bare9 t) = namO t by unfold namO; rw [if_pos hf, if_pos hg, bare9_bare]] at h6
  have h7 := bar_t t
  have h8 := bar_t (bare9 t)
  rw [show barO (bare9 t) = barO t by unfold barO; rw [if_pos hf, if_pos hg, bare9_bare]] at h8
  have h9 := wei_t t
  have g1 := wei_t (bare9 t)
  have l1 := namO_len t
  have hle := bare9_whole t
  have hbl := (counts_len e2).1
  have hbl2 := (counts_len e2).2
  have w1 : weiO t = 3 * ((bareB t).length : Int) + ((wholeB t).length : Int) := if_pos hf
  have w2 : weiO (bare9 t) = 3 * ((bareB t).length : Int) + ((wholeB (bare9 t)).length : Int) := by
    have : weiO (bare9 t) = 3 * ((bareB (bare9 t)).length : Int) + ((wholeB (bare9 t)).length : Int) := if_pos hg
    rw [this, bare9_bare]
  have hins : t.ins.length ≤ 6 := (smallT_ok hs1).1
  have hbt : txT (bare9 t) = .st [.int .u32 (t.ver.toNat : Int), .sq 35 ((t.ins.map strip9).map inT), .sq 2 (t.outs.map outT), .int .u32 (t.lock.toNat : Int)] := rfl
  rw [hbt] at h4 h6 h8 g1
  rw [txT_st] at h1 h2 h3 h5 h7 h9 ⊢
  generalize weiO (bare9 t) = x2 at *
  generalize weiO t = x1 at *
  generalize wholeB (bare9 t) = y2 at *
  generalize wholeB t = y1 at *
  generalize barO t = z1 at *
  generalize namO t = z2 at *
  generalize (bareB t).length = z3 at *
  obtain ⟨v, is, os, k⟩ := t
  dsimp only at h1 h2 h3 h4 h5 h6 h7 h8 h9 g1 hins ⊢
  clear hbt hg hf e1 e2 e3 ht hs1
  obtain ⟨mo, hmo⟩ : ∃ mo : Int, (y1.length : Int) - (y2.length : Int) = mo := ⟨_, rfl⟩
  have hge : 0 ≤ mo := by omega
  have hw1 : IntKind.i64.wrap ((y1.length : Int) - (y2.length : Int)) = mo := by rw [hmo, wrap_i64 (by omega) (by omega)]
  have hw2 : IntKind.i64.wrap (x2 + mo) = x1 := by rw [wrap_i64 (by omega) (by omega)]; omega
  have r1 : (z1 == z1) = true := beq_self_eq_true _
  have r2 : (z2 == z2) = true := beq_self_eq_true _
  have r3 : (x1 == x1) = true := beq_self_eq_true _
  repeat refine St (And.intro h1 <| h2) ct7 ?_
  refine AWP.weak (Weak.ownBx (v' := _) 1 [1] 1 (.sq 35 []) rfl (by simp only [W, eqq, ↓reduceIte, Nat.reduceEqDiff, Nat.reduceLT, Nat.reduceLeDiff, Nat.reduceAdd, Nat.reduceMul, Nat.reduceSub, Nat.reduceBEq, Int.reduceLE, Int.reduceLT, Int.reduceNeg, Int.reduceToNat, Int.reduceEq, Int.reduceBEq, Int.reduceBNe, Nat.reduceBNe, bne_self_eq_false, reduceCtorEq, gt_iff_lt, ge_iff_le]) (by simp only [W, eqq, ↓reduceIte, Nat.reduceEqDiff, Nat.reduceLT, Nat.reduceLeDiff, Nat.reduceAdd, Nat.reduceMul, Nat.reduceSub, Nat.reduceBEq, Int.reduceLE, Int.reduceLT, Int.reduceNeg, Int.reduceToNat, Int.reduceEq, Int.reduceBEq, Int.reduceBNe, Nat.reduceBNe, bne_self_eq_false, reduceCtorEq, gt_iff_lt, ge_iff_le]) (by simp only [W, eqq, ↓reduceIte, Nat.reduceEqDiff, Nat.reduceLT, Nat.reduceLeDiff, Nat.reduceAdd, Nat.reduceMul, Nat.reduceSub, Nat.reduceBEq, Int.reduceLE, Int.reduceLT, Int.reduceNeg, Int.reduceToNat, Int.reduceEq, Int.reduceBEq, Int.reduceBNe, Nat.reduceBNe, bne_self_eq_false, reduceCtorEq, gt_iff_lt, ge_iff_le]; rfl) (.inr ⟨_, by decide, rfl⟩)) ?_
  refine AWP.loop (G := { i : Nat // i ≤ is.length }) (fun i => ⟨[(1, .ptr 0 0 []), (3, .ptr 1 0 []), (4, .t (.int .i64 (i.1 : Int)))], [.bx (.t (.st [.int .u32 (v.toNat : Int), .sq 35 (is.map inT), .sq 2 (os.map outT), .int .u32 (k.toNat : Int)])), .bx (.st [.t (.int .u32 (v.toNat : Int)), .own 2, .t (.sq 2 (os.map outT)), .t (.int .u32 (k.toNat : Int))]), .sq 35 (((is.take i.1).map strip9).map inT)]⟩) (fun i => is.length - i.1) ⟨0, by omega⟩ (Wt (And.intro @List.take_zero.{0} <| @List.map_nil.{0, 0}) [1, 3, 4] [0, 1, 2]) ?_
  intro ⟨i, hi⟩
  dsimp only
  by_cases hlt : (i : Int) < (is.length : Int)
  · have hlt' : i < is.length := by omega
    have hget := in_getD is i hlt'
    have htk := take_getDx dIn is i hlt'
    generalize is.getD i dIn = x at *
    have hmm : ((is.take (i + 1)).map strip9).map inT = ((is.take i).map strip9).map inT ++ [.st [.st [.ba 32 x.prev.1, .int .u32 (x.idx.toNat : Int)], .int .u32 (x.seq.toNat : Int), .sq 1 []]] := by
      rw [htk, List.map_append, List.map_append]; rfl
    have hal : (((is.take i).map strip9).map inT).length ≤ 1000 := by simp; omega
    have h32 := x.prev.2
    repeat refine St (And.intro hlt <| And.intro hlt' <| And.intro hget <| And.intro @inT.eq_def <| And.intro @refT.eq_def <| And.intro h32 <| hal) ct7 ?_
    exact ⟨⟨i + 1, by omega⟩, (Wt hmm [1, 3, 4] [0, 1, 4]), by simp only; omega⟩
  obtain rfl : i = is.length := by omega
  rw [List.take_length]
  repeat refine St hlt ct7 ?_
  refine AWP.weak (Weak.freeze 2) ?_
  refine AWP.weak (Weak.thawBx (y := .st [.int .u32 (v.toNat : Int), .sq 35 ((is.map strip9).map inT), .sq 2 (os.map outT), .int .u32 (k.toNat : Int)]) 1 rfl rfl) ?_
  refine AWP.weak (S' := ⟨[(1, .ptr 0 0 []), (3, .ptr 1 0 [])], [.bx (.t (.st [.int .u32 (v.toNat : Int), .sq 35 (is.map inT), .sq 2 (os.map outT), .int .u32 (k.toNat : Int)])), .bx (.t (.st [.int .u32 (v.toNat : Int), .sq 35 ((is.map strip9).map inT), .sq 2 (os.map outT), .int .u32 (k.toNat : Int)]))]⟩) (Wt @freezeOne.eq_def [1, 3] [0, 1]) ?_
  repeat refine St (And.intro h3 <| And.intro h4 <| And.intro h5 <| And.intro h6 <| And.intro h7 <| And.intro h8 <| And.intro h9 <| And.intro g1 <| And.intro l1 <| And.intro hw1 <| And.intro hw2 <| And.intro hge <| And.intro r1 <| And.intro r2 <| And.intro r3 <| @F9.eq_def) ct7 ?_
  exact AWP.ret (Fin trivial [] [])

theorem shx_name (a : TTx) : F7 [txT a] = some ([], .t (.bool true)) := by simp only [F7, inv_of txT_inj]

end Go.Fw

end
