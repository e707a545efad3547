/- The abstract machine, and the contracts of the code: part 51. -/
import Derived.Test.YtfjpkocbfbinaaaP50
set_option linter.unusedVariables false
set_option linter.unusedSimpArgs false

section
namespace Go.Fw
open Go Go.Proofs
theorem Wb {kp N : Nat} {S : AS} {v v' : AV} (i : Nat) (p : List Nat) (o : Nat) (B : Blk) (hi : S.H[i]? = some (.bx v) := by rfl) (hg : AV.get v p = some (.t .nil) := by (simp only [W, eqq, ↓reduceIte, Nat.reduceEqDiff, Nat.reduceLT, Nat.reduceLeDiff, Nat.reduceAdd, Nat.reduceMul, Nat.reduceSub, Nat.reduceBEq, Int.reduceLE, Int.reduceLT, Int.reduceNeg, Int.reduceToNat, Int.reduceEq, Int.reduceBEq, Int.reduceBNe, Nat.reduceBNe, bne_self_eq_false, reduceCtorEq, gt_iff_lt, ge_iff_le])) (ho : AV.off v p = some o := by (simp only [W, eqq, ↓reduceIte, Nat.reduceEqDiff, Nat.reduceLT, Nat.reduceLeDiff, Nat.reduceAdd, Nat.reduceMul, Nat.reduceSub, Nat.reduceBEq, Int.reduceLE, Int.reduceLT, Int.reduceNeg, Int.reduceToNat, Int.reduceEq, Int.reduceBEq, Int.reduceBNe, Nat.reduceBNe, bne_self_eq_false, reduceCtorEq, gt_iff_lt, ge_iff_le])) (hs' : AV.set v p (.own S.H.length) = some v' := by (simp only [W, eqq, ↓reduceIte, Nat.reduceEqDiff, Nat.reduceLT, Nat.reduceLeDiff, Nat.reduceAdd, Nat.reduceMul, Nat.reduceSub, Nat.reduceBEq, Int.reduceLE, Int.reduceLT, Int.reduceNeg, Int.reduceToNat, Int.reduceEq, Int.reduceBEq, Int.reduceBNe, Nat.reduceBNe, bne_self_eq_false, reduceCtorEq, gt_iff_lt, ge_iff_le]; rfl)) (hB : B = .by [] ∨ ∃ sz, 0 < sz ∧ B = .sq sz [] := by exact .inr ⟨_, by decide, rfl⟩) : Weak kp N S ⟨S.s, (S.H.set i (.bx v')) ++ [B]⟩ := Weak.ownBx i p o B hi hg ho hs' hB
theorem ldAK_few (c : UInt8) (k : Nat) (s : LSt) : (ldAK c k s).1.ents.length ≤ 200 := by
 unfold ldAK
 split
 case h_5 =>
   dsimp only
   rw [ldN_len]; exact ldC_le
 all_goals exact Nat.zero_le _
theorem ldAK_e0 {c : UInt8} {k : Nat} {s : LSt} (h : k ≠ 5) : (ldAK c k s).1.ents = [] := by
 unfold ldAK
 split
 case h_5 => exact (h rfl).elim
 all_goals rfl
theorem ldAK_n0 {c : UInt8} {k : Nat} {s : LSt} (h : k ≠ 8) : (ldAK c k s).1.nams = [] := by
 unfold ldAK
 split
 case h_8 => exact (h rfl).elim
 all_goals rfl
theorem takeR_cases (k : Nat) (R : TA × LSt) (h5 : k ≠ 5 → R.1.ents = []) (h8 : k ≠ 8 → R.1.nams = []) :
   (R.1.nams = [] ∧ takeR k R = some ([lX R.2, .no, .sq 32 [], .sq 69 (R.1.ents.map eT)], ansV R.1 (.own 3) (.own 2))) ∨
   (R.1.ents = [] ∧ takeR k R = some ([lX R.2, .sq 69 [], .no, .sq 32 (R.1.nams.map hT)], ansV R.1 (.own 1) (.own 3))) ∨
   ((R.1.ents = [] ∧ R.1.nams = []) ∧ takeR k R = some ([lX R.2, .sq 69 [], .sq 32 []], ansV R.1 (.own 1) (.own 2))) := by
 by_cases k5 : k = 5
 · subst k5
   by_cases he : R.1.ents = []
   · exact .inr (.inr ⟨⟨he, h8 (by decide)⟩, takeR_50 he⟩)
   · exact .inl ⟨h8 (by decide), takeR_5 he⟩
 by_cases k8 : k = 8
 · subst k8
   by_cases he : R.1.nams = []
   · exact .inr (.inr ⟨⟨h5 (by decide), he⟩, takeR_80 he⟩)
   · exact .inr (.inl ⟨h5 (by decide), takeR_8 he⟩)
 exact .inr (.inr ⟨⟨h5 k5, h8 k8⟩, takeR_0 k5 k8⟩)
theorem ansV_st (a : TA) (E N : AV) : ansV a E N = .st [.t (.int .u8 (a.op.toNat : Int)), .t (.int .i64 a.e), .t (.ba 32 a.name.1), .t (.int .u32 (a.hgt.toNat : Int)), .t (wT a.work), .t (.int .u64 (a.val.toNat : Int)), .t (.bool a.fst), .t (.by a.bts), E, .t (.ar 5 1 (a.nums.1.map nT)), N] := rfl
theorem ldA_eq {b : List UInt8} {c e : UInt8} {s1 s2 : LSt} (h1 : ld t8 ⟨b, true⟩ = (c, s1)) (h2 : ld t8 s1 = (e, s2)) : ldA b = if e = 0 then ldAK c (kA c) s2 else (bareA c (e.toNat : Int), s2) := by
 unfold ldA
 rw [h1]
 dsimp only
 rw [h2]
noncomputable def F17 : Fun
 | [.by b] => if b.length ≤ 549740000000 then some ([], .tup [.t (aT (tkA b)), .t (.int .i64 (tkAe b))]) else none
 | _ => none
theorem ct17 : CT [(22, ⟨[false], treeG F22⟩), (30, ⟨[true, false], G30⟩), (34, ⟨[true, true], G34⟩)] [0, 2, 3, 4, 5, 6, 7, 20, 44] [] := ⟨(.cons c22.g (.cons g30 (.cons g34 (.nil _))))⟩
set_option maxRecDepth 20000 in
set_option maxHeartbeats 8000000 in
theorem c17 : ACon Try.prog 17 F17 := by
 refine aconc E_ok (rs := [.cell 2 52, .tmp 3 28]) Try.func17 rfl Try.ntmps17 (by kernel_rfl) rfl (by decide) F17 (np := 1) ?_ ?_
 · intro ts h; unfold F17; split <;> first | rfl | (simp at h; done)
 intro ts H r hF hwf
 unfold F17 at hF
 split at hF <;> try (cases hF; done)
 rename_i b
 split at hF
 case isFalse => cases hF
 rename_i hb
 cases hF
 obtain ⟨hlaw, hsame⟩ := ldA_law b
 have n1 := num8_t (b := b) (w := true) (by omega)
 have l1 := ld_len (s := ⟨b, true⟩) t8_len
 obtain ⟨c, ⟨b1, w1⟩, h1⟩ : ∃ c s1, ld t8 ⟨b, true⟩ = (c, s1) := ⟨_, _, rfl⟩
 rw [h1] at n1 l1
 dsimp only at n1 l1
 have n2 := num8_t (b := b1) (w := w1) (by omega)
 have l2 := ld_len (s := ⟨b1, w1⟩) t8_len
 obtain ⟨e, ⟨b2, w2⟩, h2⟩ : ∃ e s2, ld t8 ⟨b1, w1⟩ = (e, s2) := ⟨_, _, rfl⟩
 rw [h2] at n2 l2
 dsimp only at n2 l2
 rw [ldA_eq h1 h2] at hlaw hsame
 clear h1 h2
 have hof : IntKind.u8.wrap (c.toNat : Int) = (c.toNat : Int) := wrap_u8 (by omega) (by have := c.toNat_lt; omega)
 have hwe : IntKind.i64.wrap (e.toNat : Int) = (e.toNat : Int) := wrap_i64 (by omega) (by have := e.toNat_lt; omega)
 by_cases he : e = 0
 · rw [if_pos he] at hlaw hsame
   have he2 : ((e.toNat : Int) == 0) = true := by rw [he]; rfl
   have he3 : (e.toNat : Int) = 0 := by rw [he]; rfl
   have n3 := take_t (b := b2) (w := w2) (c := c) (by omega)
   have hfew := ldAK_few c (kA c) ⟨b2, w2⟩
   have htk := takeR_cases (kA c) (ldAK c (kA c) ⟨b2, w2⟩) ldAK_e0 ldAK_n0
   generalize ldAK c (kA c) ⟨b2, w2⟩ = R3 at *
   obtain ⟨a, ⟨b3, w3⟩⟩ := R3
   dsimp only at hlaw hsame hfew htk
   unfold bareX at n3
   have hp := rpua_c (a := a) (by omega)
   have hn := a.name.2
   rw [aT_st, wT_st] at hp
   rcases htk with ⟨e1, hR⟩ | ⟨e1, hR⟩ | ⟨⟨e1, e2⟩, hR⟩
   · rw [hR] at n3
     (try dsimp only at n3)
     rw [ansV_st, wT_st] at n3
     rw [e1] at hp
     simp only [List.map_nil] at hp
     cases hw : w3 with
     | false =>
       subst hw
       obtain ⟨t1, t2⟩ := tkA_no (b := b) (by rw [← hlaw]; rfl)
       rw [t1, t2, noA_T]
       generalize putA a = X at *
       generalize putAe a = Y at *
       repeat refine St (And.intro n1 <| And.intro n2 <| And.intro hof <| And.intro hwe <| And.intro he2 <| he3) ct17 ?_
       refine AWP.weak (Wn 2 [7] 41 (.by [])) ?_
       refine AWP.weak (Wb 2 [8] 42 (.sq 69 [])) ?_
       refine AWP.weak (Wb 2 [10] 48 (.sq 32 [])) ?_
       repeat refine St (And.intro n3 <| And.intro hn <| And.intro he2 <| he3) ct17 ?_
       refine AWP.weak (Weak.freeze 4) ?_
       refine AWP.weak (Weak.freeze 5) ?_
       refine AWP.weak (Weak.thawBx (y := .st [.int .u8 (a.op.toNat : Int), .int .i64 a.e, .ba 32 a.name.1, .int .u32 (a.hgt.toNat : Int), .ar 4 1 [.int .u64 (a.work.a.toNat : Int), .int .u64 (a.work.b.toNat : Int), .int .u64 (a.work.c.toNat : Int), .int .u64 (a.work.d.toNat : Int)], .int .u64 (a.val.toNat : Int), .bool a.fst, .by a.bts, .sq 69 (a.ents.map eT), .ar 5 1 (a.nums.1.map nT), .sq 32 []]) 2 rfl rfl) ?_
       refine AWP.weak (S' := ⟨[(0, .t (.by b)), (2, .ptr 0 0 []), (3, .t (.int .i64 0)), (4, .ptr 1 0 []), (5, .ptr 2 0 [])], [.bx (.t (.st [.int .u8 0, .int .i64 0, .ba 32 (zby 32), .int .u32 0, .ar 4 1 [.int .u64 0, .int .u64 0, .int .u64 0, .int .u64 0], .int .u64 0, .bool false, .nil, .nil, .ar 5 1 [.int .u32 0, .int .u32 0, .int .u32 0, .int .u32 0, .int .u32 0], .nil])), .bx (.t (.st [.by b3, .bool false])), .bx (.t (.st [.int .u8 (a.op.toNat : Int), .int .i64 a.e, .ba 32 a.name.1, .int .u32 (a.hgt.toNat : Int), .ar 4 1 [.int .u64 (a.work.a.toNat : Int), .int .u64 (a.work.b.toNat : Int), .int .u64 (a.work.c.toNat : Int), .int .u64 (a.work.d.toNat : Int)], .int .u64 (a.val.toNat : Int), .bool a.fst, .by a.bts, .sq 69 (a.ents.map eT), .ar 5 1 (a.nums.1.map nT), .sq 32 []]))]⟩) (Wt @freezeOne.eq_def [0, 2, 3, 4, 5] [0, 1, 2]) ?_
       repeat refine St (And.intro hn <| And.intro hp <| he2) ct17 ?_
       exact AWP.ret (Fin trivial [] [])
     | true =>
     subst hw
     rw [Bool.true_and] at hlaw
     cases hm : mayA a with
     | false =>
       rw [hm, Bool.false_and] at hlaw
       obtain ⟨t1, t2⟩ := tkA_no (b := b) hlaw.symm
       rw [t1, t2, noA_T]
       rw [(putA_no hm).1, (putA_no hm).2] at hp
       repeat refine St (And.intro n1 <| And.intro n2 <| And.intro hof <| And.intro hwe <| And.intro he2 <| he3) ct17 ?_
       refine AWP.weak (Wn 2 [7] 41 (.by [])) ?_
       refine AWP.weak (Wb 2 [8] 42 (.sq 69 [])) ?_
       refine AWP.weak (Wb 2 [10] 48 (.sq 32 [])) ?_
       repeat refine St (And.intro n3 <| And.intro hn <| And.intro he2 <| he3) ct17 ?_
       refine AWP.weak (Weak.freeze 4) ?_
       refine AWP.weak (Weak.freeze 5) ?_
       refine AWP.weak (Weak.thawBx (y := .st [.int .u8 (a.op.toNat : Int), .int .i64 a.e, .ba 32 a.name.1, .int .u32 (a.hgt.toNat : Int), .ar 4 1 [.int .u64 (a.work.a.toNat : Int), .int .u64 (a.work.b.toNat : Int), .int .u64 (a.work.c.toNat : Int), .int .u64 (a.work.d.toNat : Int)], .int .u64 (a.val.toNat : Int), .bool a.fst, .by a.bts, .sq 69 (a.ents.map eT), .ar 5 1 (a.nums.1.map nT), .sq 32 []]) 2 rfl rfl) ?_
       refine AWP.weak (S' := ⟨[(0, .t (.by b)), (2, .ptr 0 0 []), (3, .t (.int .i64 0)), (4, .ptr 1 0 []), (5, .ptr 2 0 [])], [.bx (.t (.st [.int .u8 0, .int .i64 0, .ba 32 (zby 32), .int .u32 0, .ar 4 1 [.int .u64 0, .int .u64 0, .int .u64 0, .int .u64 0], .int .u64 0, .bool false, .nil, .nil, .ar 5 1 [.int .u32 0, .int .u32 0, .int .u32 0, .int .u32 0, .int .u32 0], .nil])), .bx (.t (.st [.by b3, .bool true])), .bx (.t (.st [.int .u8 (a.op.toNat : Int), .int .i64 a.e, .ba 32 a.name.1, .int .u32 (a.hgt.toNat : Int), .ar 4 1 [.int .u64 (a.work.a.toNat : Int), .int .u64 (a.work.b.toNat : Int), .int .u64 (a.work.c.toNat : Int), .int .u64 (a.work.d.toNat : Int)], .int .u64 (a.val.toNat : Int), .bool a.fst, .by a.bts, .sq 69 (a.ents.map eT), .ar 5 1 (a.nums.1.map nT), .sq 32 []]))]⟩) (Wt @freezeOne.eq_def [0, 2, 3, 4, 5] [0, 1, 2]) ?_
       repeat refine St (And.intro hn <| And.intro hp <| he2) ct17 ?_
       exact AWP.ret (Fin trivial [] [])
     | true =>
     rw [hm, Bool.true_and] at hlaw
     rw [(putA_yes hm).1, (putA_yes hm).2] at hp
     by_cases hd : bytA a = b
     case neg =>
       rw [decide_eq_false hd] at hlaw
       obtain ⟨t1, t2⟩ := tkA_no (b := b) hlaw.symm
       rw [t1, t2, noA_T]
       generalize bytA a = D at *
       have hne : (D == b) = false := by rw [beq_eq_false_iff_ne]; exact hd
       have hne2 : (D != b) = true := by rw [bne_iff_ne]; exact hd
       repeat refine St (And.intro n1 <| And.intro n2 <| And.intro hof <| And.intro hwe <| And.intro he2 <| he3) ct17 ?_
       refine AWP.weak (Wn 2 [7] 41 (.by [])) ?_
       refine AWP.weak (Wb 2 [8] 42 (.sq 69 [])) ?_
       refine AWP.weak (Wb 2 [10] 48 (.sq 32 [])) ?_
       repeat refine St (And.intro n3 <| And.intro hn <| And.intro he2 <| he3) ct17 ?_
       refine AWP.weak (Weak.freeze 4) ?_
       refine AWP.weak (Weak.freeze 5) ?_
       refine AWP.weak (Weak.thawBx (y := .st [.int .u8 (a.op.toNat : Int), .int .i64 a.e, .ba 32 a.name.1, .int .u32 (a.hgt.toNat : Int), .ar 4 1 [.int .u64 (a.work.a.toNat : Int), .int .u64 (a.work.b.toNat : Int), .int .u64 (a.work.c.toNat : Int), .int .u64 (a.work.d.toNat : Int)], .int .u64 (a.val.toNat : Int), .bool a.fst, .by a.bts, .sq 69 (a.ents.map eT), .ar 5 1 (a.nums.1.map nT), .sq 32 []]) 2 rfl rfl) ?_
       refine AWP.weak (S' := ⟨[(0, .t (.by b)), (2, .ptr 0 0 []), (3, .t (.int .i64 0)), (4, .ptr 1 0 []), (5, .ptr 2 0 [])], [.bx (.t (.st [.int .u8 0, .int .i64 0, .ba 32 (zby 32), .int .u32 0, .ar 4 1 [.int .u64 0, .int .u64 0, .int .u64 0, .int .u64 0], .int .u64 0, .bool false, .nil, .nil, .ar 5 1 [.int .u32 0, .int .u32 0, .int .u32 0, .int .u32 0, .int .u32 0], .nil])), .bx (.t (.st [.by b3, .bool true])), .bx (.t (.st [.int .u8 (a.op.toNat : Int), .int .i64 a.e, .ba 32 a.name.1, .int .u32 (a.hgt.toNat : Int), .ar 4 1 [.int .u64 (a.work.a.toNat : Int), .int .u64 (a.work.b.toNat : Int), .int .u64 (a.work.c.toNat : Int), .int .u64 (a.work.d.toNat : Int)], .int .u64 (a.val.toNat : Int), .bool a.fst, .by a.bts, .sq 69 (a.ents.map eT), .ar 5 1 (a.nums.1.map nT), .sq 32 []]))]⟩) (Wt @freezeOne.eq_def [0, 2, 3, 4, 5] [0, 1, 2]) ?_
       repeat refine St (And.intro hn <| And.intro hp <| And.intro he2 <| And.intro hne <| hne2) ct17 ?_
       exact AWP.ret (Fin trivial [] [])
     rw [decide_eq_true hd] at hlaw
     obtain ⟨t1, t2⟩ := tkA_yes (b := b) hlaw.symm
     have t3 := hsame hlaw.symm
     rw [t1, t2, ← t3, aT_st, wT_st, e1]
     simp only [List.map_nil]
     have heq : (bytA a == b) = true := by rw [beq_iff_eq]; exact hd
     have heq2 : (bytA a != b) = false := by rw [bne_eq_false_iff_eq]; exact hd
     generalize bytA a = D at *
     repeat refine St (And.intro n1 <| And.intro n2 <| And.intro hof <| And.intro hwe <| And.intro he2 <| he3) ct17 ?_
     refine AWP.weak (Wn 2 [7] 41 (.by [])) ?_
     refine AWP.weak (Wb 2 [8] 42 (.sq 69 [])) ?_
     refine AWP.weak (Wb 2 [10] 48 (.sq 32 [])) ?_
     repeat refine St (And.intro n3 <| And.intro hn <| And.intro he2 <| he3) ct17 ?_
     refine AWP.weak (Weak.freeze 4) ?_
     refine AWP.weak (Weak.freeze 5) ?_
     refine AWP.weak (Weak.thawBx (y := .st [.int .u8 (a.op.toNat : Int), .int .i64 a.e, .ba 32 a.name.1, .int .u32 (a.hgt.toNat : Int), .ar 4 1 [.int .u64 (a.work.a.toNat : Int), .int .u64 (a.work.b.toNat : Int), .int .u64 (a.work.c.toNat : Int), .int .u64 (a.work.d.toNat : Int)], .int .u64 (a.val.toNat : Int), .bool a.fst, .by a.bts, .sq 69 (a.ents.map eT), .ar 5 1 (a.nums.1.map nT), .sq 32 []]) 2 rfl rfl) ?_
     refine AWP.weak (S' := ⟨[(0, .t (.by b)), (2, .ptr 0 0 []), (3, .t (.int .i64 0)), (4, .ptr 1 0 []), (5, .ptr 2 0 [])], [.bx (.t (.st [.int .u8 0, .int .i64 0, .ba 32 (zby 32), .int .u32 0, .ar 4 1 [.int .u64 0, .int .u64 0, .int .u64 0, .int .u64 0], .int .u64 0, .bool false, .nil, .nil, .ar 5 1 [.int .u32 0, .int .u32 0, .int .u32 0, .int .u32 0, .int .u32 0], .nil])), .bx (.t (.st [.by b3, .bool true])), .bx (.t (.st [.int .u8 (a.op.toNat : Int), .int .i64 a.e, .ba 32 a.name.1, .int .u32 (a.hgt.toNat : Int), .ar 4 1 [.int .u64 (a.work.a.toNat : Int), .int .u64 (a.work.b.toNat : Int), .int .u64 (a.work.c.toNat : Int), .int .u64 (a.work.d.toNat : Int)], .int .u64 (a.val.toNat : Int), .bool a.fst, .by a.bts, .sq 69 (a.ents.map eT), .ar 5 1 (a.nums.1.map nT), .sq 32 []]))]⟩) (Wt @freezeOne.eq_def [0, 2, 3, 4, 5] [0, 1, 2]) ?_
     repeat refine St (And.intro hn <| And.intro hp <| And.intro he2 <| And.intro heq <| heq2) ct17 ?_
     exact AWP.ret (Fin trivial [] [])
   · rw [hR] at n3
     (try dsimp only at n3)
     rw [ansV_st, wT_st] at n3
     rw [e1] at hp
     simp only [List.map_nil] at hp
     cases hw : w3 with
     | false =>
       subst hw
       obtain ⟨t1, t2⟩ := tkA_no (b := b) (by rw [← hlaw]; rfl)
       rw [t1, t2, noA_T]
       generalize putA a = X at *
       generalize putAe a = Y at *
       repeat refine St (And.intro n1 <| And.intro n2 <| And.intro hof <| And.intro hwe <| And.intro he2 <| he3) ct17 ?_
       refine AWP.weak (Wn 2 [7] 41 (.by [])) ?_
       refine AWP.weak (Wb 2 [8] 42 (.sq 69 [])) ?_
       refine AWP.weak (Wb 2 [10] 48 (.sq 32 [])) ?_
       repeat refine St (And.intro n3 <| And.intro hn <| And.intro he2 <| he3) ct17 ?_
       refine AWP.weak (Weak.freeze 3) ?_
       refine AWP.weak (Weak.freeze 5) ?_
       refine AWP.weak (Weak.thawBx (y := .st [.int .u8 (a.op.toNat : Int), .int .i64 a.e, .ba 32 a.name.1, .int .u32 (a.hgt.toNat : Int), .ar 4 1 [.int .u64 (a.work.a.toNat : Int), .int .u64 (a.work.b.toNat : Int), .int .u64 (a.work.c.toNat : Int), .int .u64 (a.work.d.toNat : Int)], .int .u64 (a.val.toNat : Int), .bool a.fst, .by a.bts, .sq 69 [], .ar 5 1 (a.nums.1.map nT), .sq 32 (a.nams.map hT)]) 2 rfl rfl) ?_
       refine AWP.weak (S' := ⟨[(0, .t (.by b)), (2, .ptr 0 0 []), (3, .t (.int .i64 0)), (4, .ptr 1 0 []), (5, .ptr 2 0 [])], [.bx (.t (.st [.int .u8 0, .int .i64 0, .ba 32 (zby 32), .int .u32 0, .ar 4 1 [.int .u64 0, .int .u64 0, .int .u64 0, .int .u64 0], .int .u64 0, .bool false, .nil, .nil, .ar 5 1 [.int .u32 0, .int .u32 0, .int .u32 0, .int .u32 0, .int .u32 0], .nil])), .bx (.t (.st [.by b3, .bool false])), .bx (.t (.st [.int .u8 (a.op.toNat : Int), .int .i64 a.e, .ba 32 a.name.1, .int .u32 (a.hgt.toNat : Int), .ar 4 1 [.int .u64 (a.work.a.toNat : Int), .int .u64 (a.work.b.toNat : Int), .int .u64 (a.work.c.toNat : Int), .int .u64 (a.work.d.toNat : Int)], .int .u64 (a.val.toNat : Int), .bool a.fst, .by a.bts, .sq 69 [], .ar 5 1 (a.nums.1.map nT), .sq 32 (a.nams.map hT)]))]⟩) (Wt @freezeOne.eq_def [0, 2, 3, 4, 5] [0, 1, 2]) ?_
       repeat refine St (And.intro hn <| And.intro hp <| he2) ct17 ?_
       exact AWP.ret (Fin trivial [] [])
     | true =>
     subst hw
     rw [Bool.true_and] at hlaw
     cases hm : mayA a with
     | false =>
       rw [hm, Bool.false_and] at hlaw
       obtain ⟨t1, t2⟩ := tkA_no (b := b) hlaw.symm
       rw [t1, t2, noA_T]
       rw [(putA_no hm).1, (putA_no hm).2] at hp
       repeat refine St (And.intro n1 <| And.intro n2 <| And.intro hof <| And.intro hwe <| And.intro he2 <| he3) ct17 ?_
       refine AWP.weak (Wn 2 [7] 41 (.by [])) ?_
       refine AWP.weak (Wb 2 [8] 42 (.sq 69 [])) ?_
       refine AWP.weak (Wb 2 [10] 48 (.sq 32 [])) ?_
       repeat refine St (And.intro n3 <| And.intro hn <| And.intro he2 <| he3) ct17 ?_
       refine AWP.weak (Weak.freeze 3) ?_
       refine AWP.weak (Weak.freeze 5) ?_
       refine AWP.weak (Weak.thawBx (y := .st [.int .u8 (a.op.toNat : Int), .int .i64 a.e, .ba 32 a.name.1, .int .u32 (a.hgt.toNat : Int), .ar 4 1 [.int .u64 (a.work.a.toNat : Int), .int .u64 (a.work.b.toNat : Int), .int .u64 (a.work.c.toNat : Int), .int .u64 (a.work.d.toNat : Int)], .int .u64 (a.val.toNat : Int), .bool a.fst, .by a.bts, .sq 69 [], .ar 5 1 (a.nums.1.map nT), .sq 32 (a.nams.map hT)]) 2 rfl rfl) ?_
       refine AWP.weak (S' := ⟨[(0, .t (.by b)), (2, .ptr 0 0 []), (3, .t (.int .i64 0)), (4, .ptr 1 0 []), (5, .ptr 2 0 [])], [.bx (.t (.st [.int .u8 0, .int .i64 0, .ba 32 (zby 32), .int .u32 0, .ar 4 1 [.int .u64 0, .int .u64 0, .int .u64 0, .int .u64 0], .int .u64 0, .bool false, .nil, .nil, .ar 5 1 [.int .u32 0, .int .u32 0, .int .u32 0, .int .u32 0, .int .u32 0], .nil])), .bx (.t (.st [.by b3, .bool true])), .bx (.t (.st [.int .u8 (a.op.toNat : Int), .int .i64 a.e, .ba 32 a.name.1, .int .u32 (a.hgt.toNat : Int), .ar 4 1 [.int .u64 (a.work.a.toNat : Int), .int .u64 (a.work.b.toNat : Int), .int .u64 (a.work.c.toNat : Int), .int .u64 (a.work.d.toNat : Int)], .int .u64 (a.val.toNat : Int), .bool a.fst, .by a.bts, .sq 69 [], .ar 5 1 (a.nums.1.map nT), .sq 32 (a.nams.map hT)]))]⟩) (Wt @freezeOne.eq_def [0, 2, 3, 4, 5] [0, 1, 2]) ?_
       repeat refine St (And.intro hn <| And.intro hp <| he2) ct17 ?_
       exact AWP.ret (Fin trivial [] [])
     | true =>
     rw [hm, Bool.true_and] at hlaw
     rw [(putA_yes hm).1, (putA_yes hm).2] at hp
     by_cases hd : bytA a = b
     case neg =>
       rw [decide_eq_false hd] at hlaw
       obtain ⟨t1, t2⟩ := tkA_no (b := b) hlaw.symm
       rw [t1, t2, noA_T]
       generalize bytA a = D at *
       have hne : (D == b) = false := by rw [beq_eq_false_iff_ne]; exact hd
       have hne2 : (D != b) = true := by rw [bne_iff_ne]; exact hd
       repeat refine St (And.intro n1 <| And.intro n2 <| And.intro hof <| And.intro hwe <| And.intro he2 <| he3) ct17 ?_
       refine AWP.weak (Wn 2 [7] 41 (.by [])) ?_
       refine AWP.weak (Wb 2 [8] 42 (.sq 69 [])) ?_
       refine AWP.weak (Wb 2 [10] 48 (.sq 32 [])) ?_
       repeat refine St (And.intro n3 <| And.intro hn <| And.intro he2 <| he3) ct17 ?_
       refine AWP.weak (Weak.freeze 3) ?_
       refine AWP.weak (Weak.freeze 5) ?_
       refine AWP.weak (Weak.thawBx (y := .st [.int .u8 (a.op.toNat : Int), .int .i64 a.e, .ba 32 a.name.1, .int .u32 (a.hgt.toNat : Int), .ar 4 1 [.int .u64 (a.work.a.toNat : Int), .int .u64 (a.work.b.toNat : Int), .int .u64 (a.work.c.toNat : Int), .int .u64 (a.work.d.toNat : Int)], .int .u64 (a.val.toNat : Int), .bool a.fst, .by a.bts, .sq 69 [], .ar 5 1 (a.nums.1.map nT), .sq 32 (a.nams.map hT)]) 2 rfl rfl) ?_
       refine AWP.weak (S' := ⟨[(0, .t (.by b)), (2, .ptr 0 0 []), (3, .t (.int .i64 0)), (4, .ptr 1 0 []), (5, .ptr 2 0 [])], [.bx (.t (.st [.int .u8 0, .int .i64 0, .ba 32 (zby 32), .int .u32 0, .ar 4 1 [.int .u64 0, .int .u64 0, .int .u64 0, .int .u64 0], .int .u64 0, .bool false, .nil, .nil, .ar 5 1 [.int .u32 0, .int .u32 0, .int .u32 0, .int .u32 0, .int .u32 0], .nil])), .bx (.t (.st [.by b3, .bool true])), .bx (.t (.st [.int .u8 (a.op.toNat : Int), .int .i64 a.e, .ba 32 a.name.1, .int .u32 (a.hgt.toNat : Int), .ar 4 1 [.int .u64 (a.work.a.toNat : Int), .int .u64 (a.work.b.toNat : Int), .int .u64 (a.work.c.toNat : Int), .int .u64 (a.work.d.toNat : Int)], .int .u64 (a.val.toNat : Int), .bool a.fst, .by a.bts, .sq 69 [], .ar 5 1 (a.nums.1.map nT), .sq 32 (a.nams.map hT)]))]⟩) (Wt @freezeOne.eq_def [0, 2, 3, 4, 5] [0, 1, 2]) ?_
       repeat refine St (And.intro hn <| And.intro hp <| And.intro he2 <| And.intro hne <| hne2) ct17 ?_
       exact AWP.ret (Fin trivial [] [])
     rw [decide_eq_true hd] at hlaw
     obtain ⟨t1, t2⟩ := tkA_yes (b := b) hlaw.symm
     have t3 := hsame hlaw.symm
     rw [t1, t2, ← t3, aT_st, wT_st, e1]
     simp only [List.map_nil]
     have heq : (bytA a == b) = true := by rw [beq_iff_eq]; exact hd
     have heq2 : (bytA a != b) = false := by rw [bne_eq_false_iff_eq]; exact hd
     generalize bytA a = D at *
     repeat refine St (And.intro n1 <| And.intro n2 <| And.intro hof <| And.intro hwe <| And.intro he2 <| he3) ct17 ?_
     refine AWP.weak (Wn 2 [7] 41 (.by [])) ?_
     refine AWP.weak (Wb 2 [8] 42 (.sq 69 [])) ?_
     refine AWP.weak (Wb 2 [10] 48 (.sq 32 [])) ?_
     repeat refine St (And.intro n3 <| And.intro hn <| And.intro he2 <| he3) ct17 ?_
     refine AWP.weak (Weak.freeze 3) ?_
     refine AWP.weak (Weak.freeze 5) ?_
     refine AWP.weak (Weak.thawBx (y := .st [.int .u8 (a.op.toNat : Int), .int .i64 a.e, .ba 32 a.name.1, .int .u32 (a.hgt.toNat : Int), .ar 4 1 [.int .u64 (a.work.a.toNat : Int), .int .u64 (a.work.b.toNat : Int), .int .u64 (a.work.c.toNat : Int), .int .u64 (a.work.d.toNat : Int)], .int .u64 (a.val.toNat : Int), .bool a.fst, .by a.bts, .sq 69 [], .ar 5 1 (a.nums.1.map nT), .sq 32 (a.nams.map hT)]) 2 rfl rfl) ?_
     refine AWP.weak (S' := ⟨[(0, .t (.by b)), (2, .ptr 0 0 []), (3, .t (.int .i64 0)), (4, .ptr 1 0 []), (5, .ptr 2 0 [])], [.bx (.t (.st [.int .u8 0, .int .i64 0, .ba 32 (zby 32), .int .u32 0, .ar 4 1 [.int .u64 0, .int .u64 0, .int .u64 0, .int .u64 0], .int .u64 0, .bool false, .nil, .nil, .ar 5 1 [.int .u32 0, .int .u32 0, .int .u32 0, .int .u32 0, .int .u32 0], .nil])), .bx (.t (.st [.by b3, .bool true])), .bx (.t (.st [.int .u8 (a.op.toNat : Int), .int .i64 a.e, .ba 32 a.name.1, .int .u32 (a.hgt.toNat : Int), .ar 4 1 [.int .u64 (a.work.a.toNat : Int), .int .u64 (a.work.b.toNat : Int), .int .u64 (a.work.c.toNat : Int), .int .u64 (a.work.d.toNat : Int)], .int .u64 (a.val.toNat : Int), .bool a.fst, .by a.bts, .sq 69 [], .ar 5 1 (a.nums.1.map nT), .sq 32 (a.nams.map hT)]))]⟩) (Wt @freezeOne.eq_def [0, 2, 3, 4, 5] [0, 1, 2]) ?_
     repeat refine St (And.intro hn <| And.intro hp <| And.intro he2 <| And.intro heq <| heq2) ct17 ?_
     exact AWP.ret (Fin trivial [] [])
   · rw [hR] at n3
     (try dsimp only at n3)
     rw [ansV_st, wT_st] at n3
     rw [e1, e2] at hp
     simp only [List.map_nil] at hp
     cases hw : w3 with
     | false =>
       subst hw
       obtain ⟨t1, t2⟩ := tkA_no (b := b) (by rw [← hlaw]; rfl)
       rw [t1, t2, noA_T]
       generalize putA a = X at *
       generalize putAe a = Y at *
       repeat refine St (And.intro n1 <| And.intro n2 <| And.intro hof <| And.intro hwe <| And.intro he2 <| he3) ct17 ?_
       refine AWP.weak (Wn 2 [7] 41 (.by [])) ?_
       refine AWP.weak (Wb 2 [8] 42 (.sq 69 [])) ?_
       refine AWP.weak (Wb 2 [10] 48 (.sq 32 [])) ?_
       repeat refine St (And.intro n3 <| And.intro hn <| And.intro he2 <| he3) ct17 ?_
       refine AWP.weak (Weak.freeze 3) ?_
       refine AWP.weak (Weak.freeze 4) ?_
       refine AWP.weak (Weak.thawBx (y := .st [.int .u8 (a.op.toNat : Int), .int .i64 a.e, .ba 32 a.name.1, .int .u32 (a.hgt.toNat : Int), .ar 4 1 [.int .u64 (a.work.a.toNat : Int), .int .u64 (a.work.b.toNat : Int), .int .u64 (a.work.c.toNat : Int), .int .u64 (a.work.d.toNat : Int)], .int .u64 (a.val.toNat : Int), .bool a.fst, .by a.bts, .sq 69 [], .ar 5 1 (a.nums.1.map nT), .sq 32 []]) 2 rfl rfl) ?_
       refine AWP.weak (S' := ⟨[(0, .t (.by b)), (2, .ptr 0 0 []), (3, .t (.int .i64 0)), (4, .ptr 1 0 []), (5, .ptr 2 0 [])], [.bx (.t (.st [.int .u8 0, .int .i64 0, .ba 32 (zby 32), .int .u32 0, .ar 4 1 [.int .u64 0, .int .u64 0, .int .u64 0, .int .u64 0], .int .u64 0, .bool false, .nil, .nil, .ar 5 1 [.int .u32 0, .int .u32 0, .int .u32 0, .int .u32 0, .int .u32 0], .nil])), .bx (.t (.st [.by b3, .bool false])), .bx (.t (.st [.int .u8 (a.op.toNat : Int), .int .i64 a.e, .ba 32 a.name.1, .int .u32 (a.hgt.toNat : Int), .ar 4 1 [.int .u64 (a.work.a.toNat : Int), .int .u64 (a.work.b.toNat : Int), .int .u64 (a.work.c.toNat : Int), .int .u64 (a.work.d.toNat : Int)], .int .u64 (a.val.toNat : Int), .bool a.fst, .by a.bts, .sq 69 [], .ar 5 1 (a.nums.1.map nT), .sq 32 []]))]⟩) (Wt @freezeOne.eq_def [0, 2, 3, 4, 5] [0, 1, 2]) ?_
       repeat refine St (And.intro hn <| And.intro hp <| he2) ct17 ?_
       exact AWP.ret (Fin trivial [] [])
     | true =>
     subst hw
     rw [Bool.true_and] at hlaw
     cases hm : mayA a with
     | false =>
       rw [hm, Bool.false_and] at hlaw
       obtain ⟨t1, t2⟩ := tkA_no (b := b) hlaw.symm
       rw [t1, t2, noA_T]
       rw [(putA_no hm).1, (putA_no hm).2] at hp
       repeat refine St (And.intro n1 <| And.intro n2 <| And.intro hof <| And.intro hwe <| And.intro he2 <| he3) ct17 ?_
       refine AWP.weak (Wn 2 [7] 41 (.by [])) ?_
       refine AWP.weak (Wb 2 [8] 42 (.sq 69 [])) ?_
       refine AWP.weak (Wb 2 [10] 48 (.sq 32 [])) ?_
       repeat refine St (And.intro n3 <| And.intro hn <| And.intro he2 <| he3) ct17 ?_
       refine AWP.weak (Weak.freeze 3) ?_
       refine AWP.weak (Weak.freeze 4) ?_
       refine AWP.weak (Weak.thawBx (y := .st [.int .u8 (a.op.toNat : Int), .int .i64 a.e, .ba 32 a.name.1, .int .u32 (a.hgt.toNat : Int), .ar 4 1 [.int .u64 (a.work.a.toNat : Int), .int .u64 (a.work.b.toNat : Int), .int .u64 (a.work.c.toNat : Int), .int .u64 (a.work.d.toNat : Int)], .int .u64 (a.val.toNat : Int), .bool a.fst, .by a.bts, .sq 69 [], .ar 5 1 (a.nums.1.map nT), .sq 32 []]) 2 rfl rfl) ?_
       refine AWP.weak (S' := ⟨[(0, .t (.by b)), (2, .ptr 0 0 []), (3, .t (.int .i64 0)), (4, .ptr 1 0 []), (5, .ptr 2 0 [])], [.bx (.t (.st [.int .u8 0, .int .i64 0, .ba 32 (zby 32), .int .u32 0, .ar 4 1 [.int .u64 0, .int .u64 0, .int .u64 0, .int .u64 0], .int .u64 0, .bool false, .nil, .nil, .ar 5 1 [.int .u32 0, .int .u32 0, .int .u32 0, .int .u32 0, .int .u32 0], .nil])), .bx (.t (.st [.by b3, .bool true])), .bx (.t (.st [.int .u8 (a.op.toNat : Int), .int .i64 a.e, .ba 32 a.name.1, .int .u32 (a.hgt.toNat : Int), .ar 4 1 [.int .u64 (a.work.a.toNat : Int), .int .u64 (a.work.b.toNat : Int), .int .u64 (a.work.c.toNat : Int), .int .u64 (a.work.d.toNat : Int)], .int .u64 (a.val.toNat : Int), .bool a.fst, .by a.bts, .sq 69 [], .ar 5 1 (a.nums.1.map nT), .sq 32 []]))]⟩) (Wt @freezeOne.eq_def [0, 2, 3, 4, 5] [0, 1, 2]) ?_
       repeat refine St (And.intro hn <| And.intro hp <| he2) ct17 ?_
       exact AWP.ret (Fin trivial [] [])
     | true =>
     rw [hm, Bool.true_and] at hlaw
     rw [(putA_yes hm).1, (putA_yes hm).2] at hp
     by_cases hd : bytA a = b
     case neg =>
       rw [decide_eq_false hd] at hlaw
       obtain ⟨t1, t2⟩ := tkA_no (b := b) hlaw.symm
       rw [t1, t2, noA_T]
       generalize bytA a = D at *
       have hne : (D == b) = false := by rw [beq_eq_false_iff_ne]; exact hd
       have hne2 : (D != b) = true := by rw [bne_iff_ne]; exact hd
       repeat refine St (And.intro n1 <| And.intro n2 <| And.intro hof <| And.intro hwe <| And.intro he2 <| he3) ct17 ?_
       refine AWP.weak (Wn 2 [7] 41 (.by [])) ?_
       refine AWP.weak (Wb 2 [8] 42 (.sq 69 [])) ?_
       refine AWP.weak (Wb 2 [10] 48 (.sq 32 [])) ?_
       repeat refine St (And.intro n3 <| And.intro hn <| And.intro he2 <| he3) ct17 ?_
       refine AWP.weak (Weak.freeze 3) ?_
       refine AWP.weak (Weak.freeze 4) ?_
       refine AWP.weak (Weak.thawBx (y := .st [.int .u8 (a.op.toNat : Int), .int .i64 a.e, .ba 32 a.name.1, .int .u32 (a.hgt.toNat : Int), .ar 4 1 [.int .u64 (a.work.a.toNat : Int), .int .u64 (a.work.b.toNat : Int), .int .u64 (a.work.c.toNat : Int), .int .u64 (a.work.d.toNat : Int)], .int .u64 (a.val.toNat : Int), .bool a.fst, .by a.bts, .sq 69 [], .ar 5 1 (a.nums.1.map nT), .sq 32 []]) 2 rfl rfl) ?_
       refine AWP.weak (S' := ⟨[(0, .t (.by b)), (2, .ptr 0 0 []), (3, .t (.int .i64 0)), (4, .ptr 1 0 []), (5, .ptr 2 0 [])], [.bx (.t (.st [.int .u8 0, .int .i64 0, .ba 32 (zby 32), .int .u32 0, .ar 4 1 [.int .u64 0, .int .u64 0, .int .u64 0, .int .u64 0], .int .u64 0, .bool false, .nil, .nil, .ar 5 1 [.int .u32 0, .int .u32 0, .int .u32 0, .int .u32 0, .int .u32 0], .nil])), .bx (.t (.st [.by b3, .bool true])), .bx (.t (.st [.int .u8 (a.op.toNat : Int), .int .i64 a.e, .ba 32 a.name.1, .int .u32 (a.hgt.toNat : Int), .ar 4 1 [.int .u64 (a.work.a.toNat : Int), .int .u64 (a.work.b.toNat : Int), .int .u64 (a.work.c.toNat : Int), .int .u64 (a.work.d.toNat : Int)], .int .u64 (a.val.toNat : Int), .bool a.fst, .by a.bts, .sq 69 [], .ar 5 1 (a.nums.1.map nT), .sq 32 []]))]⟩) (Wt @freezeOne.eq_def [0, 2, 3, 4, 5] [0, 1, 2]) ?_
       repeat refine St (And.intro hn <| And.intro hp <| And.intro he2 <| And.intro hne <| hne2) ct17 ?_
       exact AWP.ret (Fin trivial [] [])
     rw [decide_eq_true hd] at hlaw
     obtain ⟨t1, t2⟩ := tkA_yes (b := b) hlaw.symm
     have t3 := hsame hlaw.symm
     rw [t1, t2, ← t3, aT_st, wT_st, e1, e2]
     simp only [List.map_nil]
     have heq : (bytA a == b) = true := by rw [beq_iff_eq]; exact hd
     have heq2 : (bytA a != b) = false := by rw [bne_eq_false_iff_eq]; exact hd
     generalize bytA a = D at *
     repeat refine St (And.intro n1 <| And.intro n2 <| And.intro hof <| And.intro hwe <| And.intro he2 <| he3) ct17 ?_
     refine AWP.weak (Wn 2 [7] 41 (.by [])) ?_
     refine AWP.weak (Wb 2 [8] 42 (.sq 69 [])) ?_
     refine AWP.weak (Wb 2 [10] 48 (.sq 32 [])) ?_
     repeat refine St (And.intro n3 <| And.intro hn <| And.intro he2 <| he3) ct17 ?_
     refine AWP.weak (Weak.freeze 3) ?_
     refine AWP.weak (Weak.freeze 4) ?_
     refine AWP.weak (Weak.thawBx (y := .st [.int .u8 (a.op.toNat : Int), .int .i64 a.e, .ba 32 a.name.1, .int .u32 (a.hgt.toNat : Int), .ar 4 1 [.int .u64 (a.work.a.toNat : Int), .int .u64 (a.work.b.toNat : Int), .int .u64 (a.work.c.toNat : Int), .int .u64 (a.work.d.toNat : Int)], .int .u64 (a.val.toNat : Int), .bool a.fst, .by a.bts, .sq 69 [], .ar 5 1 (a.nums.1.map nT), .sq 32 []]) 2 rfl rfl) ?_
     refine AWP.weak (S' := ⟨[(0, .t (.by b)), (2, .ptr 0 0 []), (3, .t (.int .i64 0)), (4, .ptr 1 0 []), (5, .ptr 2 0 [])], [.bx (.t (.st [.int .u8 0, .int .i64 0, .ba 32 (zby 32), .int .u32 0, .ar 4 1 [.int .u64 0, .int .u64 0, .int .u64 0, .int .u64 0], .int .u64 0, .bool false, .nil, .nil, .ar 5 1 [.int .u32 0, .int .u32 0, .int .u32 0, .int .u32 0, .int .u32 0], .nil])), .bx (.t (.st [.by b3, .bool true])), .bx (.t (.st [.int .u8 (a.op.toNat : Int), .int .i64 a.e, .ba 32 a.name.1, .int .u32 (a.hgt.toNat : Int), .ar 4 1 [.int .u64 (a.work.a.toNat : Int), .int .u64 (a.work.b.toNat : Int), .int .u64 (a.work.c.toNat : Int), .int .u64 (a.work.d.toNat : Int)], .int .u64 (a.val.toNat : Int), .bool a.fst, .by a.bts, .sq 69 [], .ar 5 1 (a.nums.1.map nT), .sq 32 []]))]⟩) (Wt @freezeOne.eq_def [0, 2, 3, 4, 5] [0, 1, 2]) ?_
     repeat refine St (And.intro hn <| And.intro hp <| And.intro he2 <| And.intro heq <| heq2) ct17 ?_
     exact AWP.ret (Fin trivial [] [])
 · rw [if_neg he] at hlaw hsame
   have he2 : ((e.toNat : Int) == 0) = false := by rw [beq_eq_false_iff_ne]; exact fun h => he (UInt8.toNat_inj.1 (by show e.toNat = 0; omega))
   have hp := rpua_c (a := bareA c (e.toNat : Int)) (Nat.zero_le _)
   have hsh : aT (bareA c (e.toNat : Int)) = .st [.int .u8 (c.toNat : Int), .int .i64 (e.toNat : Int), .ba 32 (zby 32), .int .u32 0, .ar 4 1 [.int .u64 0, .int .u64 0, .int .u64 0, .int .u64 0], .int .u64 0, .bool false, .by [], .sq 69 [], .ar 5 1 [.int .u32 0, .int .u32 0, .int .u32 0, .int .u32 0, .int .u32 0], .sq 32 []] := rfl
   rw [hsh] at hp
   generalize hA : bareA c (e.toNat : Int) = a at *
   dsimp only at hlaw hsame
   cases hw : w2 with
   | false =>
     subst hw
     obtain ⟨t1, t2⟩ := tkA_no (b := b) (by rw [← hlaw]; rfl)
     rw [t1, t2, noA_T]
     generalize putA a = X at *
     generalize putAe a = Y at *
     repeat refine St (And.intro n1 <| And.intro n2 <| And.intro hof <| And.intro hwe <| he2) ct17 ?_
     refine AWP.weak (Wn 2 [7] 41 (.by [])) ?_
     refine AWP.weak (Wn 2 [8] 42 (.sq 69 [])) ?_
     refine AWP.weak (Wn 2 [10] 48 (.sq 32 [])) ?_
     repeat refine St (And.intro hp <| he2) ct17 ?_
     exact AWP.ret (Fin trivial [] [])
   | true =>
   subst hw
   rw [Bool.true_and] at hlaw
   cases hm : mayA a with
   | false =>
     rw [hm, Bool.false_and] at hlaw
     obtain ⟨t1, t2⟩ := tkA_no (b := b) hlaw.symm
     rw [t1, t2, noA_T]
     rw [(putA_no hm).1, (putA_no hm).2] at hp
     repeat refine St (And.intro n1 <| And.intro n2 <| And.intro hof <| And.intro hwe <| he2) ct17 ?_
     refine AWP.weak (Wn 2 [7] 41 (.by [])) ?_
     refine AWP.weak (Wn 2 [8] 42 (.sq 69 [])) ?_
     refine AWP.weak (Wn 2 [10] 48 (.sq 32 [])) ?_
     repeat refine St (And.intro hp <| he2) ct17 ?_
     exact AWP.ret (Fin trivial [] [])
   | true =>
   rw [hm, Bool.true_and] at hlaw
   rw [(putA_yes hm).1, (putA_yes hm).2] at hp
   by_cases hd : bytA a = b
   case neg =>
     rw [decide_eq_false hd] at hlaw
     obtain ⟨t1, t2⟩ := tkA_no (b := b) hlaw.symm
     rw [t1, t2, noA_T]
     generalize bytA a = D at *
     have hne : (D == b) = false := by rw [beq_eq_false_iff_ne]; exact hd
     have hne2 : (D != b) = true := by rw [bne_iff_ne]; exact hd
     repeat refine St (And.intro n1 <| And.intro n2 <| And.intro hof <| And.intro hwe <| he2) ct17 ?_
     refine AWP.weak (Wn 2 [7] 41 (.by [])) ?_
     refine AWP.weak (Wn 2 [8] 42 (.sq 69 [])) ?_
     refine AWP.weak (Wn 2 [10] 48 (.sq 32 [])) ?_
     repeat refine St (And.intro hp <| And.intro he2 <| And.intro hne <| hne2) ct17 ?_
     exact AWP.ret (Fin trivial [] [])
   rw [decide_eq_true hd] at hlaw
   obtain ⟨t1, t2⟩ := tkA_yes (b := b) hlaw.symm
   have t3 := hsame hlaw.symm
   rw [t1, t2, ← t3, hsh]
   have heq : (bytA a == b) = true := by rw [beq_iff_eq]; exact hd
   have heq2 : (bytA a != b) = false := by rw [bne_eq_false_iff_eq]; exact hd
   generalize bytA a = D at *
   repeat refine St (And.intro n1 <| And.intro n2 <| And.intro hof <| And.intro hwe <| he2) ct17 ?_
   refine AWP.weak (Wn 2 [7] 41 (.by [])) ?_
   refine AWP.weak (Wn 2 [8] 42 (.sq 69 [])) ?_
   refine AWP.weak (Wn 2 [10] 48 (.sq 32 [])) ?_
   repeat refine St (And.intro hp <| And.intro he2 <| And.intro heq <| heq2) ct17 ?_
   exact AWP.ret (Fin trivial [] [])
theorem rtaa_c {b : List UInt8} (h : b.length ≤ 549740000000) : F17 [.by b] = some ([], .tup [.t (aT (tkA b)), .t (.int .i64 (tkAe b))]) := if_pos h
end Go.Fw

end

section
namespace Go.Fw
open Go Go.Proofs
noncomputable def F4 : Fun
 | [.by b] => some ([], .t (.bool true))
 | _ => none
theorem ct4 : CT [(9, ⟨[], treeG F9⟩), (16, ⟨[false], treeG F16⟩), (17, ⟨[false], treeG F17⟩), (18, ⟨[false, false], treeG F18⟩), (19, ⟨[false], treeG F19⟩)] [0, 2, 3, 4, 5, 6, 7, 10] [(6, [⟨1, [], [], []⟩, ⟨0, [25], [0], []⟩, ⟨1, [4], [0], []⟩, ⟨1, [27], [0, 2], []⟩, ⟨1, [6], [0], []⟩, ⟨1, [28, 29], [0, 2, 3, 4], []⟩, ⟨0, [26, 30], [0, 2, 3, 4, 5], []⟩, ⟨0, [31], [0, 2, 3, 4, 5], []⟩, ⟨0, [5], [0, 2, 3, 4, 5], []⟩, ⟨0, [7], [0, 2, 3, 4, 5], []⟩, ⟨0, [33, 34], [0, 2, 3, 4, 5], []⟩, ⟨0, [32, 35], [0, 2, 3, 4, 5], []⟩, ⟨0, [36], [0, 2, 3, 4, 5], []⟩, ⟨0, [3], [0, 2, 3, 4, 5], []⟩, ⟨1, [38], [0, 2, 3, 4, 5], []⟩, ⟨0, [0], [0, 2, 3, 4, 5], []⟩, ⟨1, [40], [0, 2, 3, 4, 5], []⟩, ⟨0, [39, 41], [0, 2, 3, 4, 5, 14, 16], []⟩, ⟨0, [37, 42], [0, 2, 3, 4, 5, 14, 16], []⟩, ⟨0, [43], [0, 2, 3, 4, 5, 14, 16], []⟩])] := ⟨(.cons c9.g (.cons c16.g (.cons c17.g (.cons c18.g (.cons c19.g (.nil _))))))⟩
theorem tkA_few (b : List UInt8) : (tkA b).ents.length ≤ 200 := by
 cases hr : (readA b).2 with
 | false => rw [(tkA_no hr).1]; exact Nat.zero_le _
 | true =>
   rw [(tkA_yes hr).1]
   exact (mayA_ok (readA_ok hr).1).2.2.2.2.1
set_option maxRecDepth 20000 in
set_option maxHeartbeats 8000000 in
theorem c4 : ACon Try.prog 4 F4 := by
 refine aconc E_ok (rs := [.tmp 2 4]) Try.func4 rfl Try.ntmps4 (by kernel_rfl) rfl (by decide) F4 (np := 1) ?_ ?_
 · intro ts h; unfold F4; split <;> first | rfl | (simp at h; done)
 intro ts H r hF hwf
 unfold F4 at hF
 split at hF <;> try (cases hF; done)
 rename_i b
 cases hF
 by_cases hA : 600 < (b.length : Int)
 · repeat refine St (And.intro hA <| @F9.eq_def) ct4 ?_
   exact AWP.ret (Fin trivial [] [])
 have h1 := taa_c (b := b) (by omega)
 have h2 := rtaa_c (b := b) (by omega)
 have h3 := anst_c (a := tkA b) (Nat.le_trans (tkA_few b) (by omega))
 have h4 := rsamea_c (tkA b) (tkA b)
 rw [decide_eq_true rfl] at h4
 generalize tkA b = a at *
 generalize tkAe b = e at *
 have hn := a.name.2
 rw [aT_st, wT_st] at h1 h2 h3 h4
 have r1 : (e == e) = true := beq_self_eq_true _
 have r2 : (b == b) = true := beq_self_eq_true _
 repeat refine St (And.intro hA <| And.intro h1 <| And.intro h2 <| And.intro h3 <| And.intro h4 <| And.intro hn <| And.intro r1 <| And.intro r2 <| @F9.eq_def) ct4 ?_
 exact AWP.ret (Fin trivial [] [])
end Go.Fw

end
