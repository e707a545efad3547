/- The abstract machine, and the contracts of the code: part 53. -/
import Derived.Test.YtpolkmkaokpjaaaP52

section
/- Chapter 17: DigestFree: its code walked. -/
namespace Go.Fw
open Go Go.Proofs
set_option linter.unusedVariables false
set_option linter.unusedSimpArgs false

def witF (th : List UInt8) (x : TIn) : TIn := ⟨x.prev, x.idx, x.seq, [th]⟩
def othF (o : H32) (x : TIn) : TIn := ⟨o, x.idx, x.seq, []⟩
def mapI (f : TIn → TIn) (t : TTx) : TTx := ⟨t.ver, t.ins.map f, t.outs, t.lock⟩
theorem seqs_map (f : TIn → TIn) (hf : ∀ x, (f x).seq = x.seq) (l : List TIn) : seqsL (l.map f) = seqsL l := by
  unfold seqsL
  have : cat seqB9 (l.map f) = cat seqB9 l := by
    unfold cat; rw [List.map_map]; congr 1; apply List.map_congr_left; intro x _
    show le 4 ((f x).seq.toNat : Int) = le 4 (x.seq.toNat : Int)
    rw [hf]
  rw [this]
theorem refs_map (f : TIn → TIn) (hf : ∀ x, (f x).prev = x.prev ∧ (f x).idx = x.idx) (l : List TIn) : refsL (l.map f) = refsL l := by
  unfold refsL
  have : cat refB9 (l.map f) = cat refB9 l := by
    unfold cat; rw [List.map_map]; congr 1; apply List.map_congr_left; intro x _
    show (f x).prev.1 ++ le 4 ((f x).idx.toNat : Int) = x.prev.1 ++ le 4 (x.idx.toNat : Int)
    rw [(hf x).1, (hf x).2]
  rw [this]
theorem tpl_map (f : TIn → TIn) (hf : ∀ x, (f x).seq = x.seq) {t : TTx} {i : Int} (h1 : fitsB t = true) (h2 : fitsB (mapI f t) = true) (h3 : 0 ≤ i) (h4 : i < (t.ins.length : Int)) :
    tplL (mapI f t) i = tplL t i ∧ tplE (mapI f t) i = 0 ∧ tplE t i = 0 := by
  have k1 := okTp_of h1 h3 h4
  have k2 : okTp (mapI f t) i = true := okTp_of h2 h3 (by show i < ((t.ins.map f).length : Int); rw [List.length_map]; exact h4)
  have e : tplB (mapI f t) i = tplB t i := by
    unfold tplB mapI
    dsimp only
    rw [seqs_map f hf, List.length_map]
  refine ⟨?_, if_pos k2, if_pos k1⟩
  rw [show tplL (mapI f t) i = shaL (tplB (mapI f t) i) from if_pos k2, show tplL t i = shaL (tplB t i) from if_pos k1, e]
theorem msg_map (th : List UInt8) {s : TSp} (h1 : okS s = true) (h2 : fitsB (mapI (witF th) s.tx) = true) :
    msgM ⟨mapI (witF th) s.tx, s.idx, s.spent⟩ [] [] = msgM s [] [] ∧ msgE ⟨mapI (witF th) s.tx, s.idx, s.spent⟩ [] = 0 ∧ msgE s [] = 0 := by
  obtain ⟨f1, f2, f3, f4, f5⟩ := okS_ok h1
  have k1 : okM s [] = true := okM_yes h1 (.inl rfl)
  have k2 : okM ⟨mapI (witF th) s.tx, s.idx, s.spent⟩ [] = true := by
    refine okM_yes ?_ (.inl rfl)
    have hl : (mapI (witF th) s.tx).ins.length = s.tx.ins.length := List.length_map ..
    simp only [okS, Bool.and_eq_true, decide_eq_true_eq, hl]
    exact ⟨⟨⟨⟨h2, f2⟩, f3⟩, f4⟩, f5⟩
  have e : msgL9 ⟨mapI (witF th) s.tx, s.idx, s.spent⟩ [] [] = msgL9 s [] [] := by
    unfold msgL9 headM hshM mapI
    dsimp only
    rw [seqs_map (witF th) (fun _ => rfl), refs_map (witF th) (fun _ => ⟨rfl, rfl⟩)]
  refine ⟨?_, if_pos k2, if_pos k1⟩
  rw [show msgM ⟨mapI (witF th) s.tx, s.idx, s.spent⟩ [] [] = tagL tagM (msgL9 ⟨mapI (witF th) s.tx, s.idx, s.spent⟩ [] []) from if_pos k2, show msgM s [] [] = tagL tagM (msgL9 s [] []) from if_pos k1, e]

noncomputable def F6 : Fun
  | [y, .ba 32 o, .by th] => match inv spT y with
    | some s => some ([], .t (.bool true))
    | none => none
  | _ => none

theorem ct6 : CT [(8, ⟨[], treeG F8⟩), (13, ⟨[false, false], treeG F13⟩), (17, ⟨[false], treeG F17⟩), (18, ⟨[false, false, false], treeG F18⟩), (20, ⟨[false], treeG F20⟩), (22, ⟨[false], treeG F22⟩)] [0, 1, 2, 3, 4, 6, 7, 8, 9, 10, 11, 12, 13, 14, 15, 16, 17, 18, 19, 32, 52, 76] [] := ⟨(.cons c8.g (.cons c13.g (.cons c17.g (.cons c18.g (.cons c20.g (.cons c22.g (.nil _)))))))⟩

set_option maxRecDepth 20000 in
set_option maxHeartbeats 8000000 in
theorem c6 : ACon Try.prog 6 F6 := by
  refine aconc E_ok (rs := [.tmp 6 4]) Try.func6 rfl Try.ntmps6 (by kernel_rfl) rfl (by decide) F6 (np := 3) ?_ ?_
  · intro ts h; unfold F6; split <;> first | rfl | (simp at h; done)
  intro ts H r hF hwf
  unfold F6 at hF
  split at hF <;> try (cases hF; done)
  rename_i y o th
  split at hF <;> try (cases hF; done)
  rename_i s hs
  cases hF
  have ho : o.length = 32 := hwf (.ba 32 o) (by simp)
  obtain rfl := inv_inv hs
  have h0 := rsmalls_d s
  cases hsm : smallS s with
  | false =>
    rw [hsm] at h0
    rw [spT_st] at h0 ⊢
    repeat refine St (And.intro h0 <| And.intro ho <| @F8.eq_def) ct6 ?_
    exact AWP.ret (Fin trivial [] [])
  | true =>
  rw [hsm] at h0
  by_cases hl : 300 < (th.length : Int)
  · rw [spT_st] at h0 ⊢
    repeat refine St (And.intro h0 <| And.intro hl <| And.intro ho <| @F8.eq_def) ct6 ?_
    exact AWP.ret (Fin trivial [] [])
  have h1 := checks_d s
  rcases chkS_two s with ⟨c1, c2⟩ | ⟨c1, c2⟩
  case inr =>
    rw [c1] at h1
    rw [spT_st] at h0 h1 ⊢
    repeat refine St (And.intro h0 <| And.intro hl <| And.intro h1 <| And.intro ho <| @F8.eq_def) ct6 ?_
    exact AWP.ret (Fin trivial [] [])
  rw [c1] at h1
  obtain ⟨f1, f2, f3, f4, f5⟩ := okS_ok c2
  have hins : s.tx.ins.length ≤ 6 := (smallT_ok (smallS_ok hsm).1).1
  have fu : fitsB (mapI (othF ⟨o, ho⟩) s.tx) = true := fits_strip (othF ⟨o, ho⟩) (fun _ => rfl) f1
  have q1 := rcheck_c (mapI (witF th) s.tx)
  have q2 := tpl_d s.tx s.idx
  have q3 := tpl_d (mapI (witF th) s.tx) s.idx
  have q4 := tpl_d (mapI (othF ⟨o, ho⟩) s.tx) s.idx
  have q5 := msg_d s (leaf := []) (annex := []) (by simp) (by simp)
  have q6 := msg_d ⟨mapI (witF th) s.tx, s.idx, s.spent⟩ (leaf := []) (annex := []) (by simp) (by simp)
  obtain ⟨u1, u2, u3⟩ := tpl_map (othF ⟨o, ho⟩) (fun _ => rfl) f1 fu f3 f4
  rw [u3] at q2
  rw [u1, u2] at q4
  have hl1 := tplL_len s.tx s.idx
  have hl2 := msgM_len s [] []
  have hfit : (chkE (mapI (witF th) s.tx) = 0 ∧ fitsB (mapI (witF th) s.tx) = true) ∨ chkE (mapI (witF th) s.tx) = 4 := by
    rcases chk_two (mapI (witF th) s.tx) with ⟨e1, e2, e3⟩ | ⟨e1, e2⟩
    · exact .inl ⟨e1, fit_of e2 e3⟩
    · exact .inr e1
  have ht1 : ∀ _ : fitsB (mapI (witF th) s.tx) = true, tplL (mapI (witF th) s.tx) s.idx = tplL s.tx s.idx ∧ tplE (mapI (witF th) s.tx) s.idx = 0 := fun h =>
    let ⟨a, b, _⟩ := tpl_map (witF th) (fun _ => rfl) f1 h f3 f4
    ⟨a, b⟩
  have ht2 : ∀ _ : fitsB (mapI (witF th) s.tx) = true, msgM ⟨mapI (witF th) s.tx, s.idx, s.spent⟩ [] [] = msgM s [] [] ∧ msgE ⟨mapI (witF th) s.tx, s.idx, s.spent⟩ [] = 0 ∧ msgE s [] = 0 := fun h => msg_map th c2 h
  have hT1 : txT (mapI (witF th) s.tx) = .st [.int .u32 (s.tx.ver.toNat : Int), .sq 35 ((s.tx.ins.map (witF th)).map inT), .sq 2 (s.tx.outs.map outT), .int .u32 (s.tx.lock.toNat : Int)] := rfl
  have hT2 : txT (mapI (othF ⟨o, ho⟩) s.tx) = .st [.int .u32 (s.tx.ver.toNat : Int), .sq 35 ((s.tx.ins.map (othF ⟨o, ho⟩)).map inT), .sq 2 (s.tx.outs.map outT), .int .u32 (s.tx.lock.toNat : Int)] := rfl
  have hT3 : spT ⟨mapI (witF th) s.tx, s.idx, s.spent⟩ = .st [.st [.int .u32 (s.tx.ver.toNat : Int), .sq 35 ((s.tx.ins.map (witF th)).map inT), .sq 2 (s.tx.outs.map outT), .int .u32 (s.tx.lock.toNat : Int)], .int .i64 s.idx, .sq 2 (s.spent.map outT)] := rfl
  rw [hT1] at q1 q3
  rw [hT2] at q4
  rw [hT3] at q6
  rw [txT_st] at q2
  rw [spT_st] at h0 h1 q5 ⊢
  clear hT1 hT2 hT3
  generalize chkE (mapI (witF th) s.tx) = ce at *
  generalize fitsB (mapI (witF th) s.tx) = ft at *
  generalize tplL (mapI (witF th) s.tx) s.idx = a2 at *
  generalize tplE (mapI (witF th) s.tx) s.idx = a3 at *
  generalize tplL s.tx s.idx = a1 at *
  generalize msgM ⟨mapI (witF th) s.tx, s.idx, s.spent⟩ [] [] = m2 at *
  generalize msgE ⟨mapI (witF th) s.tx, s.idx, s.spent⟩ [] = m3 at *
  generalize msgM s [] [] = m1 at *
  generalize msgE s [] = m4 at *
  obtain ⟨⟨v, is, os, k⟩, ix, sp⟩ := s
  dsimp only at *
  clear u1 u2 u3 fu f1 f2 f5 c1 c2 hs hsm
  have hll : (is.map inT).length ≤ 1000 := by simp; omega
  repeat refine St (And.intro h0 <| And.intro hl <| And.intro h1 <| And.intro ho <| hll) ct6 ?_
  refine AWP.loop (G := { i : Nat // i ≤ is.length }) (fun i => ⟨[(2, .t (.by th)), (3, .ptr 0 0 []), (4, .ptr 1 0 []), (7, .ptr 2 0 []), (8, .ptr 3 0 []), (9, .t (.int .i64 (i.1 : Int)))], [.bx (.t (.st [.st [.int .u32 (v.toNat : Int), .sq 35 (is.map inT), .sq 2 (os.map outT), .int .u32 (k.toNat : Int)], .int .i64 ix, .sq 2 (sp.map outT)])), .bx (.t (.ba 32 o)), .bx (.st [.t (.int .u32 (v.toNat : Int)), .own 4, .t (.sq 2 (os.map outT)), .t (.int .u32 (k.toNat : Int))]), .bx (.st [.t (.int .u32 (v.toNat : Int)), .own 5, .t (.sq 2 (os.map outT)), .t (.int .u32 (k.toNat : Int))]), .sq 35 ((mixI (witF th) i.1 is).map inT), .sq 35 ((mixI (othF ⟨o, ho⟩) i.1 is).map inT)]⟩) (fun i => is.length - i.1) ⟨0, by omega⟩ (Wt @mixI_0 [2, 3, 4, 7, 8, 9] [0, 1, 2, 5, 4, 7]) ?_
  intro ⟨i, hi⟩
  dsimp only
  have e1 : ((mixI (witF th) i is).map inT).length = is.length := by rw [List.length_map, mixI_len]
  have e2 : ((mixI (othF ⟨o, ho⟩) i is).map inT).length = is.length := by rw [List.length_map, mixI_len]
  by_cases hlt : (i : Int) < (is.length : Int)
  · have hlt' : i < is.length := by omega
    have g1 := in_getD (mixI (witF th) i is) i (by rw [mixI_len]; exact hlt')
    have g2 := in_getD (mixI (othF ⟨o, ho⟩) i is) i (by rw [mixI_len]; exact hlt')
    rw [mixI_get _ dIn hlt'] at g1 g2
    have s1 := mixI_set (witF th) dIn hlt'
    have s2 := mixI_set (othF ⟨o, ho⟩) dIn hlt'
    have t1 := map_set' inT (mixI (witF th) i is) i (witF th (is.getD i dIn))
    have t2 := map_set' inT (mixI (othF ⟨o, ho⟩) i is) i (othF ⟨o, ho⟩ (is.getD i dIn))
    rw [s1] at t1
    rw [s2] at t2
    generalize is.getD i dIn = x at *
    generalize (mixI (witF th) i is).map inT = L1 at *
    generalize (mixI (othF ⟨o, ho⟩) i is).map inT = L2 at *
    obtain ⟨⟨xp, xp32⟩, xi, xs, xw⟩ := x
    have g1' : L1.getD i default = .st [.st [.ba 32 xp, .int .u32 (xi.toNat : Int)], .int .u32 (xs.toNat : Int), .sq 1 (xw.map .by)] := g1
    have g2' : L2.getD i default = .st [.st [.ba 32 xp, .int .u32 (xi.toNat : Int)], .int .u32 (xs.toNat : Int), .sq 1 (xw.map .by)] := g2
    have t1' : L1.set i (.st [.st [.ba 32 xp, .int .u32 (xi.toNat : Int)], .int .u32 (xs.toNat : Int), .sq 1 [.by th]]) = (mixI (witF th) (i + 1) is).map inT := t1
    have t2' : L2.set i (.st [.st [.ba 32 o, .int .u32 (xi.toNat : Int)], .int .u32 (xs.toNat : Int), .sq 1 []]) = (mixI (othF ⟨o, ho⟩) (i + 1) is).map inT := t2
    have n1 : i < L1.length := by omega
    have n2 : i < L2.length := by omega
    have n3 : (L2.set i (.st [.st [.ba 32 xp, .int .u32 (xi.toNat : Int)], .int .u32 (xs.toNat : Int), .sq 1 []])).getD i default = .st [.st [.ba 32 xp, .int .u32 (xi.toNat : Int)], .int .u32 (xs.toNat : Int), .sq 1 []] := by
      rw [List.getD_eq_getElem?_getD, List.getElem?_set_self n2]; rfl
    have n4 : i < (L2.set i (.st [.st [.ba 32 xp, .int .u32 (xi.toNat : Int)], .int .u32 (xs.toNat : Int), .sq 1 []])).length := by rw [List.length_set]; exact n2
    have n5 : (i : Int) < (L1.length : Int) := by omega
    have n6 : (i : Int) < (L2.length : Int) := by omega
    have n7 : (i : Int) < ((L2.set i (.st [.st [.ba 32 xp, .int .u32 (xi.toNat : Int)], .int .u32 (xs.toNat : Int), .sq 1 []])).length : Int) := by omega
    have n8 : (L2.set i (.st [.st [.ba 32 xp, .int .u32 (xi.toNat : Int)], .int .u32 (xs.toNat : Int), .sq 1 []])).set i (.st [.st [.ba 32 o, .int .u32 (xi.toNat : Int)], .int .u32 (xs.toNat : Int), .sq 1 []]) = (mixI (othF ⟨o, ho⟩) (i + 1) is).map inT := by rw [List.set_set]; exact t2'
    repeat refine St (And.intro hlt <| And.intro hlt' <| And.intro e1 <| And.intro e2 <| And.intro g1' <| And.intro g2' <| And.intro n1 <| And.intro n2 <| And.intro n3 <| And.intro n4 <| And.intro n5 <| And.intro n6 <| And.intro n7 <| And.intro t1' <| And.intro n8 <| And.intro xp32 <| ho) ct6 ?_
    exact ⟨⟨i + 1, by omega⟩, (Wt trivial [2, 3, 4, 7, 8, 9] [0, 1, 2, 3, 4, 5]), by simp only; omega⟩
  obtain rfl : i = is.length := by omega
  repeat refine St (And.intro hlt <| And.intro e1 <| @mixI_all) ct6 ?_
  refine AWP.weak (Weak.freeze 4) ?_
  refine AWP.weak (Weak.freeze 5) ?_
  refine AWP.weak (Weak.thawBx (y := .st [.int .u32 (v.toNat : Int), .sq 35 ((is.map (witF th)).map inT), .sq 2 (os.map outT), .int .u32 (k.toNat : Int)]) 2 rfl rfl) ?_
  refine AWP.weak (Weak.thawBx (y := .st [.int .u32 (v.toNat : Int), .sq 35 ((is.map (othF ⟨o, ho⟩)).map inT), .sq 2 (os.map outT), .int .u32 (k.toNat : Int)]) 3 rfl rfl) ?_
  refine AWP.weak (S' := ⟨[(3, .ptr 0 0 []), (7, .ptr 1 0 []), (8, .ptr 2 0 [])], [.bx (.t (.st [.st [.int .u32 (v.toNat : Int), .sq 35 (is.map inT), .sq 2 (os.map outT), .int .u32 (k.toNat : Int)], .int .i64 ix, .sq 2 (sp.map outT)])), .bx (.t (.st [.int .u32 (v.toNat : Int), .sq 35 ((is.map (witF th)).map inT), .sq 2 (os.map outT), .int .u32 (k.toNat : Int)])), .bx (.t (.st [.int .u32 (v.toNat : Int), .sq 35 ((is.map (othF ⟨o, ho⟩)).map inT), .sq 2 (os.map outT), .int .u32 (k.toNat : Int)]))]⟩) (Wt (And.intro @freezeOne.eq_def <| @mixI_all) [3, 7, 8] [0, 2, 3]) ?_
  rcases hfit with ⟨rfl, rfl⟩ | rfl
  case inr =>
    repeat refine St (And.intro q1 <| @F8.eq_def) ct6 ?_
    exact AWP.ret (Fin trivial [] [])
  obtain ⟨rfl, rfl⟩ := ht1 rfl
  obtain ⟨rfl, rfl, rfl⟩ := ht2 rfl
  have r1 : (a2 == a2) = true := beq_self_eq_true _
  have r2 : (m2 == m2) = true := beq_self_eq_true _
  repeat refine St (And.intro q1 <| And.intro q2 <| And.intro q3 <| And.intro q4 <| And.intro q5 <| And.intro q6 <| And.intro hl1 <| And.intro hl2 <| And.intro r1 <| And.intro r2 <| @F8.eq_def) ct6 ?_
  exact AWP.ret (Fin trivial [] [])

theorem ba32_o {x : T} (h : (Sh.ba 32).has x) : ∃ l, x = .ba 32 l := by
  cases x <;> simp only [Sh.has] at h
  obtain ⟨rfl, h⟩ := h
  exact ⟨_, rfl⟩

theorem shx_free (a : TSp) (o : H32) (th : List UInt8) : F6 [spT a, .ba 32 o.1, .by th] = some ([], .t (.bool true)) := by simp only [F6, inv_of spT_inj]

end Go.Fw

end
