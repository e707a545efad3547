/- The abstract machine, and the contracts of the code: part 51. -/
import Derived.Test.YtpolkmkaokpjaaaP50

section
/- Chapter 17: DigestMessage, DigestAnnex, DigestWhich: their code walked. -/
namespace Go.Fw
open Go Go.Proofs
set_option linter.unusedVariables false
set_option linter.unusedSimpArgs false

noncomputable def F5 : Fun
  | [y, .by leaf, .by annex] => match inv spT y with
    | some s => some ([], .t (.bool true))
    | none => none
  | _ => none

theorem ct5 : CT [(8, ⟨[], treeG F8⟩), (17, ⟨[false], treeG F17⟩), (18, ⟨[false, false, false], treeG F18⟩), (19, ⟨[false, false, false], treeG F19⟩), (20, ⟨[false], treeG F20⟩), (21, ⟨[false], treeG F21⟩)] [0, 1, 2, 3, 6, 7, 8, 9, 10, 23] [(5, [⟨1, [], [], []⟩, ⟨0, [39], [0], []⟩, ⟨1, [7], [0], []⟩, ⟨1, [9], [0], []⟩, ⟨0, [41, 42], [0, 2, 3], []⟩, ⟨0, [40, 43], [0, 2, 3], []⟩, ⟨0, [44], [0, 2, 3], []⟩, ⟨0, [8], [0, 2, 3], []⟩, ⟨0, [10], [0, 2, 3], []⟩, ⟨0, [46, 47], [0, 2, 3], []⟩, ⟨0, [45, 48], [0, 2, 3], []⟩, ⟨0, [49], [0, 2, 3], []⟩, ⟨1, [3], [0, 2, 3], []⟩, ⟨1, [51], [0, 2, 3, 12], []⟩, ⟨1, [3], [0, 2, 3], []⟩, ⟨1, [53], [0, 2, 3, 12, 13, 14], []⟩, ⟨0, [52, 54], [0, 2, 3, 12, 13, 14, 15], []⟩, ⟨0, [50, 55], [0, 2, 3, 12, 13, 14, 15], []⟩, ⟨0, [56], [0, 2, 3, 12, 13, 14, 15], []⟩])] := ⟨(.cons c8.g (.cons c17.g (.cons c18.g (.cons c19.g (.cons c20.g (.cons c21.g (.nil _)))))))⟩

set_option maxHeartbeats 2000000 in
theorem c5 : ACon Try.prog 5 F5 := by
  refine aconc E_ok (rs := [.tmp 6 4]) Try.func5 rfl Try.ntmps5 (by kernel_rfl) rfl (by decide) F5 (np := 3) ?_ ?_
  · intro ts h; unfold F5; split <;> first | rfl | (simp at h; done)
  intro ts H r hF hwf
  unfold F5 at hF
  split at hF <;> try (cases hF; done)
  rename_i y leaf annex
  split at hF <;> try (cases hF; done)
  rename_i s hs
  cases hF
  obtain rfl := inv_inv hs
  have h0 := rsmalls_d s
  by_cases hl : 300 < (leaf.length : Int)
  · cases hsm : smallS s with
    | false =>
      rw [hsm] at h0
      rw [spT_st] at h0 ⊢
      repeat refine St (And.intro h0 <| @F8.eq_def) ct5 ?_
      exact AWP.ret (Fin trivial [] [])
    | true =>
      rw [hsm] at h0
      rw [spT_st] at h0 ⊢
      repeat refine St (And.intro h0 <| And.intro hl <| @F8.eq_def) ct5 ?_
      exact AWP.ret (Fin trivial [] [])
  by_cases ha : 300 < (annex.length : Int)
  · cases hsm : smallS s with
    | false =>
      rw [hsm] at h0
      rw [spT_st] at h0 ⊢
      repeat refine St (And.intro h0 <| @F8.eq_def) ct5 ?_
      exact AWP.ret (Fin trivial [] [])
    | true =>
      rw [hsm] at h0
      rw [spT_st] at h0 ⊢
      repeat refine St (And.intro h0 <| And.intro hl <| And.intro ha <| @F8.eq_def) ct5 ?_
      exact AWP.ret (Fin trivial [] [])
  cases hsm : smallS s with
  | false =>
    rw [hsm] at h0
    rw [spT_st] at h0 ⊢
    repeat refine St (And.intro h0 <| @F8.eq_def) ct5 ?_
    exact AWP.ret (Fin trivial [] [])
  | true =>
    rw [hsm] at h0
    have h1 := msg_d s (leaf := leaf) (annex := annex) (by omega) (by omega)
    have h2 := rmsg_d s (leaf := leaf) (annex := annex) (by omega) (by omega)
    have h3 := checks_d s
    have h4 := rchecks_d s
    have l1 := msgM_len s leaf annex
    rw [spT_st] at h0 h1 h2 h3 h4 ⊢
    generalize msgM s leaf annex = x1 at *
    generalize msgE s leaf = x2 at *
    generalize chkS s = x3 at *
    have r1 : (x1 == x1) = true := beq_self_eq_true _
    have r2 : (x2 == x2) = true := beq_self_eq_true _
    have r3 : (x3 == x3) = true := beq_self_eq_true _
    repeat refine St (And.intro h0 <| And.intro hl <| And.intro ha <| And.intro h1 <| And.intro h2 <| And.intro h3 <| And.intro h4 <| And.intro l1 <| And.intro r1 <| And.intro r2 <| And.intro r3 <| @F8.eq_def) ct5 ?_
    exact AWP.ret (Fin trivial [] [])

theorem shx_msg (a : TSp) (l m : List UInt8) : F5 [spT a, .by l, .by m] = some ([], .t (.bool true)) := by simp only [F5, inv_of spT_inj]

def F3 : Fun
  | [.sq 1 xs] => match asBys xs with
    | some l => some ([], .t (.bool true))
    | none => none
  | _ => none

theorem ct3 : CT [(8, ⟨[], treeG F8⟩), (9, ⟨[false], treeG F9⟩), (10, ⟨[false], treeG F10⟩), (11, ⟨[false, false], treeG F11⟩)] [0, 2, 3, 4, 5, 6, 7, 8, 11, 16, 24] [] := ⟨(.cons c8.g (.cons c9.g (.cons c10.g (.cons c11.g (.nil _)))))⟩

theorem sames_c (l m : List (List UInt8)) : F11 [.sq 1 (l.map .by), .sq 1 (m.map .by)] = some ([], .t (.bool (l == m))) := by
  simp only [F11, asBys_map]

set_option maxHeartbeats 2000000 in
theorem c3 : ACon Try.prog 3 F3 := by
  refine aconc E_ok (rs := [.tmp 2 4]) Try.func3 rfl Try.ntmps3 (by kernel_rfl) rfl (by decide) F3 (np := 1) ?_ ?_
  · intro ts h; unfold F3; split <;> first | rfl | (simp at h; done)
  intro ts H r hF hwf
  unfold F3 at hF
  split at hF <;> try (cases hF; done)
  rename_i xs
  split at hF <;> try (cases hF; done)
  rename_i l hl
  cases hF
  obtain rfl := asBys_inv hl
  by_cases hn : 12 < (l.length : Int)
  · repeat refine St (And.intro hn <| @F8.eq_def) ct3 ?_
    exact AWP.ret (Fin trivial [] [])
  repeat refine St hn ct3 ?_
  refine AWP.loop (G := { i : Nat // i ≤ l.length ∧ annOk (l.take i) = true }) (fun i => ⟨[(0, .t (.sq 1 (l.map .by))), (3, .t (.int .i64 (i.1 : Int)))], []⟩) (fun i => l.length - i.1) ⟨0, by omega, rfl⟩ (Wt trivial [0, 3] []) ?_
  intro ⟨i, hi, ha⟩
  dsimp only
  by_cases hlt : (i : Int) < (l.length : Int)
  · have hlt' : i < l.length := by omega
    have hget := map_getD l i hlt'
    have hal := all_take (fun x : List UInt8 => decide (x.length ≤ 100000000)) [] l i hlt'
    generalize l.getD i [] = x at *
    by_cases hb : 300 < (x.length : Int)
    · repeat refine St (And.intro hlt <| And.intro hlt' <| And.intro hget <| And.intro hb <| @F8.eq_def) ct3 ?_
      exact AWP.ret (Fin trivial [] [])
    · have ha2 : annOk (l.take (i + 1)) = true := by
        unfold annOk at ha ⊢
        rw [hal, ha, decide_eq_true (by omega)]; rfl
      repeat refine St (And.intro hlt <| And.intro hlt' <| And.intro hget <| hb) ct3 ?_
      exact ⟨⟨i + 1, by omega, ha2⟩, (Wt trivial [0, 3] []), by simp only; omega⟩
  obtain rfl : i = l.length := by omega
  rw [List.take_length] at ha
  have h1 := annex_c (l := l) (by omega) ha
  have h2 := rannex_c (l := l) (by omega)
  have h3 := sames_c (annR l) (annR l)
  have h4 := sames_c l l
  rw [beq_self_eq_true] at h3 h4
  generalize annR l = R at *
  generalize annA l = A at *
  have r1 : (A == A) = true := beq_self_eq_true _
  have hll : (l.map T.by).length ≤ 1000 := by simp; omega
  repeat refine St (And.intro hlt <| And.intro h1 <| And.intro h2 <| And.intro h3 <| And.intro h4 <| And.intro r1 <| And.intro hll <| @F8.eq_def) ct3 ?_
  exact AWP.ret (Fin trivial [] [])

noncomputable def F7 : Fun
  | [y, .by leaf] => match inv spT y with
    | some s => some ([], .t (.bool true))
    | none => none
  | _ => none

theorem ct7 : CT [(8, ⟨[], treeG F8⟩), (13, ⟨[false, false], treeG F13⟩), (17, ⟨[false], treeG F17⟩), (18, ⟨[false, false, false], treeG F18⟩)] [0, 1, 2, 4, 5, 6, 7, 8, 9, 10, 18, 80] [] := ⟨(.cons c8.g (.cons c13.g (.cons c17.g (.cons c18.g (.nil _)))))⟩

set_option maxRecDepth 20000 in
set_option maxHeartbeats 8000000 in
theorem c7 : ACon Try.prog 7 F7 := by
  refine aconc E_ok (rs := [.tmp 4 4]) Try.func7 rfl Try.ntmps7 (by kernel_rfl) rfl (by decide) F7 (np := 2) ?_ ?_
  · intro ts h; unfold F7; split <;> first | rfl | (simp at h; done)
  intro ts H r hF hwf
  unfold F7 at hF
  split at hF <;> try (cases hF; done)
  rename_i y leaf
  split at hF <;> try (cases hF; done)
  rename_i s hs
  cases hF
  obtain rfl := inv_inv hs
  have h0 := rsmalls_d s
  cases hsm : smallS s with
  | false =>
    rw [hsm] at h0
    rw [spT_st] at h0 ⊢
    repeat refine St (And.intro h0 <| @F8.eq_def) ct7 ?_
    exact AWP.ret (Fin trivial [] [])
  | true =>
  rw [hsm] at h0
  by_cases hl : 300 < (leaf.length : Int)
  · rw [spT_st] at h0 ⊢
    repeat refine St (And.intro h0 <| And.intro hl <| @F8.eq_def) ct7 ?_
    exact AWP.ret (Fin trivial [] [])
  have h1 := tpl_d s.tx s.idx
  have h2 := msg_d s (leaf := leaf) (annex := []) (by omega) (by simp)
  have l1 := tplL_len s.tx s.idx
  have l2 := msgM_len s leaf []
  have he : (tplE s.tx s.idx = 0 ∧ 0 ≤ s.idx ∧ s.idx < (s.tx.ins.length : Int)) ∨ (tplE s.tx s.idx = 1 ∧ tplL s.tx s.idx = zby 32 ∧ okTp s.tx s.idx = false) := by
    cases h : okTp s.tx s.idx with
    | true =>
      refine .inl ⟨if_pos h, ?_⟩
      simp only [okTp, Bool.and_eq_true, decide_eq_true_eq] at h
      exact ⟨h.1.2, h.2⟩
    | false => exact .inr ⟨if_neg (by rw [h]; simp), if_neg (by rw [h]; simp), rfl⟩
  have hf : (msgE s leaf = 0 ∧ okTp s.tx s.idx = true ∧ s.spent.length = s.tx.ins.length ∧ (leaf.length = 0 ∨ leaf.length = 32)) ∨ (msgE s leaf = 1 ∧ msgM s leaf [] = zby 32) := by
    cases h : okM s leaf with
    | true =>
      refine .inl ⟨if_pos h, ?_⟩
      simp only [okM, Bool.and_eq_true, Bool.or_eq_true, decide_eq_true_eq] at h
      obtain ⟨f1, f2, f3, f4, f5⟩ := okS_ok h.1
      exact ⟨okTp_of f1 f3 f4, f2, h.2⟩
    | false => exact .inr ⟨if_neg (by rw [h]; simp), if_neg (by rw [h]; simp)⟩
  have hins : s.tx.ins.length ≤ 6 := (smallT_ok (smallS_ok hsm).1).1
  have hspl : s.spent.length ≤ 8 := (smallS_ok hsm).2.1
  rw [txT_st] at h1
  rw [spT_st] at h0 h2 ⊢
  generalize tplL s.tx s.idx = a at *
  generalize tplE s.tx s.idx = e at *
  generalize msgM s leaf [] = b at *
  generalize msgE s leaf = f at *
  generalize okTp s.tx s.idx = okt at *
  obtain ⟨⟨v, is, os, k⟩, ix, sp⟩ := s
  dsimp only at *
  clear hs hsm
  have z0 : (zby 32 == zby 32) = true := beq_self_eq_true _
  rcases hf with ⟨rfl, rfl, g1, g2⟩ | ⟨rfl, rfl⟩
  · rcases he with ⟨rfl, k1, k2⟩ | ⟨_, _, hno⟩
    case inr => cases hno
    have k3' : ((sp.length : Int) == (is.length : Int)) = true := by rw [beq_iff_eq]; omega
    rcases g2 with g2 | g2
    · have k4' : ((leaf.length : Int) == 0) = true := by rw [beq_iff_eq]; omega
      repeat refine St (And.intro h0 <| And.intro hl <| And.intro h1 <| And.intro h2 <| And.intro l1 <| And.intro l2 <| And.intro z0 <| And.intro k1 <| And.intro k2 <| And.intro k3' <| And.intro k4' <| @F8.eq_def) ct7 ?_
      exact AWP.ret (Fin trivial [] [])
    · have k4' : ((leaf.length : Int) == 0) = false := by rw [beq_eq_false_iff_ne]; omega
      have k5' : ((leaf.length : Int) == 32) = true := by rw [beq_iff_eq]; omega
      repeat refine St (And.intro h0 <| And.intro hl <| And.intro h1 <| And.intro h2 <| And.intro l1 <| And.intro l2 <| And.intro z0 <| And.intro k1 <| And.intro k2 <| And.intro k3' <| And.intro k4' <| And.intro k5' <| @F8.eq_def) ct7 ?_
      exact AWP.ret (Fin trivial [] [])
  · rcases he with ⟨rfl, k1, k2⟩ | ⟨rfl, rfl, _⟩
    · skip
      by_cases k3 : sp.length = is.length
      · have k3' : ((sp.length : Int) == (is.length : Int)) = true := by rw [beq_iff_eq]; omega
        by_cases k4 : leaf.length = 0
        · have k4' : ((leaf.length : Int) == 0) = true := by rw [beq_iff_eq]; omega
          repeat refine St (And.intro h0 <| And.intro hl <| And.intro h1 <| And.intro h2 <| And.intro l1 <| And.intro l2 <| And.intro z0 <| And.intro k1 <| And.intro k2 <| And.intro k3' <| And.intro k4' <| @F8.eq_def) ct7 ?_
          exact AWP.ret (Fin trivial [] [])
        have k4' : ((leaf.length : Int) == 0) = false := by rw [beq_eq_false_iff_ne]; omega
        by_cases k5 : leaf.length = 32
        · have k5' : ((leaf.length : Int) == 32) = true := by rw [beq_iff_eq]; omega
          repeat refine St (And.intro h0 <| And.intro hl <| And.intro h1 <| And.intro h2 <| And.intro l1 <| And.intro l2 <| And.intro z0 <| And.intro k1 <| And.intro k2 <| And.intro k3' <| And.intro k4' <| And.intro k5' <| @F8.eq_def) ct7 ?_
          exact AWP.ret (Fin trivial [] [])
        · have k5' : ((leaf.length : Int) == 32) = false := by rw [beq_eq_false_iff_ne]; omega
          repeat refine St (And.intro h0 <| And.intro hl <| And.intro h1 <| And.intro h2 <| And.intro l1 <| And.intro l2 <| And.intro z0 <| And.intro k1 <| And.intro k2 <| And.intro k3' <| And.intro k4' <| And.intro k5' <| @F8.eq_def) ct7 ?_
          exact AWP.ret (Fin trivial [] [])
      · have k3' : ((sp.length : Int) == (is.length : Int)) = false := by rw [beq_eq_false_iff_ne]; omega
        repeat refine St (And.intro h0 <| And.intro hl <| And.intro h1 <| And.intro h2 <| And.intro l1 <| And.intro l2 <| And.intro z0 <| And.intro k1 <| And.intro k2 <| And.intro k3' <| @F8.eq_def) ct7 ?_
        exact AWP.ret (Fin trivial [] [])
    · by_cases k1 : 0 ≤ ix
      · by_cases k2 : ix < (is.length : Int)
        · skip
          by_cases k3 : sp.length = is.length
          · have k3' : ((sp.length : Int) == (is.length : Int)) = true := by rw [beq_iff_eq]; omega
            by_cases k4 : leaf.length = 0
            · have k4' : ((leaf.length : Int) == 0) = true := by rw [beq_iff_eq]; omega
              repeat refine St (And.intro h0 <| And.intro hl <| And.intro h1 <| And.intro h2 <| And.intro l1 <| And.intro l2 <| And.intro z0 <| And.intro k1 <| And.intro k2 <| And.intro k3' <| And.intro k4' <| @F8.eq_def) ct7 ?_
              exact AWP.ret (Fin trivial [] [])
            have k4' : ((leaf.length : Int) == 0) = false := by rw [beq_eq_false_iff_ne]; omega
            by_cases k5 : leaf.length = 32
            · have k5' : ((leaf.length : Int) == 32) = true := by rw [beq_iff_eq]; omega
              repeat refine St (And.intro h0 <| And.intro hl <| And.intro h1 <| And.intro h2 <| And.intro l1 <| And.intro l2 <| And.intro z0 <| And.intro k1 <| And.intro k2 <| And.intro k3' <| And.intro k4' <| And.intro k5' <| @F8.eq_def) ct7 ?_
              exact AWP.ret (Fin trivial [] [])
            · have k5' : ((leaf.length : Int) == 32) = false := by rw [beq_eq_false_iff_ne]; omega
              repeat refine St (And.intro h0 <| And.intro hl <| And.intro h1 <| And.intro h2 <| And.intro l1 <| And.intro l2 <| And.intro z0 <| And.intro k1 <| And.intro k2 <| And.intro k3' <| And.intro k4' <| And.intro k5' <| @F8.eq_def) ct7 ?_
              exact AWP.ret (Fin trivial [] [])
          · have k3' : ((sp.length : Int) == (is.length : Int)) = false := by rw [beq_eq_false_iff_ne]; omega
            repeat refine St (And.intro h0 <| And.intro hl <| And.intro h1 <| And.intro h2 <| And.intro l1 <| And.intro l2 <| And.intro z0 <| And.intro k1 <| And.intro k2 <| And.intro k3' <| @F8.eq_def) ct7 ?_
            exact AWP.ret (Fin trivial [] [])
        · skip
          repeat refine St (And.intro h0 <| And.intro hl <| And.intro h1 <| And.intro h2 <| And.intro l1 <| And.intro l2 <| And.intro z0 <| And.intro k1 <| And.intro k2 <| @F8.eq_def) ct7 ?_
          exact AWP.ret (Fin trivial [] [])
      · skip
        repeat refine St (And.intro h0 <| And.intro hl <| And.intro h1 <| And.intro h2 <| And.intro l1 <| And.intro l2 <| And.intro z0 <| And.intro k1 <| @F8.eq_def) ct7 ?_
        exact AWP.ret (Fin trivial [] [])

theorem shx_which (a : TSp) (l : List UInt8) : F7 [spT a, .by l] = some ([], .t (.bool true)) := by simp only [F7, inv_of spT_inj]

end Go.Fw

end
