/- The abstract machine, and the contracts of the code: part 53. -/
import Derived.Test.YticnacaeibpicaaP52

section
/- Chapter 11: BlockRoot: its code walked. -/
namespace Go.Fw
open Go Go.Proofs
set_option linter.unusedVariables false
set_option linter.unusedSimpArgs false

noncomputable def F8 : Fun
  | [y, .ba 32 n] => match inv txsT y with
    | some l => some ([], .t (.bool true))
    | none => none
  | _ => none

theorem ct8 : CT [(9, ⟨[], treeG F9⟩), (20, ⟨[false], treeG F20⟩), (23, ⟨[false], treeG F23⟩), (24, ⟨[false], treeG F24⟩), (25, ⟨[false], treeG F25⟩), (26, ⟨[false], treeG F26⟩), (27, ⟨[false, false], treeG F27⟩), (28, ⟨[false, false], treeG F28⟩), (29, ⟨[false], treeG F29⟩)] [0, 1, 3, 4, 5, 6, 7, 8, 9, 10, 11, 14, 53] [(5, [⟨1, [5], [], []⟩, ⟨1, [7], [], []⟩, ⟨0, [26, 27], [0, 1], []⟩, ⟨0, [28], [0, 1], []⟩, ⟨0, [6], [0, 1], []⟩, ⟨0, [8], [0, 1], []⟩, ⟨0, [30, 31], [0, 1], []⟩, ⟨0, [29, 32], [0, 1], []⟩, ⟨0, [33], [0, 1], []⟩, ⟨0, [0], [0, 1], []⟩, ⟨1, [35], [0, 1], []⟩, ⟨0, [0], [0, 1], []⟩, ⟨1, [37], [0, 1, 10], []⟩, ⟨0, [36, 38], [0, 1, 10, 12], []⟩, ⟨0, [34, 39], [0, 1, 10, 12], []⟩, ⟨0, [40], [0, 1, 10, 12], []⟩, ⟨0, [0], [0, 1, 10, 12], []⟩, ⟨1, [3], [0, 1, 10, 12], []⟩, ⟨1, [42, 43], [0, 1, 10, 12, 17], []⟩, ⟨0, [0], [0, 1, 10, 12], []⟩, ⟨1, [3], [0, 1, 10, 12], []⟩, ⟨1, [45, 46], [0, 1, 10, 12, 17, 18, 20], []⟩, ⟨0, [44, 47], [0, 1, 10, 12, 17, 18, 20, 21], []⟩, ⟨0, [41, 48], [0, 1, 10, 12, 17, 18, 20, 21], []⟩, ⟨0, [49], [0, 1, 10, 12, 17, 18, 20, 21], []⟩]), (10, [⟨0, [9], [], []⟩, ⟨0, [61], [], []⟩, ⟨0, [0], [], []⟩, ⟨1, [11], [], []⟩, ⟨1, [63, 64], [3], []⟩, ⟨0, [0], [], []⟩, ⟨1, [11], [], []⟩, ⟨1, [66, 67], [3, 4, 6], []⟩, ⟨0, [65, 68], [3, 4, 6, 7], []⟩, ⟨0, [62, 69], [3, 4, 6, 7], []⟩, ⟨0, [70], [3, 4, 6, 7], []⟩])] := ⟨(.cons c9.g (.cons c20.g (.cons c23.g (.cons c24.g (.cons c25.g (.cons c26.g (.cons c27.g (.cons c28.g (.cons c29.g (.nil _))))))))))⟩

set_option maxRecDepth 20000 in
set_option maxHeartbeats 8000000 in
theorem c8 : ACon Try.prog 8 F8 := by
  refine aconc E_ok (rs := [.tmp 4 4]) Try.func8 rfl Try.ntmps8 (by kernel_rfl) rfl (by decide) F8 (np := 2) ?_ ?_
  · intro ts h; unfold F8; split <;> first | rfl | (simp at h; done)
  intro ts H r hF hwf
  unfold F8 at hF
  split at hF <;> try (cases hF; done)
  rename_i y n
  split at hF <;> try (cases hF; done)
  rename_i l hl
  cases hF
  have hn : n.length = 32 := hwf (.ba 32 n) (by simp)
  obtain rfl := inv_inv hl
  have h0 := rsmallb_c l
  dsimp only [txsT]
  cases hs : smallBl l with
  | false =>
    rw [hs] at h0
    repeat refine St (And.intro h0 <| And.intro hn <| @F9.eq_def) ct8 ?_
    exact AWP.ret (Fin trivial [] [])
  | true =>
  rw [hs] at h0
  have hl8 := (smallBl_ok hs).1
  have h1 := rot_b (l := l) (by omega)
  have h2 := rrot_b (l := l) (by omega)
  have h3 := wei_b (l := l) (by omega)
  have h4 := rwei_b (l := l) (by omega)
  have h5 := find_b l
  have h6 := rfind_b l
  have h5n := h5 n
  have h6n := h6 n
  have l1 := rotL_len l
  generalize rotL l = R at *
  obtain ⟨r, d⟩ := R
  dsimp only at h1 h2 l1
  generalize weiL l = w at *
  generalize fstI (isN n) l 0 = q at *
  have r1 : (r == r) = true := beq_self_eq_true _
  have r2 : (d == d) = true := by cases d <;> rfl
  have r3 : (w == w) = true := beq_self_eq_true _
  have r4 : (q == q) = true := beq_self_eq_true _
  repeat refine St (And.intro h0 <| And.intro hn <| And.intro h1 <| And.intro h2 <| And.intro h3 <| And.intro h4 <| And.intro h5n <| And.intro h6n <| And.intro l1 <| And.intro r1 <| And.intro r2 <| And.intro r3 <| r4) ct8 ?_
  refine AWP.loop (G := { i : Nat // i ≤ l.length }) (fun i => ⟨[(0, .t (.sq 4 (l.map txT))), (9, .t (.bool true)), (10, .t (.int .i64 (i.1 : Int)))], []⟩) (fun i => l.length - i.1) ⟨0, by omega⟩ (Wt trivial [0, 9, 10] []) ?_
  intro ⟨i, hi⟩
  dsimp only
  by_cases hlt : (i : Int) < (l.length : Int)
  · have hlt' : i < l.length := by omega
    have hget := tx_getD l i hlt'
    generalize l.getD i dTx = x at *
    have q1 := namx_t x
    have q2 := namO_len x
    rw [txT_st] at q1 hget
    generalize namO x = z at *
    have h5z := h5 z
    have h6z := h6 z
    generalize fstI (isN z) l 0 = p at *
    have r5 : (p == p) = true := beq_self_eq_true _
    repeat refine St (And.intro hlt <| And.intro hlt' <| And.intro hget <| And.intro q1 <| And.intro q2 <| And.intro h5z <| And.intro h6z <| r5) ct8 ?_
    exact ⟨⟨i + 1, by omega⟩, (Wt trivial [0, 9, 10] []), by simp only; omega⟩
  obtain rfl : i = l.length := by omega
  repeat refine St (And.intro hlt <| @F9.eq_def) ct8 ?_
  exact AWP.ret (Fin trivial [] [])

theorem txs_of {x : T} (h : (Sh.sq 4 shTx).has x) (hw : x.wf) : ∃ a, x = txsT a := by
  cases x <;> simp only [Sh.has] at h
  obtain ⟨rfl, h⟩ := h
  simp only [T.wf] at hw
  obtain ⟨l, rfl⟩ := list_of (fun x h w => tx_of h w) _ h hw.2.2.2
  exact ⟨l, rfl⟩
theorem ba32_o {x : T} (h : (Sh.ba 32).has x) : ∃ l, x = .ba 32 l := by
  cases x <;> simp only [Sh.has] at h
  obtain ⟨rfl, h⟩ := h
  exact ⟨_, rfl⟩

theorem shx_root (l : List TTx) (n : H32) : F8 [txsT l, .ba 32 n.1] = some ([], .t (.bool true)) := by simp only [F8, inv_of txsT_inj]

end Go.Fw

end
