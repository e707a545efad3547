/- The abstract machine, and the contracts of the code: part 48. -/
import Derived.Test.YticnacaeibpicaaP47

section
/- Chapter 11: BlockOnly, BlockBack: their code walked. -/
namespace Go.Fw
open Go Go.Proofs
set_option linter.unusedVariables false
set_option linter.unusedSimpArgs false

def F5 : Fun
  | [.by b] => some ([], .t (.bool true))
  | _ => none

theorem ct5 : CT [(9, ⟨[], treeG F9⟩), (10, ⟨[false], treeG F10⟩), (19, ⟨[false], treeG F19⟩)] [0, 2, 3, 4, 5, 6, 9, 17] [] := ⟨(.cons c9.g (.cons c10.g (.cons c19.g (.nil _))))⟩

set_option maxHeartbeats 4000000 in
theorem c5 : ACon Try.prog 5 F5 := by
  refine aconc E_ok (rs := [.tmp 2 4]) Try.func5 rfl Try.ntmps5 (by kernel_rfl) rfl (by decide) F5 (np := 1) ?_ ?_
  · intro ts h; unfold F5; split <;> first | rfl | (simp at h; done)
  intro ts H r hF hwf
  unfold F5 at hF
  split at hF <;> try (cases hF; done)
  rename_i b
  cases hF
  by_cases hn : 2500 < (b.length : Int)
  · repeat refine St (And.intro hn <| @F9.eq_def) ct5 ?_
    exact AWP.ret (Fin trivial [] [])
  have h1 := decb_c (b := b) (by omega)
  cases hd : decBl b with
  | err e =>
    have he := decBl_err hd
    rw [hd, blR_err] at h1
    have heb : (e != 0) = true := by simpa using he
    repeat refine St (And.intro hn <| And.intro h1 <| And.intro heb <| @F9.eq_def) ct5 ?_
    exact AWP.ret (Fin trivial [] [])
  | ok x r =>
    obtain ⟨k1, k2, k3⟩ := decBl_only hd
    obtain ⟨e1, e2⟩ := encBl_yes k1
    have h2 := enc_b x
    rw [e1, e2, k2, blT_st] at h2
    rw [hd, blR_ok] at h1
    have g32a := x.hd.prev.2
    have g32b := x.hd.root.2
    have r3 : (b == b) = true := beq_self_eq_true _
    repeat refine St (And.intro hn <| And.intro h1 <| And.intro h2 <| And.intro r3 <| And.intro g32a <| And.intro g32b <| @F9.eq_def) ct5 ?_
    exact AWP.ret (Fin trivial [] [])

noncomputable def F7 : Fun
  | [y, .by h] => match inv blT y with
    | some b => some ([], .t (.bool true))
    | none => none
  | _ => none

theorem ct7 : CT [(9, ⟨[], treeG F9⟩), (10, ⟨[false], treeG F10⟩), (12, ⟨[false, false], treeG F12⟩), (13, ⟨[false], treeG F13⟩), (15, ⟨[false], treeG F15⟩), (19, ⟨[false], treeG F19⟩), (20, ⟨[false], treeG F20⟩), (22, ⟨[false], treeG F22⟩)] [0, 1, 2, 4, 5, 6, 7, 8, 9, 10, 11, 13, 15, 24, 50, 57, 72] [] := ⟨(.cons c9.g (.cons c10.g (.cons c12.g (.cons c13.g (.cons c15.g (.cons c19.g (.cons c20.g (.cons c22.g (.nil _)))))))))⟩

set_option maxRecDepth 20000 in
set_option maxHeartbeats 8000000 in
theorem c7 : ACon Try.prog 7 F7 := by
  refine aconc E_ok (rs := [.tmp 4 4]) Try.func7 rfl Try.ntmps7 (by kernel_rfl) rfl (by decide) F7 (np := 2) ?_ ?_
  · intro ts h; unfold F7; split <;> first | rfl | (simp at h; done)
  intro ts H r hF hwf
  unfold F7 at hF
  split at hF <;> try (cases hF; done)
  rename_i y h
  split at hF <;> try (cases hF; done)
  rename_i b hb
  cases hF
  obtain rfl := inv_inv hb
  have h0 := rsmallb_c b.txs
  have g32a := b.hd.prev.2
  have g32b := b.hd.root.2
  cases hs : smallBl b.txs with
  | false =>
    rw [hs] at h0
    rw [blT_st]
    repeat refine St (And.intro h0 <| And.intro g32a <| And.intro g32b <| @F9.eq_def) ct7 ?_
    exact AWP.ret (Fin trivial [] [])
  | true =>
  rw [hs] at h0
  by_cases hn : 2500 < (h.length : Int)
  · rw [blT_st]
    repeat refine St (And.intro h0 <| And.intro hn <| And.intro g32a <| And.intro g32b <| @F9.eq_def) ct7 ?_
    exact AWP.ret (Fin trivial [] [])
  have h1 := puth_c b.hd
  have hbl := hdB_len b.hd
  have h2 := takeh_c (b := hdB b.hd ++ h) (by simp; omega)
  have h2r : hdR (hdB b.hd ++ h) = ([], .tup [.t (hdT b.hd), .t (.by h), .t (.int .i64 0)]) := by
    unfold hdR
    rw [if_neg (by simp; omega), (hd_put b.hd _).1, (hd_put b.hd _).2]
  rw [h2r, hdT_st] at h2
  rw [hdT_st] at h1
  have h3 := enc_b b
  have h4 := chk_b b
  have hhh : (h != h) = false := bne_self_eq_false _
  have hll : (hdB b.hd).length + h.length ≤ 5000 := by omega
  clear h2r
  generalize hdB b.hd = B at *
  have hB1 : B.length ≤ 1000 := by omega
  cases hf : fitBl b with
  | false =>
    obtain ⟨e1, e2⟩ := encBl_no hf
    rw [e1, e2] at h3
    rw [e2] at h4
    rw [blT_st] at h3 h4 ⊢
    repeat refine St (And.intro h0 <| And.intro hn <| And.intro h1 <| And.intro h2 <| And.intro h3 <| And.intro h4 <| And.intro hhh <| And.intro hll <| And.intro hB1 <| And.intro g32a <| And.intro g32b <| @F9.eq_def) ct7 ?_
    exact AWP.ret (Fin trivial [] [])
  | true =>
    obtain ⟨e1, e2⟩ := encBl_yes hf
    rw [e1, e2] at h3
    rw [e2] at h4
    have hxl := (fitBl_ok hf).2.2
    have hx0 : 80 ≤ (blB b).length := by
      have := hdB_len b.hd
      simp only [blB, List.length_append]; omega
    have k1 := decb_c (b := blB b) (by omega)
    rw [decBl_put hf, blR_ok] at k1
    have k2 := decb_c (b := (blB b).take ((blB b).length - 1)) (by simp; omega)
    rw [decBl_cut hf (by omega), blR_err] at k2
    have k3 := decb_c (b := blB b ++ [UInt8.ofNat 0]) (by simp; omega)
    rw [decBl_more hf, blR_err] at k3
    have k4 := rsameb_c b b
    rw [decide_eq_true (p := b = b) rfl] at k4
    rw [blT_st] at h3 h4 k4 ⊢
    generalize blB b = X at *
    have hw : IntKind.i64.wrap ((X.length : Int) - 1) = ((X.length - 1 : Nat) : Int) := by rw [wrap_i64 (by omega) (by omega)]; omega
    obtain ⟨m, hm⟩ : ∃ m, X.length - 1 = m := ⟨_, rfl⟩
    rw [hm] at k2 hw
    have hmx : m ≤ X.length := by omega
    have c1 : ((X.length : Int) == 0) = false := by rw [beq_eq_false_iff_ne]; omega
    have c2 : X.length ≤ 50000 := by omega
    repeat refine St (And.intro h0 <| And.intro hn <| And.intro h1 <| And.intro h2 <| And.intro h3 <| And.intro h4 <| And.intro hhh <| And.intro hll <| And.intro hB1 <| And.intro c1 <| And.intro c2 <| And.intro hw <| And.intro hmx <| And.intro k1 <| And.intro k2 <| And.intro k3 <| And.intro k4 <| And.intro g32a <| And.intro g32b <| @F9.eq_def) ct7 ?_
    exact AWP.ret (Fin trivial [] [])

theorem shx_bback (a : TBl) (h : List UInt8) : F7 [blT a, .by h] = some ([], .t (.bool true)) := by simp only [F7, inv_of blT_inj]

end Go.Fw

end
