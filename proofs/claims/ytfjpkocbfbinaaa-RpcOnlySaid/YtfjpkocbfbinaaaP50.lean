/- The abstract machine, and the contracts of the code: part 50. -/
import Derived.Test.YtfjpkocbfbinaaaP49

section
/- Chapter 33: RpcOnly: its code walked. -/
namespace Go.Fw
open Go Go.Proofs
set_option linter.unusedVariables false
set_option linter.unusedSimpArgs false

noncomputable def F7 : Fun
  | [.by b] => some ([], .t (.bool true))
  | _ => none

theorem ct7 : CT [(9, ⟨[], treeG F9⟩), (10, ⟨[false], treeG F10⟩), (13, ⟨[false], treeG F13⟩), (16, ⟨[false], treeG F16⟩), (18, ⟨[false, false], treeG F18⟩), (19, ⟨[false], treeG F19⟩), (21, ⟨[false], treeG F21⟩)] [0, 2, 3, 4, 5, 6, 7, 8, 9, 10, 13, 21, 35, 42] [] := ⟨(.cons c9.g (.cons c10.g (.cons c13.g (.cons c16.g (.cons c18.g (.cons c19.g (.cons c21.g (.nil _))))))))⟩

set_option maxRecDepth 20000 in
set_option maxHeartbeats 8000000 in
theorem c7 : ACon Try.prog 7 F7 := by
  refine aconc E_ok (rs := [.tmp 2 4]) Try.func7 rfl Try.ntmps7 (by kernel_rfl) rfl (by decide) F7 (np := 1) ?_ ?_
  · intro ts h; unfold F7; split <;> first | rfl | (simp at h; done)
  intro ts H r hF hwf
  unfold F7 at hF
  split at hF <;> try (cases hF; done)
  rename_i b
  cases hF
  by_cases hA : 600 < (b.length : Int)
  · repeat refine St (And.intro hA <| @F9.eq_def) ct7 ?_
    exact AWP.ret (Fin trivial [] [])
  have hbb : (b != b) = false := bne_self_eq_false _
  have hbe : (b == b) = true := beq_self_eq_true _
  have hq1 := taq_c (b := b) (by omega)
  have ha1 := taa_c (b := b) (by omega)
  have hq : (tkQe b = 3 ∧ True) ∨ (tkQe b = 0 ∧ F10 [qT (tkQ b)] = some ([], .tup [.t (.by b), .t (.int .i64 0)])) := by
    cases hr : (readQ b).2 with
    | false => exact .inl ⟨(tkQ_no hr).2, trivial⟩
    | true =>
      refine .inr ⟨(tkQ_yes hr).2, ?_⟩
      obtain ⟨h1, h2⟩ := readQ_ok hr
      rw [(tkQ_yes hr).1]
      have := puq_c (q := (readQ b).1) (by have := (mayQ_ok h1).2.2; omega)
      rw [(putQ_yesB h1).1, (putQ_yesB h1).2, show bodyK (kQ (readQ b).1.op) (readQ b).1 = bodyQ (readQ b).1 from rfl, h2] at this
      exact this
  have hqn := (tkQ b).name.2
  have ha : (tkAe b = 3 ∧ tkA b = noA) ∨ (tkAe b = 0 ∧ F21 [aT (tkA b)] = some ([], .tup [.t (.by b), .t (.int .i64 0)])) := by
    cases hr : (readA b).2 with
    | false => exact .inl ⟨(tkA_no hr).2, (tkA_no hr).1⟩
    | true =>
      refine .inr ⟨(tkA_yes hr).2, ?_⟩
      obtain ⟨h1, h2⟩ := readA_ok hr
      rw [(tkA_yes hr).1]
      have hs := (mayA_ok h1).2.2.2
      have := pua_c (a := (readA b).1) ⟨by have := hs.1; omega, by have := hs.2.1; omega, by have := hs.2.2.1; omega⟩
      rw [(putA_yes h1).1, (putA_yes h1).2, h2] at this
      exact this
  have hs1 := anst_c (a := noA) (Nat.zero_le _)
  have hs2 := rsamea_c noA noA
  rw [decide_eq_true rfl] at hs2
  rw [noA_T] at hs1 hs2
  generalize tkQ b = q at *
  generalize tkQe b = qe at *
  rw [qT_st] at hq1 hq
  rcases hq with ⟨rfl, _⟩ | ⟨rfl, hq2⟩
  · rcases ha with ⟨h1, h2⟩ | ⟨h1, h2⟩
    · rw [h1, h2, noA_T] at ha1
      repeat refine St (And.intro hA <| And.intro hq1 <| And.intro hqn <| And.intro ha1 <| And.intro hs1 <| And.intro hs2 <| @F9.eq_def) ct7 ?_
      exact AWP.ret (Fin trivial [] [])
    · rw [h1] at ha1
      generalize tkA b = a at *
      have han := a.name.2
      rw [aT_st, wT_st] at ha1 h2
      repeat refine St (And.intro hA <| And.intro hq1 <| And.intro hqn <| And.intro ha1 <| And.intro h2 <| And.intro han <| And.intro hbe <| @F9.eq_def) ct7 ?_
      exact AWP.ret (Fin trivial [] [])
  · rcases ha with ⟨h1, h2⟩ | ⟨h1, h2⟩
    · rw [h1, h2, noA_T] at ha1
      repeat refine St (And.intro hA <| And.intro hq1 <| And.intro hq2 <| And.intro hqn <| And.intro hbb <| And.intro ha1 <| And.intro hs1 <| And.intro hs2 <| @F9.eq_def) ct7 ?_
      exact AWP.ret (Fin trivial [] [])
    · rw [h1] at ha1
      generalize tkA b = a at *
      have han := a.name.2
      rw [aT_st, wT_st] at ha1 h2
      repeat refine St (And.intro hA <| And.intro hq1 <| And.intro hq2 <| And.intro hqn <| And.intro hbb <| And.intro ha1 <| And.intro h2 <| And.intro han <| And.intro hbe <| @F9.eq_def) ct7 ?_
      exact AWP.ret (Fin trivial [] [])

end Go.Fw

end
