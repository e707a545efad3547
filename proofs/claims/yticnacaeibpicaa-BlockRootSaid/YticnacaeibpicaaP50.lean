/- The abstract machine, and the contracts of the code: part 50. -/
import Derived.Test.YticnacaeibpicaaP49

section
/- merkle: the root, branches, the way up. -/
namespace Go.Fw
open Go Go.Proofs
set_option linter.unusedVariables false
set_option linter.unusedSimpArgs false

noncomputable def F48 : Fun
  | [.sq 32 xs] => match asHs xs with
    | some l => if l.length ≤ 1000000 then some ([], .tup [.t (.ba 32 (rootW pairS l false).1), .t (.bool (rootW pairS l false).2)]) else none
    | none => none
  | _ => none

theorem ct48 : CT [(80, ⟨[false], treeG F80⟩)] [0, 2, 3, 4, 5, 6, 9, 22] [] := ⟨(.cons c80.g (.nil _))⟩

theorem c48 : ACon Try.prog 48 F48 := by
  refine aconc E_ok (rs := [.cell 2 25, .tmp 3 4]) Try.func48 rfl Try.ntmps48 (by kernel_rfl) rfl (by decide) F48 (np := 1) ?_ ?_
  · intro ts h; unfold F48; split <;> first | rfl | (simp at h; done)
  intro ts H r hF hwf
  unfold F48 at hF
  split at hF <;> try (cases hF; done)
  rename_i xs
  split at hF <;> try (cases hF; done)
  rename_i l hl
  split at hF
  case isFalse => cases hF
  rename_i hc
  have hn := hc
  cases hF
  obtain rfl := asHs_inv hl
  obtain ⟨_, h32⟩ := hs_wf (hwf (.sq 32 (l.map hT)) (by simp))
  repeat refine St trivial ct48 ?_
  refine AWP.loop (G := { p : List Hs × Bool // p.1.length ≤ 1000000 ∧ (∀ x ∈ p.1, x.length = 32) ∧ rootW pairS p.1 p.2 = rootW pairS l false }) (fun p => ⟨[(0, .t (.sq 32 (p.1.1.map hT))), (2, .ptr 0 0 []), (4, .t (.bool p.1.2))], [.bx (.t (.ba 32 (zby 32)))]⟩) (fun p => p.1.1.length) ⟨(l, false), hn, h32, rfl⟩ (Wt trivial [0, 2, 4] [0]) ?_
  intro ⟨⟨m, d⟩, hm, hm32, hr⟩
  dsimp only at hm hm32 hr ⊢
  by_cases h1 : 1 < (m.length : Int)
  · have hlift := lift_c hm
    have hll := liftS_len pairS m
    have hup := rootW_up pairS d (show 1 < m.length by omega)
    cases d
    · repeat refine St hlift ct48 ?_
      exact ⟨⟨(liftS pairS m, alikeS m), by dsimp only; omega, liftS_32, by rw [← hr, hup, Bool.false_or]⟩, (Wt trivial [0, 2, 4] [0]), by dsimp only; omega⟩
    · repeat refine St hlift ct48 ?_
      exact ⟨⟨(liftS pairS m, true), by dsimp only; omega, liftS_32, by rw [← hr, hup, Bool.true_or]⟩, (Wt trivial [0, 2, 4] [0]), by dsimp only; omega⟩
  by_cases h0 : m.length = 0
  · have he := rootW_none pairS d h0
    have h0b : ((m.length : Int) == 0) = true := by rw [beq_iff_eq]; omega
    repeat refine St (And.intro h0b <| @T.size.eq_def) ct48 ?_
    exact AWP.ret (Fin (And.intro hr.symm <| And.intro he <| (show List.replicate 32 (0 : UInt8) = zby 32 from rfl)) [] [])
  · have he := rootW_end pairS d (show m.length = 1 by omega)
    have h0b : ((m.length : Int) == 0) = false := by rw [beq_eq_false_iff_ne]; omega
    have hlt : 0 < m.length := by omega
    have hg := hs_getD hlt
    have hx := hs_at hlt hm32
    generalize m.getD 0 [] = x at *
    repeat refine St (And.intro h0b <| And.intro hlt <| And.intro hg <| And.intro @T.size.eq_def <| hx) ct48 ?_
    exact AWP.ret (Fin (And.intro hr.symm <| he) [] [])

theorem root_mc {l : List Hs} (h : l.length ≤ 1000000) : F48 [.sq 32 (l.map hT)] = some ([], .tup [.t (.ba 32 (rootW pairS l false).1), .t (.bool (rootW pairS l false).2)]) := by
  simp only [F48, asHs_map]; exact if_pos h

theorem xor1 {i : Nat} (h : i < 9223372036854775808) : abits .xor .i64 (i : Int) 1 = ((if i % 2 = 1 then i - 1 else i + 1 : Nat) : Int) := by
  have e : (2 : Int) ^ IntKind.i64.bits = 18446744073709551616 := by decide
  simp only [abits, e]
  rw [show ((i : Int) % 18446744073709551616).toNat = i by omega, show ((1 : Int) % 18446744073709551616).toNat = 1 from rfl]
  have hx : i ^^^ 1 = if i % 2 = 1 then i - 1 else i + 1 := by
    apply Nat.eq_of_testBit_eq
    intro j
    rw [Nat.testBit_xor]
    cases j with
    | zero =>
      by_cases hi : i % 2 = 1
      · rw [if_pos hi]; simp [Nat.testBit_zero, hi]; omega
      · rw [if_neg hi]; simp [Nat.testBit_zero, hi]; omega
    | succ j =>
      have h1 : Nat.testBit 1 (j + 1) = false := by simp [Nat.testBit_succ]
      rw [h1, Bool.xor_false, Nat.testBit_succ, Nat.testBit_succ]
      congr 1
      split <;> omega
  rw [hx]
  exact wrap_i64 (by omega) (by split <;> omega)
theorem and1 {i : Nat} (h : i < 9223372036854775808) : abits .and .i64 (i : Int) 1 = ((i % 2 : Nat) : Int) := by
  have e : (2 : Int) ^ IntKind.i64.bits = 18446744073709551616 := by decide
  simp only [abits, e]
  rw [show ((i : Int) % 18446744073709551616).toNat = i by omega, show ((1 : Int) % 18446744073709551616).toNat = 1 from rfl, Nat.and_one_is_mod]
  exact wrap_i64 (by omega) (by omega)
theorem half64 {i : Nat} (h : i < 9223372036854775808) : IntKind.i64.wrap (Int.tdiv (i : Int) 2) = ((i / 2 : Nat) : Int) := by
  rw [Int.tdiv_eq_ediv_of_nonneg (by omega), wrap_i64 (by omega) (by omega)]; omega
theorem shr1 (i : Nat) : Int.fdiv (i : Int) (2 ^ (min 1 IntKind.i64.bits)) = ((i / 2 : Nat) : Int) := by
  have : (2 : Int) ^ (min 1 IntKind.i64.bits) = 2 := by decide
  rw [this, Int.fdiv_eq_ediv_of_nonneg _ (by omega)]; omega

end Go.Fw

end
