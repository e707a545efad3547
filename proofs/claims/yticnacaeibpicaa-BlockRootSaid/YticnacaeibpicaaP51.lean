/- The abstract machine, and the contracts of the code: part 51. -/
import Derived.Test.YticnacaeibpicaaP50

section
/- merkle's answer. -/
namespace Go.Fw
open Go Go.Proofs
set_option linter.unusedVariables false
set_option linter.unusedSimpArgs false

def F103 : Fun
  | [.ba 32 a, .ba 32 b] => some ([], .t (.ba 32 (pairS a b)))
  | _ => none

theorem ct103 : CT [(41, ⟨[false], treeG F41⟩)] [0, 1, 2, 3, 4, 5] [] := ⟨(.cons c41.g (.nil _))⟩

theorem c103 : ACon Try.prog 103 F103 := by
  refine aconc E_ok (rs := [.cell 4 25]) Try.func103 rfl Try.ntmps103 (by kernel_rfl) rfl (by decide) F103 (np := 2) ?_ ?_
  · intro ts h; unfold F103; split <;> first | rfl | (simp at h; done)
  intro ts H r hF hwf
  unfold F103 at hF
  split at hF <;> try (cases hF; done)
  rename_i a b
  cases hF
  have ha : a.length = 32 := hwf (.ba 32 a) (by simp)
  have hb : b.length = 32 := hwf (.ba 32 b) (by simp)
  have h3 : F41 [.by (a ++ b)] = some ([], .t (.ba 32 (pairS a b))) := if_pos (by simp; omega)
  have hab : (a ++ b).length = 64 := by simp; omega
  have ta : a.take 32 = a := List.take_of_length_le (by omega)
  have tb : b.take 32 = b := List.take_of_length_le (by omega)
  repeat refine St (And.intro ha <| And.intro hb <| And.intro ta <| And.intro tb <| And.intro hab <| h3) ct103 ?_
  exact AWP.ret (Fin trivial [] [])

noncomputable def F104 : Fun
  | [.sq 32 xs, .int .i64 i] => match asHs xs with
    | some l => if 0 ≤ i ∧ i < (l.length : Int) then some ([], .t (.ba 32 (l.getD (withS l.length i.toNat) []))) else none
    | none => none
  | _ => none

theorem ct104 : CT [] [0, 1, 4, 5, 10, 16] [] := ⟨GClOk.nil _⟩

theorem c104 : ACon Try.prog 104 F104 := by
  refine aconc E_ok (rs := [.cell 4 25]) Try.func104 rfl Try.ntmps104 (by kernel_rfl) rfl (by decide) F104 (np := 2) ?_ ?_
  · intro ts h; unfold F104; split <;> first | rfl | (simp at h; done)
  intro ts H r hF hwf
  unfold F104 at hF
  split at hF <;> try (cases hF; done)
  rename_i xs i
  split at hF <;> try (cases hF; done)
  rename_i l hl
  split at hF
  case isFalse => cases hF
  rename_i hc
  obtain ⟨h0, h1⟩ := hc
  cases hF
  obtain rfl := asHs_inv hl
  obtain ⟨hlm, h32⟩ := hs_wf (hwf (.sq 32 (l.map hT)) (by simp))
  unfold maxLen at hlm
  obtain ⟨n, rfl⟩ : ∃ n : Nat, i = (n : Int) := ⟨i.toNat, by omega⟩
  rw [Int.toNat_natCast]
  have hn : n < l.length := by omega
  have hrem : IntKind.i64.wrap (Int.tmod (n : Int) 2) = ((n % 2 : Nat) : Int) := by
    rw [Int.tmod_eq_emod_of_nonneg (by omega), wrap_i64 (by omega) (by omega)]; omega
  have hwl := withS_lt hn
  have hg := hs_getD hwl
  have h32w := hs_at hwl h32
  by_cases h2 : n % 2 = 1
  · have hw : withS l.length n = n - 1 := by unfold withS; rw [if_pos h2]
    have hb : (((n % 2 : Nat) : Int) == 1) = true := by rw [beq_iff_eq]; omega
    have hm : IntKind.i64.wrap ((n : Int) - 1) = ((n - 1 : Nat) : Int) := by rw [wrap_i64 (by omega) (by omega)]; omega
    rw [hw] at hwl hg h32w
    rw [hw]
    have hlt : ¬ (l.length : Int) ≤ ((n - 1 : Nat) : Int) := by omega
    generalize l.getD (n - 1) [] = v at *
    generalize hn1 : n - 1 = n1 at *
    repeat refine St (And.intro hrem <| And.intro hb <| And.intro hm <| And.intro hlt <| And.intro hwl <| And.intro hg <| And.intro h32w <| And.intro @zby_len <| @T.size.eq_def) ct104 ?_
    exact AWP.ret (Fin trivial [] [])
    done
  have hb : (((n % 2 : Nat) : Int) == 1) = false := by rw [beq_eq_false_iff_ne]; omega
  have hm : IntKind.i64.wrap ((n : Int) + 1) = ((n + 1 : Nat) : Int) := by rw [wrap_i64 (by omega) (by omega)]; omega
  by_cases h3 : l.length ≤ n + 1
  · have hw : withS l.length n = n := by unfold withS; rw [if_neg h2, if_pos h3]
    have hlt : (l.length : Int) ≤ ((n + 1 : Nat) : Int) := by omega
    rw [hw] at hwl hg h32w
    rw [hw]
    generalize l.getD n [] = v at *
    repeat refine St (And.intro hrem <| And.intro hb <| And.intro hm <| And.intro hlt <| And.intro hwl <| And.intro hg <| And.intro h32w <| And.intro @zby_len <| @T.size.eq_def) ct104 ?_
    exact AWP.ret (Fin trivial [] [])
  · have hw : withS l.length n = n + 1 := by unfold withS; rw [if_neg h2, if_neg h3]
    have hlt : ¬ (l.length : Int) ≤ ((n + 1 : Nat) : Int) := by omega
    rw [hw] at hwl hg h32w
    rw [hw]
    generalize l.getD (n + 1) [] = v at *
    generalize n + 1 = n1 at *
    repeat refine St (And.intro hrem <| And.intro hb <| And.intro hm <| And.intro hlt <| And.intro hwl <| And.intro hg <| And.intro h32w <| And.intro @zby_len <| @T.size.eq_def) ct104 ?_
    exact AWP.ret (Fin trivial [] [])

theorem partner_c {l : List Hs} {n : Nat} (h : n < l.length) : F104 [.sq 32 (l.map hT), .int .i64 (n : Int)] = some ([], .t (.ba 32 (l.getD (withS l.length n) []))) := by
  simp only [F104, asHs_map, Int.toNat_natCast]; exact if_pos ⟨by omega, by omega⟩

noncomputable def F82 : Fun
  | [.sq 32 xs] => match asHs xs with
    | some l => if l.length ≤ 1000000 then some ([], .t (.sq 32 ((liftS pairS l).map hT))) else none
    | none => none
  | _ => none

theorem ct82 : CT [(103, ⟨[false, false], treeG F103⟩), (104, ⟨[false, false], treeG F104⟩)] [0, 2, 3, 4, 9] [(5, [⟨0, [3], [], []⟩, ⟨0, [0], [], []⟩, ⟨0, [4], [], []⟩, ⟨1, [13, 14], [], []⟩, ⟨1, [15], [3], []⟩, ⟨0, [0], [], []⟩, ⟨0, [4], [], []⟩, ⟨1, [17, 18], [], []⟩, ⟨1, [16, 19], [3, 4, 7], []⟩, ⟨1, [20], [3, 4, 7, 8], []⟩, ⟨2, [12, 21], [3, 4, 7, 8, 9], []⟩, ⟨0, [22], [3, 4, 7, 8, 9, 10], []⟩])] := ⟨(.cons c103.g (.cons c104.g (.nil _)))⟩

theorem c82 : ACon Try.prog 82 F82 := by
  refine aconc E_ok (rs := [.tmp 2 75]) Try.func82 rfl Try.ntmps82 (by kernel_rfl) rfl (by decide) F82 (np := 1) ?_ ?_
  · intro ts h; unfold F82; split <;> first | rfl | (simp at h; done)
  intro ts H r hF hwf
  unfold F82 at hF
  split at hF <;> try (cases hF; done)
  rename_i xs
  split at hF <;> try (cases hF; done)
  rename_i l hl
  split at hF
  case isFalse => cases hF
  rename_i hc
  have hn := hc
  cases hF
  obtain rfl := asHs_inv hl
  obtain ⟨_, h32⟩ := hs_wf (hwf (.sq 32 (l.map hT)) (by simp))
  repeat refine St trivial ct82 ?_
  refine AWP.loop (G := { k : Nat // k % 2 = 0 ∧ k ≤ l.length + 1 }) (fun k => ⟨[(0, .t (.sq 32 (l.map hT))), (3, .own 0), (4, .t (.int .i64 (k.1 : Int)))], [.sq 32 ((liftS pairS (l.take k.1)).map hT)]⟩) (fun k => l.length + 2 - k.1) ⟨0, by omega⟩ (Wt (And.intro @List.take_zero.{0} <| (And.intro @liftS.eq_1 <| And.intro @liftS.eq_2 <| @liftS.eq_3)) [0, 3, 4] [0]) ?_
  intro ⟨k, hk2, hk⟩
  dsimp only
  have hll := liftS_len pairS (l.take k)
  have htl : (l.take k).length ≤ 1000000 := by simp; omega
  by_cases h1 : (k : Int) < (l.length : Int)
  · have hk' : k < l.length := by omega
    have hg := hs_getD hk'
    have hpt := partner_c hk'
    have hsn : ∀ v, liftS pairS (l.take (k + 2)) = liftS pairS (l.take k) ++ [v] → (liftS pairS (l.take (k + 2))).map hT = (liftS pairS (l.take k)).map hT ++ [.ba 32 v] := fun v h => by rw [h]; exact hs_snoc _ _
    have hls : liftS pairS (l.take (k + 2)) = liftS pairS (l.take k) ++ [pairS (l.getD k []) (l.getD (withS l.length k) [])] := by
      unfold withS
      rw [if_neg (by omega)]
      by_cases h3 : l.length ≤ k + 1
      · rw [if_pos h3, List.take_of_length_le (by omega : l.length ≤ k + 2)]
        exact liftS_one pairS l k (by omega) hk2
      · rw [if_neg h3]; exact liftS_two pairS l k (by omega) hk2
    have hsn' := hsn _ hls
    have h32a := hs_at hk' h32
    have h32b := hs_at (withS_lt hk') h32
    have hup : ((liftS pairS (l.take k)).map hT).length ≤ 1000000 := by simp; omega
    generalize l.getD k [] = a at *
    generalize l.getD (withS l.length k) [] = b at *
    have hp : F103 [.ba 32 a, .ba 32 b] = some ([], .t (.ba 32 (pairS a b))) := rfl
    repeat refine St (And.intro hk' <| And.intro hg <| And.intro hpt <| And.intro hp <| And.intro h32a <| And.intro h32b <| hup) ct82 ?_
    exact ⟨⟨k + 2, by omega, by omega⟩, (Wt hsn' [0, 3, 4] [2]), by dsimp only; omega⟩
  · rw [List.take_of_length_le (by omega : l.length ≤ k)]
    repeat refine St trivial ct82 ?_
    exact AWP.ret (Fin trivial [0] [])

theorem lifted_c {l : List Hs} (h : l.length ≤ 1000000) : F82 [.sq 32 (l.map hT)] = some ([], .t (.sq 32 ((liftS pairS l).map hT))) := by
  simp only [F82, asHs_map]; exact if_pos h

noncomputable def F50 : Fun
  | [.sq 32 xs] => match asHs xs with
    | some l => if l.length ≤ 1000000 then some ([], .tup [.t (.ba 32 (rootW pairS l false).1), .t (.bool (rootW pairS l false).2)]) else none
    | none => none
  | _ => none

theorem ct50 : CT [(82, ⟨[false], treeG F82⟩)] [0, 2, 3, 4, 5, 8, 13, 33] [(6, [⟨0, [4], [], []⟩, ⟨0, [16], [], []⟩, ⟨0, [0], [], []⟩, ⟨0, [5], [], []⟩, ⟨1, [18, 19], [], []⟩, ⟨1, [20], [4], []⟩, ⟨0, [0], [], []⟩, ⟨0, [5], [], []⟩, ⟨0, [23], [], []⟩, ⟨1, [22, 24], [], []⟩, ⟨1, [25], [9], []⟩, ⟨0, [21, 26], [4, 5, 9, 10], []⟩, ⟨0, [17, 27], [4, 5, 9, 10], []⟩, ⟨0, [28], [4, 5, 9, 10], []⟩])] := ⟨(.cons c82.g (.nil _))⟩

theorem c50 : ACon Try.prog 50 F50 := by
  refine aconc E_ok (rs := [.cell 2 25, .tmp 3 4]) Try.func50 rfl Try.ntmps50 (by kernel_rfl) rfl (by decide) F50 (np := 1) ?_ ?_
  · intro ts h; unfold F50; split <;> first | rfl | (simp at h; done)
  intro ts H r hF hwf
  unfold F50 at hF
  split at hF <;> try (cases hF; done)
  rename_i xs
  split at hF <;> try (cases hF; done)
  rename_i l hl
  split at hF
  case isFalse => cases hF
  rename_i hc
  have hn := hc
  cases hF
  obtain rfl := asHs_inv hl
  obtain ⟨_, h32⟩ := hs_wf (hwf (.sq 32 (l.map hT)) (by simp))
  repeat refine St trivial ct50 ?_
  refine AWP.loop (G := { p : List Hs × Bool // p.1.length ≤ 1000000 ∧ (∀ x ∈ p.1, x.length = 32) ∧ rootW pairS p.1 p.2 = rootW pairS l false }) (fun p => ⟨[(0, .t (.sq 32 (p.1.1.map hT))), (2, .ptr 0 0 []), (4, .t (.bool p.1.2))], [.bx (.t (.ba 32 (zby 32)))]⟩) (fun p => p.1.1.length) ⟨(l, false), hn, h32, rfl⟩ (Wt trivial [0, 2, 4] [0]) ?_
  intro ⟨⟨m, d⟩, hm, hm32, hr⟩
  dsimp only at hm hm32 hr ⊢
  by_cases h1 : 1 < (m.length : Int)
  · have hlift := lifted_c hm
    have hll := liftS_len pairS m
    have hup := rootW_up pairS d (show 1 < m.length by omega)
    repeat refine St trivial ct50 ?_
    refine AWP.loop (G := { k : Nat // k % 2 = 0 ∧ k ≤ m.length }) (fun k => ⟨[(0, .t (.sq 32 (m.map hT))), (2, .ptr 0 0 []), (4, .t (.bool (d || alikeS (m.take k.1)))), (5, .t (.int .i64 (k.1 : Int)))], [.bx (.t (.ba 32 (zby 32)))]⟩) (fun k => m.length - k.1) ⟨0, by omega⟩ (Wt (And.intro @List.take_zero.{0} <| (And.intro @alikeS.eq_1 <| @alikeS.eq_2)) [0, 2, 4, 5] [0]) ?_
    intro ⟨k, hk2, hk⟩
    dsimp only
    have hw1 : IntKind.i64.wrap ((k : Int) + 1) = ((k + 1 : Nat) : Int) := by rw [wrap_i64 (by omega) (by omega)]; omega
    by_cases h2 : ((k + 1 : Nat) : Int) < (m.length : Int)
    · have hk1 : k + 1 < m.length := by omega
      have hk0 : k < m.length := by omega
      have hi0 : (k : Int) < (m.length : Int) := by omega
      have g0 := hs_getD hk0
      have g1 := hs_getD hk1
      have hal := alikeS_two m k hk1 hk2
      generalize m.getD k [] = a at *
      generalize m.getD (k + 1) [] = b at *
      have hk2m : k + 2 ≤ m.length := by omega
      generalize k + 1 = k1 at *
      cases hd : d || alikeS (m.take k)
      · have hal' : (d || alikeS (m.take (k + 2))) = (a == b) := by rw [hal, ← Bool.or_assoc, hd, Bool.false_or]
        repeat refine St (And.intro hw1 <| And.intro h2 <| And.intro hk1 <| And.intro hk0 <| And.intro hi0 <| And.intro g0 <| g1) ct50 ?_
        exact ⟨⟨k + 2, by omega, by omega⟩, (Wt hal' [0, 2, 4, 5] [0]), by dsimp only; omega⟩
      · have hal' : (d || alikeS (m.take (k + 2))) = true := by rw [hal, ← Bool.or_assoc, hd, Bool.true_or]
        repeat refine St (And.intro hw1 <| And.intro h2 <| And.intro hk1 <| And.intro hk0 <| And.intro hi0 <| And.intro g0 <| g1) ct50 ?_
        exact ⟨⟨k + 2, by omega, by omega⟩, (Wt hal' [0, 2, 4, 5] [0]), by dsimp only; omega⟩
    · have hal : alikeS (m.take k) = alikeS m := by
        by_cases hkm : k = m.length
        · rw [hkm, List.take_length]
        · exact (alikeS_one m k (by omega) hk2).symm
      rw [hal]
      repeat refine St (And.intro hw1 <| And.intro h2 <| hlift) ct50 ?_
      exact ⟨⟨(liftS pairS m, d || alikeS m), by dsimp only; omega, liftS_32, by rw [← hr, hup]⟩, (Wt trivial [0, 2, 4] [0]), by dsimp only; omega⟩
  by_cases h0 : m.length = 0
  · have he := rootW_none pairS d h0
    have h0b : ((m.length : Int) == 0) = true := by rw [beq_iff_eq]; omega
    repeat refine St (And.intro h0b <| @T.size.eq_def) ct50 ?_
    exact AWP.ret (Fin (And.intro hr.symm <| And.intro he <| (show List.replicate 32 (0 : UInt8) = zby 32 from rfl)) [] [])
  · have he := rootW_end pairS d (show m.length = 1 by omega)
    have h0b : ((m.length : Int) == 0) = false := by rw [beq_eq_false_iff_ne]; omega
    have hlt : 0 < m.length := by omega
    have hg := hs_getD hlt
    have hx := hs_at hlt hm32
    generalize m.getD 0 [] = x at *
    repeat refine St (And.intro h0b <| And.intro hlt <| And.intro hg <| And.intro @T.size.eq_def <| hx) ct50 ?_
    exact AWP.ret (Fin (And.intro hr.symm <| he) [] [])

theorem root_rc {l : List Hs} (h : l.length ≤ 1000000) : F50 [.sq 32 (l.map hT)] = some ([], .tup [.t (.ba 32 (rootW pairS l false).1), .t (.bool (rootW pairS l false).2)]) := by
  simp only [F50, asHs_map]; exact if_pos h

end Go.Fw

end
