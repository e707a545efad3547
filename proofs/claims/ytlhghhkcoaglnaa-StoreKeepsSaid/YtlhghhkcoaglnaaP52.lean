/- The abstract machine, and the contracts of the code: part 52. -/
import Derived.Test.YtlhghhkcoaglnaaP51

section
/- Chapter 28: acts: which are small; what one saves. -/
namespace Go.Fw
open Go Go.Proofs
set_option linter.unusedVariables false
set_option linter.unusedSimpArgs false

noncomputable def F15 : Fun
  | [y] => match inv actT y with
    | some a => some ([], .t (.bool (smA a)))
    | none => none
  | _ => none

theorem ct15 : CT [] [0, 1, 2] [] := ⟨GClOk.nil _⟩

theorem c15 : ACon Try.prog 15 F15 := by
  refine aconc E_ok (rs := [.tmp 2 4]) Try.func15 rfl Try.ntmps15 (by kernel_rfl) rfl (by decide) F15 (np := 1) ?_ ?_
  · intro ts h; unfold F15; split <;> first | rfl | (simp at h; done)
  intro ts H r hF hwf
  unfold F15 at hF
  split at hF <;> try (cases hF; done)
  split at hF <;> try (cases hF; done)
  rename_i a ha
  cases hF
  obtain rfl := inv_inv ha
  obtain ⟨k, n, b, ks⟩ := a
  have hkl : (ks.map (T.int .i64)).length = ks.length := List.length_map ..
  simp only [actT, smA]
  by_cases h1 : (b.length : Int) ≤ 300
  · by_cases h2 : (ks.length : Int) ≤ 100
    · have e : (decide (b.length ≤ 300) && decide (ks.length ≤ 100)) = true := by rw [decide_eq_true (by omega), decide_eq_true (by omega)]; rfl
      rw [e]
      repeat refine St (And.intro h1 <| And.intro h2 <| hkl) ct15 ?_
      exact AWP.ret (Fin trivial [] [])
    · have e : (decide (b.length ≤ 300) && decide (ks.length ≤ 100)) = false := by rw [decide_eq_false (show ¬ ks.length ≤ 100 by omega), Bool.and_false]
      rw [e]
      repeat refine St (And.intro h1 <| And.intro h2 <| hkl) ct15 ?_
      exact AWP.ret (Fin trivial [] [])
  · have e : (decide (b.length ≤ 300) && decide (ks.length ≤ 100)) = false := by rw [decide_eq_false (show ¬ b.length ≤ 300 by omega)]; rfl
    rw [e]
    repeat refine St (And.intro h1 <| hkl) ct15 ?_
    exact AWP.ret (Fin trivial [] [])
theorem small_c (a : TAct) : F15 [.st [.int .i64 a.k, .int .i64 a.n, .by a.b, .sq 1 (a.ks.map (T.int .i64))]] = some ([], .t (.bool (smA a))) := by
  show F15 [actT a] = _
  simp only [F15, inv_of actT_inj]

noncomputable def F16 : Fun
  | [y] => match inv actT y with
    | some a => some ([], .t (.by (imgB a.n a.b)))
    | none => none
  | _ => none

theorem ct16 : CT [] [0, 1, 2, 3, 4, 5, 19] [(6, [⟨0, [4], [], []⟩, ⟨0, [5], [], []⟩, ⟨0, [1], [], []⟩, ⟨1, [24], [], []⟩, ⟨0, [5], [], []⟩, ⟨0, [1], [], []⟩, ⟨1, [27], [], []⟩, ⟨1, [28], [6], []⟩, ⟨0, [26, 29], [6, 7], []⟩, ⟨1, [25, 30], [3, 6, 7], []⟩, ⟨1, [31], [3, 6, 7, 9], []⟩, ⟨1, [22, 23], [3, 6, 7, 9, 10], []⟩, ⟨2, [32, 33], [3, 6, 7, 9, 10, 11], []⟩])] := ⟨GClOk.nil _⟩

set_option maxHeartbeats 2000000 in
theorem c16 : ACon Try.prog 16 F16 := by
  refine aconc E_ok (rs := [.tmp 2 27]) Try.func16 rfl Try.ntmps16 (by kernel_rfl) rfl (by decide) F16 (np := 1) ?_ ?_
  · intro ts h; unfold F16; split <;> first | rfl | (simp at h; done)
  intro ts H r hF hwf
  unfold F16 at hF
  split at hF <;> try (cases hF; done)
  split at hF <;> try (cases hF; done)
  rename_i a ha
  cases hF
  obtain rfl := inv_inv ha
  obtain ⟨k, n, b, ks⟩ := a
  have hbm : b.length ≤ maxLen := by
    have := hwf _ (by simp : actT ⟨k, n, b, ks⟩ ∈ [actT ⟨k, n, b, ks⟩])
    simp only [actT, T.wf, T.wfL] at this
    exact this.2.2.1
  unfold maxLen at hbm
  obtain ⟨hn, hm⟩ := imgN_n n
  simp only [actT]
  unfold imgB
  generalize imgN n = m at *
  by_cases hb : b = []
  · subst hb
    rw [if_pos rfl]
    by_cases h0 : (0 : Int) < (m : Int)
    · repeat refine St (And.intro hn <| h0) ct16 ?_
      refine AWP.loop (G := Unit) (fun _ => ⟨[(4, .own 1), (5, .t (.int .i64 0)), (3, .t (.int .i64 (m : Int))), (1, .ptr 0 0 [])], [.bx (.t (.st [.int .i64 k, .int .i64 n, .by [], .sq 1 (ks.map (T.int .i64))])), .by (List.replicate m 0)]⟩) (fun _ => 0) () (Wt trivial [4, 5, 3, 1] [0, 1]) ?_
      intro _
      repeat refine St h0 ct16 ?_
      exact AWP.ret (Fin trivial [1] [])
    · repeat refine St (And.intro hn <| h0) ct16 ?_
      refine AWP.loop (G := Unit) (fun _ => ⟨[(4, .own 1), (5, .t (.int .i64 0)), (3, .t (.int .i64 (m : Int))), (1, .ptr 0 0 [])], [.bx (.t (.st [.int .i64 k, .int .i64 n, .by [], .sq 1 (ks.map (T.int .i64))])), .by (List.replicate m 0)]⟩) (fun _ => 0) () (Wt trivial [4, 5, 3, 1] [0, 1]) ?_
      intro _
      repeat refine St h0 ct16 ?_
      exact AWP.ret (Fin trivial [1] [])
  rw [if_neg hb]
  have hbl : (0 : Int) < (b.length : Int) := by
    have := List.length_pos_iff.2 hb
    omega
  have fill0 : imgF b m 0 = List.replicate m 0 := by unfold imgF; simp
  repeat refine St hn ct16 ?_
  refine AWP.loop (G := { i : Nat // i ≤ m }) (fun i => ⟨[(4, .own 1), (5, .t (.int .i64 (i.1 : Int))), (3, .t (.int .i64 (m : Int))), (1, .ptr 0 0 [])], [.bx (.t (.st [.int .i64 k, .int .i64 n, .by b, .sq 1 (ks.map (T.int .i64))])), .by (imgF b m i.1)]⟩) (fun i => m - i.1) ⟨0, by omega⟩ (Wt fill0 [4, 5, 3, 1] [0, 1]) ?_
  rintro ⟨i, hi⟩
  dsimp only
  have hfl := imgF_len b m i hi
  by_cases hlt : i < m
  · have hlt2 : (i : Int) < (m : Int) := by omega
    have w3 : IntKind.i64.wrap ((i : Int) + 1) = ((i + 1 : Nat) : Int) := by rw [wrap_i64 (by omega) (by omega)]; omega
    have hst := imgF_step b m i hlt
    have hmod := Nat.mod_lt i (show 0 < b.length by omega)
    have hrem : IntKind.i64.wrap (Int.tmod (i : Int) (b.length : Int)) = ((i % b.length : Nat) : Int) := by
      have e : Int.tmod (i : Int) (b.length : Int) = ((i % b.length : Nat) : Int) := by rw [Int.tmod_eq_emod_of_nonneg (by omega)]; rfl
      rw [e, wrap_i64 (by omega) (by omega)]
    have hbz : ¬ (b.length : Int) = 0 := by omega
    generalize i % b.length = q at *
    have hcv : UInt8.ofNat (b.getD q 0).toNat = b.getD q 0 := by simp
    generalize imgF b m i = B0 at *
    repeat refine St (And.intro hlt <| And.intro hlt2 <| And.intro hfl <| And.intro w3 <| And.intro hbl <| And.intro hrem <| And.intro hmod <| hbz) ct16 ?_
    exact ⟨⟨i + 1, by omega⟩, (Wt (And.intro hst <| hcv) [4, 5, 3, 1] [0, 1]), by simp only; omega⟩
  obtain rfl : i = m := by omega
  have hlt2 : ¬ ((i : Nat) : Int) < ((i : Nat) : Int) := by omega
  repeat refine St hlt2 ct16 ?_
  exact AWP.ret (Fin trivial [1] [])
theorem image_c (a : TAct) : F16 [.st [.int .i64 a.k, .int .i64 a.n, .by a.b, .sq 1 (a.ks.map (T.int .i64))]] = some ([], .t (.by (imgB a.n a.b))) := by
  show F16 [actT a] = _
  simp only [F16, inv_of actT_inj]

end Go.Fw

end
