/- The abstract machine, and the contracts of the code: part 51. -/
import Derived.Test.YthhpapbokodpdaaP50

section
/- view's answer: Refs in order; lists alike; which coins may be asked about. -/
namespace Go.Fw
open Go Go.Proofs
set_option linter.unusedVariables false
set_option linter.unusedSimpArgs false

theorem less_cmp : ∀ x y : List UInt8, Op.bytesLess x y = decide (cmpL x y < 0)
  | [], [] => rfl
  | [], _ :: _ => rfl
  | _ :: _, [] => rfl
  | u :: x, v :: y => by
    unfold Op.bytesLess cmpL
    by_cases h : u = v
    · subst h
      rw [if_pos rfl, ← less_cmp x y]
      simp
    · rw [if_neg h]
      by_cases h2 : u < v
      · rw [if_pos h2]
        simp [h2]
      · rw [if_neg h2]
        simp [h, h2]
theorem beq_cmp (x y : List UInt8) : (x == y) = decide (cmpL x y = 0) := by
  rw [Bool.eq_iff_iff, beq_iff_eq, decide_eq_true_eq]
  exact ⟨fun h => by rw [h]; exact cmpL_self y, cmpL_eq x y⟩

noncomputable def F13 : Fun
  | [x, y] => match inv rfT x, inv rfT y with
    | some a, some b => some ([], .t (.bool (decide (cmpR a b < 0))))
    | _, _ => none
  | _ => none

theorem ct13 : CT [] [0, 1, 2, 3, 4, 5, 6] [(1, [⟨0, [2], [], []⟩, ⟨1, [7], [], []⟩, ⟨1, [8], [1], []⟩, ⟨0, [3], [], []⟩, ⟨1, [10], [], []⟩, ⟨1, [11], [4], []⟩, ⟨0, [9], [1, 2], []⟩, ⟨0, [12], [1, 2, 4, 5], []⟩])] := ⟨GClOk.nil _⟩

set_option maxHeartbeats 2000000 in
theorem c13 : ACon Try.prog 13 F13 := by
  refine aconc E_ok (rs := [.tmp 4 4]) Try.func13 rfl Try.ntmps13 (by kernel_rfl) rfl (by decide) F13 (np := 2) ?_ ?_
  · intro ts h; unfold F13; split <;> first | rfl | (simp at h; done)
  intro ts H r hF hwf
  unfold F13 at hF
  split at hF <;> try (cases hF; done)
  split at hF <;> try (cases hF; done)
  rename_i a b ha hb
  cases hF
  obtain rfl := inv_inv ha
  obtain rfl := inv_inv hb
  obtain ⟨⟨h1, g1⟩, i1⟩ := a
  obtain ⟨⟨h2, g2⟩, i2⟩ := b
  have hl := less_cmp h1 h2
  have he := beq_cmp h1 h2
  have ht1 : List.take 32 h1 = h1 := List.take_of_length_le (by omega)
  have ht2 : List.take 32 h2 = h2 := List.take_of_length_le (by omega)
  have hr : decide (cmpR ⟨⟨h1, g1⟩, i1⟩ ⟨⟨h2, g2⟩, i2⟩ < 0) = (Op.bytesLess h1 h2 || ((h1 == h2) && decide ((i1.toNat : Int) < (i2.toNat : Int)))) := by
    rw [hl, he]
    unfold cmpR cmpI
    dsimp only
    by_cases h0 : cmpL h1 h2 = 0
    · rw [if_pos h0, h0]
      by_cases h3 : (i1.toNat : Int) < (i2.toNat : Int)
      · rw [if_pos h3]; simp [h3]
      · rw [if_neg h3]
        by_cases h4 : (i2.toNat : Int) < (i1.toNat : Int)
        · rw [if_pos h4]; simp [h3]
        · rw [if_neg h4]; simp [h3]
    · rw [if_neg h0]; simp [h0]
  rw [hr]
  simp only [rfT]
  cases q1 : Op.bytesLess h1 h2 with
  | true =>
    repeat refine St (And.intro g1 <| And.intro g2 <| And.intro ht1 <| And.intro ht2 <| q1) ct13 ?_
    exact AWP.ret (Fin trivial [] [])
  | false =>
    cases q2 : (h1 == h2) with
    | true =>
      repeat refine St (And.intro g1 <| And.intro g2 <| And.intro ht1 <| And.intro ht2 <| And.intro q1 <| q2) ct13 ?_
      exact AWP.ret (Fin trivial [] [])
    | false =>
      repeat refine St (And.intro g1 <| And.intro g2 <| And.intro ht1 <| And.intro ht2 <| And.intro q1 <| q2) ct13 ?_
      exact AWP.ret (Fin trivial [] [])
theorem less_cc (a b : TRef) : F13 [.st [.ba 32 a.h.1, .int .u32 (a.i.toNat : Int)], .st [.ba 32 b.h.1, .int .u32 (b.i.toNat : Int)]] = some ([], .t (.bool (decide (cmpR a b < 0)))) := by
  show F13 [rfT a, rfT b] = _
  simp only [F13, inv_of rfT_inj]

def okCoin (c : TCoin) : Bool := decide (c.out.scr.length ≤ 600)
def okCs (l : List TCoin) : Bool := decide (l.length ≤ 40) && l.all okCoin
theorem okCs_ok {l : List TCoin} (h : okCs l = true) : l.length ≤ 40 ∧ lowL l = true := by
  unfold okCs at h
  rw [Bool.and_eq_true, decide_eq_true_eq] at h
  refine ⟨h.1, List.all_eq_true.2 fun x hx => ?_⟩
  have := List.all_eq_true.1 h.2 x hx
  unfold okCoin at this
  unfold lowC
  rw [decide_eq_true_eq] at this ⊢
  omega

noncomputable def F7 : Fun
  | [.sq 37 y] => match inv (List.map coinT) y with
    | some l => some ([], .t (.bool (okCs l)))
    | none => none
  | _ => none

theorem ct7 : CT [] [0, 2, 3, 7, 21] [] := ⟨GClOk.nil _⟩

set_option maxHeartbeats 2000000 in
theorem c7 : ACon Try.prog 7 F7 := by
  refine aconc E_ok (rs := [.tmp 2 4]) Try.func7 rfl Try.ntmps7 (by kernel_rfl) rfl (by decide) F7 (np := 1) ?_ ?_
  · intro ts h; unfold F7; split <;> first | rfl | (simp at h; done)
  intro ts H r hF hwf
  unfold F7 at hF
  split at hF <;> try (cases hF; done)
  split at hF <;> try (cases hF; done)
  rename_i l hl
  cases hF
  obtain rfl := inv_inv hl
  have hml : (l.map coinT).length = l.length := List.length_map ..
  have hg : l.length ≤ maxLen := by
    have h1 := hwf (.sq 37 (l.map coinT)) (by simp)
    simp only [T.wf] at h1
    simpa using h1.2.1
  unfold maxLen at hg
  have hsm : okCs l = (decide (l.length ≤ 40) && l.all okCoin) := rfl
  obtain ⟨c, hc⟩ : ∃ c, okCs l = c := ⟨_, rfl⟩
  rw [hc] at hsm ⊢
  repeat refine St trivial ct7 ?_
  refine AWP.loop (G := { i : Nat // i ≤ l.length ∧ i ≤ 40 ∧ (l.take i).all okCoin = true }) (fun i => ⟨[(0, .t (.sq 37 (l.map coinT))), (3, .t (.int .i64 (i.1 : Int)))], []⟩) (fun i => l.length - i.1) ⟨0, by omega, by omega, rfl⟩ (Wt trivial [0, 3] []) ?_
  intro ⟨i, hi, hi8, ha⟩
  dsimp only
  by_cases hlt : (i : Int) < (l.length : Int)
  · have hlt' : i < l.length := by omega
    by_cases h8 : i = 40
    · have e : c = false := by rw [hsm, decide_eq_false (by omega)]; rfl
      have h8' : ((i : Int) == 40) = true := by rw [beq_iff_eq]; omega
      subst e
      repeat refine St (And.intro hlt <| And.intro hml <| h8') ct7 ?_
      exact AWP.ret (Fin trivial [] [])
    have h8' : ((i : Int) == 40) = false := by rw [beq_eq_false_iff_ne]; omega
    have hget := coin_getD l i hlt'
    have hal := all_take okCoin dCoin l i hlt'
    have hbad := all_getD okCoin dCoin l i hlt'
    have hoe : okCoin (l.getD i dCoin) = decide ((l.getD i dCoin).out.scr.length ≤ 600) := rfl
    generalize l.getD i dCoin = x at *
    rw [coinT_st] at hget
    by_cases hb : 600 < (x.out.scr.length : Int)
    · have hx : okCoin x = false := by rw [hoe]; exact decide_eq_false (by omega)
      have e : c = false := by rw [hsm, hbad hx, Bool.and_false]
      subst e
      repeat refine St (And.intro hlt <| And.intro hlt' <| And.intro hml <| And.intro h8' <| And.intro hget <| hb) ct7 ?_
      exact AWP.ret (Fin trivial [] [])
    · have hx : okCoin x = true := by rw [hoe]; exact decide_eq_true (by omega)
      rw [ha, hx] at hal
      repeat refine St (And.intro hlt <| And.intro hlt' <| And.intro hml <| And.intro h8' <| And.intro hget <| hb) ct7 ?_
      exact ⟨⟨i + 1, by omega, by omega, by rw [hal]; rfl⟩, (Wt trivial [0, 3] []), by simp only; omega⟩
  obtain rfl : i = l.length := by omega
  rw [List.take_length] at ha
  have e : c = true := by rw [hsm, ha, decide_eq_true hi8]; rfl
  subst e
  repeat refine St (And.intro hlt <| hml) ct7 ?_
  exact AWP.ret (Fin trivial [] [])
theorem coins_cc (l : List TCoin) : F7 [.sq 37 (l.map coinT)] = some ([], .t (.bool (okCs l))) := by
  have hi : inv (List.map coinT) (l.map coinT) = some l := inv_of (f := List.map coinT) (fun a b h => coins_inj a b h) l
  simp only [F7, hi]

end Go.Fw

end
