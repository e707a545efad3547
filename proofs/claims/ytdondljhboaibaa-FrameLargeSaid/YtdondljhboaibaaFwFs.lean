/- The abstract machine, and the contracts of the code: part 48. -/
import Derived.Test.YtdondljhboaibaaFwFr

section
/- Frames: there and back, cut off. Plain laws, of any double hash. -/
namespace Go.Fw
open Go
set_option linter.unusedVariables false
set_option linter.unusedSimpArgs false

theorem four {l : List UInt8} (h : l.length = 4) : ∃ a b c d, l = [a, b, c, d] := by
  match l, h with
  | [a, b, c, d], _ => exact ⟨a, b, c, d, rfl⟩

section
variable (D : List UInt8 → List UInt8) (hD : ∀ p, (D p).length = 32)
include hD

theorem sumF_4 (p : List UInt8) : (sumF D p).length = 4 := by simp [sumF, hD]

/-- A frame's bytes, told one by one. -/
theorem frm_form (c : UInt8) (p : List UInt8) (h : p.length ≤ 45000) : ∃ q0 q1 q2 q3 s0 s1 s2 s3, frm D c p = 229 :: 29 :: 10 :: 23 :: c :: q0 :: q1 :: q2 :: q3 :: s0 :: s1 :: s2 :: s3 :: p ∧ num [q0, q1, q2, q3] = p.length ∧ sumF D p = [s0, s1, s2, s3] := by
  obtain ⟨q0, q1, q2, q3, hq⟩ := four (le_len 4 (p.length : Int))
  obtain ⟨s0, s1, s2, s3, hs⟩ := four (sumF_4 D hD p)
  have e4 : ((256 ^ 4 : Nat) : Int) = 4294967296 := by decide
  have hn := num_le 4 (p.length : Int) (by omega) (by rw [e4]; omega)
  rw [hq] at hn
  refine ⟨q0, q1, q2, q3, s0, s1, s2, s3, ?_, by omega, hs⟩
  unfold frm mag
  rw [hq, hs]
  simp

theorem frm_len (c : UInt8) (p : List UInt8) (h : p.length ≤ 45000) : (frm D c p).length = 13 + p.length := by
  obtain ⟨q0, q1, q2, q3, s0, s1, s2, s3, hf, _, _⟩ := frm_form D hD c p h
  rw [hf]; simp; omega

theorem frm_take {c : UInt8} {p : List UInt8} (r : List UInt8) (hc : okC c.toNat) (h : p.length ≤ 45000) : takF D (frm D c p ++ r) = ⟨c, p, r, 0⟩ := by
  obtain ⟨q0, q1, q2, q3, s0, s1, s2, s3, hf, hn, hs⟩ := frm_form D hD c p h
  rw [hf]
  simp only [List.cons_append]
  have h1 : begF (229 :: 29 :: 10 :: 23 :: c :: q0 :: q1 :: q2 :: q3 :: s0 :: s1 :: s2 :: s3 :: (p ++ r)) = true := by
    unfold begF mag
    rw [show min (229 :: 29 :: 10 :: 23 :: c :: q0 :: q1 :: q2 :: q3 :: s0 :: s1 :: s2 :: s3 :: (p ++ r)).length 4 = 4 by simp only [List.length_cons]; omega]
    rfl
  have hl : longF (229 :: 29 :: 10 :: 23 :: c :: q0 :: q1 :: q2 :: q3 :: s0 :: s1 :: s2 :: s3 :: (p ++ r)) = p.length := hn
  unfold takF
  rw [if_neg (by rw [h1]; simp), if_neg (by simp), if_neg (by simpa using hc), if_neg (by rw [hl]; omega), if_neg (by rw [hl]; simp), hl]
  have h13 : List.drop 13 (229 :: 29 :: 10 :: 23 :: c :: q0 :: q1 :: q2 :: q3 :: s0 :: s1 :: s2 :: s3 :: (p ++ r)) = p ++ r := rfl
  have h9 : List.take 4 (List.drop 9 (229 :: 29 :: 10 :: 23 :: c :: q0 :: q1 :: q2 :: q3 :: s0 :: s1 :: s2 :: s3 :: (p ++ r))) = [s0, s1, s2, s3] := rfl
  have h4 : (229 :: 29 :: 10 :: 23 :: c :: q0 :: q1 :: q2 :: q3 :: s0 :: s1 :: s2 :: s3 :: (p ++ r)).getD 4 0 = c := rfl
  rw [h13, h9, h4, List.take_left' rfl, List.drop_left' rfl, if_neg (by rw [hs]; simp)]

theorem frm_cut {c : UInt8} {p : List UInt8} (hc : okC c.toNat) (h : p.length ≤ 45000) {k : Nat} (hk : k < 13 + p.length) : takF D ((frm D c p).take k) = ⟨0, [], [], 2⟩ := by
  obtain ⟨q0, q1, q2, q3, s0, s1, s2, s3, hf, hn, hs⟩ := frm_form D hD c p h
  rw [hf]
  have hb : ∀ l : List UInt8, begF ((229 :: 29 :: 10 :: 23 :: l).take k) = true := by
    intro l
    unfold begF mag
    match k with
    | 0 => rfl
    | 1 => rfl
    | 2 => rfl
    | 3 => rfl
    | k + 4 =>
      rw [show min ((229 :: 29 :: 10 :: 23 :: l).take (k + 4)).length 4 = 4 by simp]
      rfl
  unfold takF
  rw [if_neg (by rw [hb]; simp)]
  by_cases h13 : k < 13
  · rw [if_pos (by simp; omega)]
  · obtain ⟨j, rfl⟩ : ∃ j, k = j + 13 := ⟨k - 13, by omega⟩
    have ht : (229 :: 29 :: 10 :: 23 :: c :: q0 :: q1 :: q2 :: q3 :: s0 :: s1 :: s2 :: s3 :: p).take (j + 13) = 229 :: 29 :: 10 :: 23 :: c :: q0 :: q1 :: q2 :: q3 :: s0 :: s1 :: s2 :: s3 :: p.take j := rfl
    rw [ht]
    have hl : longF (229 :: 29 :: 10 :: 23 :: c :: q0 :: q1 :: q2 :: q3 :: s0 :: s1 :: s2 :: s3 :: p.take j) = p.length := hn
    rw [if_neg (by simp), if_neg (by simpa using hc), hl, if_neg (by omega), if_pos (by simp; omega)]

end
end Go.Fw

end
