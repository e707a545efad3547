/- The abstract machine, and the contracts of the code: part 49. -/
import Derived.Test.YtdondljhboaibaaFwFs

section
/- Frames: what is taken was a frame; none is passed over. Plain laws, of any double hash. -/
namespace Go.Fw
open Go
set_option linter.unusedVariables false
set_option linter.unusedSimpArgs false

theorem findF_below (b : List UInt8) : ∀ (k i0 n i : Nat), findF b k i0 = n → i0 ≤ i → i < n → k + i0 = b.length + 1 → begF (b.drop i) = false ∨ b.length ≤ i := by
  intro k
  induction k with
  | zero => intro i0 n i h h1 h2 h3; right; omega
  | succ k ih =>
    intro i0 n i h h1 h2 h3
    unfold findF at h
    by_cases hl : i0 < b.length
    · rw [if_pos hl] at h
      cases hb : begF (b.drop i0)
      · rw [hb] at h
        simp only [Bool.false_eq_true, if_false] at h
        by_cases he : i = i0
        · subst he; exact .inl hb
        · exact ih (i0 + 1) n i h (by omega) h2 (by omega)
      · rw [hb] at h
        simp only [if_true] at h
        omega
    · right; omega

section
variable (D : List UInt8 → List UInt8)

theorem takF_nomagic {b : List UInt8} (h : begF b = false) : takF D b = ⟨0, [], [], 54⟩ := by unfold takF; rw [if_pos h]

theorem take_eq_of (b : List UInt8) (h : begF b = true) (h13 : 13 ≤ b.length) : ∃ c q0 q1 q2 q3 s0 s1 s2 s3 r, b = 229 :: 29 :: 10 :: 23 :: c :: q0 :: q1 :: q2 :: q3 :: s0 :: s1 :: s2 :: s3 :: r := by
  match b, h13 with
  | a0 :: a1 :: a2 :: a3 :: c :: q0 :: q1 :: q2 :: q3 :: s0 :: s1 :: s2 :: s3 :: r, _ =>
    unfold begF mag at h
    rw [show min (a0 :: a1 :: a2 :: a3 :: c :: q0 :: q1 :: q2 :: q3 :: s0 :: s1 :: s2 :: s3 :: r).length 4 = 4 by simp only [List.length_cons]; omega] at h
    simp at h
    obtain ⟨rfl, rfl, rfl, rfl⟩ := h
    exact ⟨c, q0, q1, q2, q3, s0, s1, s2, s3, r, rfl⟩

theorem takF_only {b : List UInt8} (h : (takF D b).e = 0) : okC (takF D b).c.toNat ∧ (takF D b).p.length ≤ 45000 ∧ frm D (takF D b).c (takF D b).p ++ (takF D b).r = b := by
  obtain ⟨h1, h2, h3, h4, h5, h6, h7⟩ := takF_ok D h
  obtain ⟨c, q0, q1, q2, q3, s0, s1, s2, s3, r, rfl⟩ := take_eq_of b h1 h2
  rw [h7]
  have hl : longF (229 :: 29 :: 10 :: 23 :: c :: q0 :: q1 :: q2 :: q3 :: s0 :: s1 :: s2 :: s3 :: r) = num [q0, q1, q2, q3] := rfl
  have hd : List.drop 13 (229 :: 29 :: 10 :: 23 :: c :: q0 :: q1 :: q2 :: q3 :: s0 :: s1 :: s2 :: s3 :: r) = r := rfl
  have h9 : List.take 4 (List.drop 9 (229 :: 29 :: 10 :: 23 :: c :: q0 :: q1 :: q2 :: q3 :: s0 :: s1 :: s2 :: s3 :: r)) = [s0, s1, s2, s3] := rfl
  have hc : (229 :: 29 :: 10 :: 23 :: c :: q0 :: q1 :: q2 :: q3 :: s0 :: s1 :: s2 :: s3 :: r).getD 4 0 = c := rfl
  rw [hd, h9] at h6
  rw [hl] at h4 h5 h6 ⊢
  rw [hc] at h3 ⊢
  rw [hd]
  have hlen : (r.take (num [q0, q1, q2, q3])).length = num [q0, q1, q2, q3] := by
    simp only [List.length_cons] at h5
    rw [List.length_take]; omega
  refine ⟨h3, by dsimp only; rw [hlen]; exact h4, ?_⟩
  dsimp only
  unfold frm
  rw [hlen, h6]
  have := le_num [q0, q1, q2, q3]
  rw [show [q0, q1, q2, q3].length = 4 from rfl] at this
  rw [this]
  unfold mag
  simp

variable (hD : ∀ p, (D p).length = 32)
include hD

theorem takF_frm {c : UInt8} {p : List UInt8} (hc : okC c.toNat) (h : p.length ≤ 45000) : takF D (frm D c p) = ⟨c, p, [], 0⟩ := by
  have := frm_take D hD (c := c) (p := p) [] hc h
  rwa [List.append_nil] at this

theorem allF_two {c : UInt8} {p : List UInt8} (hc : okC c.toNat) (h : p.length ≤ 45000) : allF D (frm D c p ++ frm D c p) [] = ([(c, p), (c, p)], [], 0) := by
  have hl := frm_len D hD c p h
  have hne : frm D c p ≠ [] := by intro he; rw [he] at hl; simp at hl; omega
  have hne2 : frm D c p ++ frm D c p ≠ [] := by simp [hne]
  have e1 := frm_take D hD (c := c) (p := p) (frm D c p) hc h
  have e2 := takF_frm D hD (c := c) (p := p) hc h
  rw [allF, if_neg hne2, dif_pos (by rw [e1]), e1]
  dsimp only
  rw [allF, if_neg hne, dif_pos (by rw [e2]), e2]
  dsimp only
  rw [allF, if_pos rfl]
  simp

end
end Go.Fw

end
