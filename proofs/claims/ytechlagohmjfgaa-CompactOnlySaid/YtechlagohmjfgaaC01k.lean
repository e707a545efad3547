/- Plain laws of numbers, sizes and lists as bytes: there and back, only so. -/
import Derived.Test.YtechlagohmjfgaaC01i
namespace Go.Fw
open Go Go.Proofs
set_option linter.unusedVariables false
set_option linter.unusedSimpArgs false

theorem shrB_fdiv (k : Nat) (x : Int) : shrB k (x.fdiv 256) = shrB (k + 1) x := by
  induction k with
  | zero => rfl
  | succ k ih => simp only [shrB] at ih ⊢; rw [ih]

theorem le_cons (k : Nat) (x : Int) : le (k + 1) x = UInt8.ofNat (IntKind.u8.wrap x).toNat :: le k (x.fdiv 256) := by
  induction k generalizing x with
  | zero => rfl
  | succ k ih =>
    have h1 : le (k + 1 + 1) x = le (k + 1) x ++ [UInt8.ofNat (IntKind.u8.wrap (shrB (k + 1) x)).toNat] := rfl
    have h2 : le (k + 1) (x.fdiv 256) = le k (x.fdiv 256) ++ [UInt8.ofNat (IntKind.u8.wrap (shrB k (x.fdiv 256))).toNat] := rfl
    rw [h1, ih, h2, shrB_fdiv]; rfl

theorem byte_of (c : UInt8) (n : Nat) : UInt8.ofNat (IntKind.u8.wrap ((c.toNat + 256 * n : Nat) : Int)).toNat = c := by
  have hc := c.toNat_lt
  have : (IntKind.u8.wrap ((c.toNat + 256 * n : Nat) : Int)).toNat = c.toNat := by
    simp only [IntKind.wrap, IntKind.signed, IntKind.bits]; simp; omega
  rw [this]; simp

theorem le_num (l : List UInt8) : le l.length (num l : Nat) = l := by
  induction l with
  | nil => rfl
  | cons c l ih =>
    have hc := c.toNat_lt
    rw [List.length_cons, le_cons]
    have h2 : ((num (c :: l) : Nat) : Int).fdiv 256 = (num l : Nat) := by
      rw [Int.fdiv_eq_ediv_of_nonneg _ (by omega)]; simp only [num]; omega
    rw [h2, ih]
    congr 1
    exact byte_of c (num l)

theorem num_le (k : Nat) (x : Int) (h0 : 0 ≤ x) (h1 : x < ((256 ^ k : Nat) : Int)) : (num (le k x) : Int) = x := by
  induction k generalizing x with
  | zero => simp [le, num] at *; omega
  | succ k ih =>
    rw [le_cons]
    have hd : x.fdiv 256 = x / 256 := Int.fdiv_eq_ediv_of_nonneg _ (by omega)
    have hp : (256 ^ (k + 1) : Nat) = 256 * 256 ^ k := by rw [Nat.pow_succ, Nat.mul_comm]
    rw [hp] at h1
    have h3 := ih (x.fdiv 256) (by rw [hd]; omega) (by rw [hd]; omega)
    have hw : (IntKind.u8.wrap x).toNat = (x % 256).toNat := by simp only [IntKind.wrap, IntKind.signed, IntKind.bits]; simp
    have hb : (UInt8.ofNat (IntKind.u8.wrap x).toNat).toNat = (x % 256).toNat := by
      rw [hw]; simp; omega
    simp only [num]
    rw [hb]
    omega

theorem spE_app (a b : List UInt8) : spE (a ++ b) a.length = 0 := by
  unfold spE; rw [if_neg (by omega), if_neg (by simp; omega)]
theorem spA_app (a b : List UInt8) : spA (a ++ b) a.length = a := by
  unfold spA; rw [if_neg (by omega), if_neg (by simp; omega)]; simp
theorem spB_app (a b : List UInt8) : spB (a ++ b) a.length = b := by
  unfold spB; rw [if_neg (by omega), if_neg (by simp; omega)]; simp

/-- What is cut off is a beginning, and the rest. -/
theorem sp_ok {b : List UInt8} {n : Int} (h : spE b n = 0) : 0 ≤ n ∧ spA b n ++ spB b n = b ∧ ((spA b n).length : Int) = n := by
  unfold spE at h
  split at h
  · cases h
  · split at h
    · cases h
    · rename_i h1 h2
      unfold spA spB
      simp only [if_neg h1, if_neg h2]
      refine ⟨by omega, by simp, ?_⟩
      simp; omega

theorem rdR_put {k : Nat} {least : Nat} {x : Int} (r : List UInt8) (h0 : 0 ≤ x) (h1 : x < ((256 ^ k : Nat) : Int)) (h2 : (least : Int) ≤ x) : rdR (le k x ++ r) k least = (x.toNat, r, 0) := by
  have hl := le_len k x
  have e := spE_app (le k x) r
  have a := spA_app (le k x) r
  have c := spB_app (le k x) r
  rw [hl] at e a c
  have hn := num_le k x h0 h1
  unfold rdR
  rw [if_neg (by rw [e]; simp), a, c, if_neg (by omega)]
  rw [show num (le k x) = x.toNat by omega]

theorem le1 (x : Int) (h0 : 0 ≤ x) (h1 : x ≤ 255) : le 1 x = [UInt8.ofNat x.toNat] := by
  simp only [le, shrB, List.nil_append]
  rw [wrap_u8 h0 h1]

theorem sz_put (n : Int) (r : List UInt8) (h0 : 0 ≤ n) (h1 : n ≤ 18446744073709551615) : sz (sizeB n ++ r) = (n.toNat, r, 0) := by
  have key : ∀ (x : Int) (s : List UInt8), 0 ≤ x → x ≤ 255 → spE (le 1 x ++ s) 1 = 0 ∧ spB (le 1 x ++ s) 1 = s ∧ (num (spA (le 1 x ++ s) 1) : Int) = x := by
    intro x s hx0 hx1
    have hl := le_len 1 x
    have e := spE_app (le 1 x) s
    have a := spA_app (le 1 x) s
    have c := spB_app (le 1 x) s
    rw [hl] at e a c
    exact ⟨e, c, by rw [show ((1 : Nat) : Int) = 1 from rfl] at a; rw [a]; exact num_le 1 x hx0 (by omega)⟩
  unfold sizeB
  split
  · obtain ⟨k1, k2, k3⟩ := key n r h0 (by omega)
    unfold sz
    rw [if_neg (by rw [k1]; simp), if_neg (by omega), if_neg (by omega), if_neg (by omega), k2]
    rw [show num (spA (le 1 n ++ r) 1) = n.toNat by omega]
  · split
    · obtain ⟨k1, k2, k3⟩ := key 253 (le 2 n ++ r) (by omega) (by omega)
      rw [List.append_assoc]
      unfold sz
      rw [if_neg (by rw [k1]; simp), if_pos (by omega), k2]
      exact rdR_put r h0 (by omega) (by omega)
    · split
      · obtain ⟨k1, k2, k3⟩ := key 254 (le 4 n ++ r) (by omega) (by omega)
        rw [List.append_assoc]
        unfold sz
        rw [if_neg (by rw [k1]; simp), if_neg (by omega), if_pos (by omega), k2]
        exact rdR_put r h0 (by omega) (by omega)
      · obtain ⟨k1, k2, k3⟩ := key 255 (le 8 n ++ r) (by omega) (by omega)
        rw [List.append_assoc]
        unfold sz
        rw [if_neg (by rw [k1]; simp), if_neg (by omega), if_neg (by omega), if_pos (by omega), k2]
        exact rdR_put r h0 (by omega) (by omega)

end Go.Fw
