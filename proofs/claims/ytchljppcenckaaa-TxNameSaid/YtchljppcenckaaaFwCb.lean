/- The abstract machine, and the contracts of the code: part 46. -/
import Derived.Test.YtchljppcenckaaaFwCp

section
/- Sizes, strings, lists: there and back, cut off. Plain laws. -/
namespace Go.Fw
open Go
set_option linter.unusedVariables false
set_option linter.unusedSimpArgs false

theorem bnd_put {n most : Int} (r : List UInt8) (h0 : 0 ≤ n) (h1 : n ≤ most) (h2 : most ≤ 9223372036854775807) : bnd (sizeB n ++ r) most = (n.toNat, r, 0) := by
  have h := sz_put n r h0 (by omega)
  unfold bnd
  rw [h]
  simp only [ne_eq, not_true_eq_false, if_false]
  rw [if_neg (by omega)]

theorem lim_put {x : List UInt8} {most : Int} (r : List UInt8) (h1 : (x.length : Int) ≤ most) (h2 : most ≤ 9223372036854775807) : lim (sizeB x.length ++ x ++ r) most = (x, r, 0) := by
  have h := bnd_put (n := x.length) (most := most) (x ++ r) (by omega) h1 h2
  rw [List.append_assoc]
  unfold lim
  rw [h]
  simp only [ne_eq, not_true_eq_false, if_false, Int.toNat_natCast, spA_app, spB_app, spE_app]

theorem tkF_put {most : Int} (h2 : most ≤ 9223372036854775807) : ∀ (l acc : List (List UInt8)) (r : List UInt8), (∀ x ∈ l, (x.length : Int) ≤ most) → tkF most l.length acc (flat l ++ r) = (acc ++ l, r, 0)
  | [], acc, r, _ => by simp [tkF, flat]
  | x :: l, acc, r, h => by
    have h1 := lim_put (x := x) (most := most) (flat l ++ r) (h x (by simp)) h2
    simp only [List.length_cons, tkF_succ, flat]
    rw [List.append_assoc, h1]
    simp only [ne_eq, not_true_eq_false, if_false]
    rw [tkF_put h2 l (acc ++ [x]) r (fun y hy => h y (by simp [hy]))]
    simp

theorem lst_put {l : List (List UInt8)} {many most : Int} (r : List UInt8) (hm : (l.length : Int) ≤ many) (hm2 : many ≤ 9223372036854775807) (h2 : most ≤ 9223372036854775807) (h : ∀ x ∈ l, (x.length : Int) ≤ most) :
    lst (sizeB l.length ++ flat l ++ r) many most = (l, r, 0) := by
  have h1 := bnd_put (n := l.length) (most := many) (flat l ++ r) (by omega) hm hm2
  rw [List.append_assoc]
  unfold lst
  rw [h1]
  simp only [ne_eq, not_true_eq_false, if_false, Int.toNat_natCast]
  rw [tkF_put h2 l [] r h]; simp

/-! ### Cut off. -/

theorem sp_cut {b : List UInt8} {n : Int} (h : (b.length : Int) < n) : spE b n = 2 ∧ spA b n = [] ∧ spB b n = [] := by
  unfold spE spA spB
  rw [if_neg (by omega), if_pos h, if_neg (by omega), if_pos h, if_neg (by omega), if_pos h]
  exact ⟨rfl, rfl, rfl⟩

theorem rdR_cut {b : List UInt8} {n : Int} {least : Nat} (h : (b.length : Int) < n) : rdR b n least = (0, [], 2) := by
  unfold rdR
  rw [(sp_cut h).1, if_pos (by omega)]

theorem sz_nil : sz [] = (0, [], 2) := by
  unfold sz
  rw [(sp_cut (b := []) (n := 1) (by simp)).1, if_pos (by omega)]

theorem sz_cut {n : Int} (h0 : 0 ≤ n) {k : Nat} (hk : k < (sizeB n).length) : sz ((sizeB n).take k) = (0, [], 2) := by
  cases k with
  | zero => exact sz_nil
  | succ k =>
    have key : ∀ (x : Int) (s : List UInt8), 0 ≤ x → x ≤ 255 → spE (le 1 x ++ s) 1 = 0 ∧ spB (le 1 x ++ s) 1 = s ∧ (num (spA (le 1 x ++ s) 1) : Int) = x := by
      intro x s hx0 hx1
      have hl := le_len 1 x
      have e := spE_app (le 1 x) s
      have a := spA_app (le 1 x) s
      have c := spB_app (le 1 x) s
      rw [hl] at e a c
      exact ⟨e, c, by rw [show ((1 : Nat) : Int) = 1 from rfl] at a; rw [a]; exact num_le 1 x hx0 (by omega)⟩
    have tk : ∀ (x : Int) (s : List UInt8), (le 1 x ++ s).take (k + 1) = le 1 x ++ s.take k := fun x s => by
      have hl := le_len 1 x
      rw [List.take_append, hl, List.take_of_length_le (by omega)]; simp
    unfold sizeB at hk ⊢
    split
    · rename_i h; rw [if_pos h, le_len] at hk; omega
    · rename_i h
      rw [if_neg h] at hk
      split
      · rename_i h2
        rw [if_pos h2] at hk
        simp only [List.length_append, le_len] at hk
        obtain ⟨k1, k2, k3⟩ := key 253 ((le 2 n).take k) (by omega) (by omega)
        rw [tk]
        unfold sz
        rw [if_neg (by rw [k1]; simp), if_pos (by omega), k2]
        exact rdR_cut (by simp [le_len]; omega)
      · rename_i h2
        rw [if_neg h2] at hk
        split
        · rename_i h3
          rw [if_pos h3] at hk
          simp only [List.length_append, le_len] at hk
          obtain ⟨k1, k2, k3⟩ := key 254 ((le 4 n).take k) (by omega) (by omega)
          rw [tk]
          unfold sz
          rw [if_neg (by rw [k1]; simp), if_neg (by omega), if_pos (by omega), k2]
          exact rdR_cut (by simp [le_len]; omega)
        · rename_i h3
          rw [if_neg h3] at hk
          simp only [List.length_append, le_len] at hk
          obtain ⟨k1, k2, k3⟩ := key 255 ((le 8 n).take k) (by omega) (by omega)
          rw [tk]
          unfold sz
          rw [if_neg (by rw [k1]; simp), if_neg (by omega), if_neg (by omega), if_pos (by omega), k2]
          exact rdR_cut (by simp [le_len]; omega)

theorem bnd_cut {n most : Int} (h0 : 0 ≤ n) {k : Nat} (hk : k < (sizeB n).length) : bnd ((sizeB n).take k) most = (0, [], 2) := by
  unfold bnd
  rw [sz_cut h0 hk, if_pos (by simp)]

theorem lim_cut {x : List UInt8} {most : Int} (h1 : (x.length : Int) ≤ most) (h2 : most ≤ 9223372036854775807) {k : Nat} (hk : k < (sizeB x.length ++ x).length) : lim ((sizeB x.length ++ x).take k) most = ([], [], 2) := by
  unfold lim
  by_cases h : k < (sizeB (x.length : Int)).length
  · rw [List.take_append_of_le_length (by omega), bnd_cut (by omega) h, if_pos (by simp)]
  · have e : (sizeB (x.length : Int) ++ x).take k = sizeB (x.length : Int) ++ x.take (k - (sizeB (x.length : Int)).length) := by
      rw [List.take_append, List.take_of_length_le (by omega)]
    rw [e, bnd_put _ (by omega) h1 h2]
    simp only [List.length_append] at hk
    have hc := sp_cut (b := x.take (k - (sizeB (x.length : Int)).length)) (n := ((x.length : Int).toNat : Int)) (by simp; omega)
    simp only [ne_eq, not_true_eq_false, if_false]
    rw [hc.1, hc.2.1, hc.2.2]

theorem tkF_cut {most : Int} (h2 : most ≤ 9223372036854775807) : ∀ (l acc : List (List UInt8)) (k : Nat), (∀ x ∈ l, (x.length : Int) ≤ most) → k < (flat l).length → tkF most l.length acc ((flat l).take k) = ([], [], 2)
  | [], acc, k, _, hk => by simp [flat] at hk
  | x :: l, acc, k, h, hk => by
    simp only [List.length_cons, tkF_succ, flat]
    by_cases h1 : k < (sizeB (x.length : Int) ++ x).length
    · rw [List.take_append_of_le_length (by omega), lim_cut (h x (by simp)) h2 h1, if_pos (by simp)]
    · have e : (sizeB (x.length : Int) ++ x ++ flat l).take k = sizeB (x.length : Int) ++ x ++ (flat l).take (k - (sizeB (x.length : Int) ++ x).length) := by
        rw [List.take_append, List.take_of_length_le (by omega)]
      rw [e, lim_put _ (h x (by simp)) h2]
      simp only [ne_eq, not_true_eq_false, if_false]
      simp only [flat, List.length_append] at hk h1 ⊢
      exact tkF_cut h2 l _ _ (fun y hy => h y (by simp [hy])) (by omega)

theorem lst_cut {l : List (List UInt8)} {many most : Int} (hm : (l.length : Int) ≤ many) (hm2 : many ≤ 9223372036854775807) (h2 : most ≤ 9223372036854775807) (h : ∀ x ∈ l, (x.length : Int) ≤ most) {k : Nat} (hk : k < (sizeB l.length ++ flat l).length) :
    lst ((sizeB l.length ++ flat l).take k) many most = ([], [], 2) := by
  unfold lst
  by_cases h1 : k < (sizeB (l.length : Int)).length
  · rw [List.take_append_of_le_length (by omega), bnd_cut (by omega) h1, if_pos (by simp)]
  · have e : (sizeB (l.length : Int) ++ flat l).take k = sizeB (l.length : Int) ++ (flat l).take (k - (sizeB (l.length : Int)).length) := by
      rw [List.take_append, List.take_of_length_le (by omega)]
    rw [e, bnd_put _ (by omega) hm hm2]
    simp only [List.length_append] at hk
    simp only [ne_eq, not_true_eq_false, if_false, Int.toNat_natCast]
    exact tkF_cut h2 l [] _ h (by omega)

end Go.Fw

end
