/- The abstract machine, and the contracts of the code: part 48. -/
import Derived.Test.YticnacaeibpicaaP47

section
/- One hash of many: plain laws, of any way to make one of two. -/
namespace Go.Fw
open Go
set_option linter.unusedVariables false
set_option linter.unusedSimpArgs false

abbrev Hs := List UInt8
section
variable (P : Hs → Hs → Hs)

/-- The row above. -/
def liftS : List Hs → List Hs
  | a :: b :: l => P a b :: liftS l
  | [a] => [P a a]
  | [] => []
/-- Are two that are paired alike? -/
def alikeS : List Hs → Bool
  | a :: b :: l => (a == b) || alikeS l
  | _ => false

theorem liftS_len : ∀ l, (liftS P l).length = (l.length + 1) / 2
  | a :: b :: l => by simp only [liftS, List.length_cons, liftS_len l]; omega
  | [a] => by simp [liftS]
  | [] => rfl
theorem liftS_app : ∀ p q : List Hs, p.length % 2 = 0 → liftS P (p ++ q) = liftS P p ++ liftS P q
  | a :: b :: p, q, h => by
    simp only [List.cons_append, liftS, List.cons.injEq, true_and]
    exact liftS_app p q (by simp only [List.length_cons] at h; omega)
  | [a], q, h => by simp at h
  | [], q, _ => rfl
theorem alikeS_app : ∀ p q : List Hs, p.length % 2 = 0 → alikeS (p ++ q) = (alikeS p || alikeS q)
  | a :: b :: p, q, h => by
    simp only [List.cons_append, alikeS, Bool.or_assoc]
    rw [alikeS_app p q (by simp only [List.length_cons] at h; omega)]
  | [a], q, h => by simp at h
  | [], q, _ => by simp [alikeS]
theorem take2 (l : List Hs) (k : Nat) (h : k + 1 < l.length) : l.take (k + 2) = l.take k ++ [l.getD k [], l.getD (k + 1) []] := by
  rw [List.take_succ_eq_append_getElem h, List.take_succ_eq_append_getElem (show k < l.length by omega), List.append_assoc]
  simp [h, show k < l.length by omega]
theorem take1 (l : List Hs) (k : Nat) (h : k < l.length) : l.take (k + 1) = l.take k ++ [l.getD k []] := by
  rw [List.take_succ_eq_append_getElem h]; simp [h]
theorem liftS_two (l : List Hs) (k : Nat) (h : k + 1 < l.length) (he : k % 2 = 0) : liftS P (l.take (k + 2)) = liftS P (l.take k) ++ [P (l.getD k []) (l.getD (k + 1) [])] := by
  rw [take2 l k h, liftS_app P _ _ (by simp; omega)]; rfl
theorem liftS_one (l : List Hs) (k : Nat) (h : k + 1 = l.length) (he : k % 2 = 0) : liftS P l = liftS P (l.take k) ++ [P (l.getD k []) (l.getD k [])] := by
  have := take1 l k (by omega)
  rw [h, List.take_length] at this
  conv => lhs; rw [this]
  rw [liftS_app P _ _ (by simp; omega)]; rfl
theorem alikeS_two (l : List Hs) (k : Nat) (h : k + 1 < l.length) (he : k % 2 = 0) : alikeS (l.take (k + 2)) = (alikeS (l.take k) || (l.getD k [] == l.getD (k + 1) [])) := by
  rw [take2 l k h, alikeS_app _ _ (by simp; omega)]; simp [alikeS]
theorem alikeS_one (l : List Hs) (k : Nat) (h : k + 1 = l.length) (he : k % 2 = 0) : alikeS l = alikeS (l.take k) := by
  have := take1 l k (by omega)
  rw [h, List.take_length] at this
  conv => lhs; rw [this]
  rw [alikeS_app _ _ (by simp; omega)]; simp [alikeS]

/-- The one that is paired with a place. -/
def withS (n i : Nat) : Nat := if i % 2 = 1 then i - 1 else if n ≤ i + 1 then i else i + 1
theorem withS_lt {n i : Nat} (h : i < n) : withS n i < n := by unfold withS; split <;> (try split) <;> omega
theorem liftS_get : ∀ (l : List Hs) (j : Nat), 2 * j < l.length → (liftS P l).getD j [] = P (l.getD (2 * j) []) (l.getD (withS l.length (2 * j)) [])
  | a :: b :: l, 0, h => by simp [liftS, withS]
  | a :: b :: l, j + 1, h => by
    have ih := liftS_get l j (by simp only [List.length_cons] at h; omega)
    simp only [liftS, List.getD_cons_succ, ih]
    have e1 : (a :: b :: l).getD (2 * (j + 1)) [] = l.getD (2 * j) [] := by rw [show 2 * (j + 1) = 2 * j + 1 + 1 by omega]; rfl
    have e2 : withS (a :: b :: l).length (2 * (j + 1)) = withS l.length (2 * j) + 1 + 1 := by
      simp only [List.length_cons] at h ⊢
      unfold withS
      repeat' split
      all_goals omega
    rw [e1, e2]; rfl
  | [a], 0, h => by simp [liftS, withS]
  | [a], j + 1, h => by simp at h
  | [], j, h => by simp at h

/-- The root, and whether they are doubled. -/
def rootW (l : List Hs) (d : Bool) : Hs × Bool :=
  if h : 1 < l.length then rootW (liftS P l) (d || alikeS l) else if l.length = 0 then (List.replicate 32 0, false) else (l.getD 0 [], d)
termination_by l.length
decreasing_by rw [liftS_len]; omega

/-- The way of a place. -/
def branchW (l : List Hs) (i : Nat) : List Hs :=
  if h : 1 < l.length then l.getD (withS l.length i) [] :: branchW (liftS P l) (i / 2) else []
termination_by l.length
decreasing_by rw [liftS_len]; omega

/-- How often a row is lifted. -/
def liftsN (n : Nat) : Nat := if h : 1 < n then liftsN ((n + 1) / 2) + 1 else 0
termination_by n
decreasing_by omega

def climbS : Hs → Nat → List Hs → Hs
  | x, _, [] => x
  | x, i, h :: t => climbS (if i % 2 = 0 then P x h else P h x) (i / 2) t

theorem rootW_up {l : List Hs} (d : Bool) (h : 1 < l.length) : rootW P l d = rootW P (liftS P l) (d || alikeS l) := by rw [rootW, dif_pos h]
theorem rootW_end {l : List Hs} (d : Bool) (h : l.length = 1) : rootW P l d = (l.getD 0 [], d) := by rw [rootW, dif_neg (by omega), if_neg (by omega)]
theorem rootW_none {l : List Hs} (d : Bool) (h : l.length = 0) : rootW P l d = (List.replicate 32 0, false) := by rw [rootW, dif_neg (by omega), if_pos h]
theorem branchW_up {l : List Hs} (i : Nat) (h : 1 < l.length) : branchW P l i = l.getD (withS l.length i) [] :: branchW P (liftS P l) (i / 2) := by rw [branchW, dif_pos h]
theorem branchW_end {l : List Hs} (i : Nat) (h : l.length ≤ 1) : branchW P l i = [] := by rw [branchW, dif_neg (by omega)]
theorem liftsN_up {n : Nat} (h : 1 < n) : liftsN n = liftsN ((n + 1) / 2) + 1 := by rw [liftsN, dif_pos h]
theorem liftsN_end {n : Nat} (h : n ≤ 1) : liftsN n = 0 := by rw [liftsN, dif_neg (by omega)]

theorem rootW_fst : ∀ (n : Nat) (l : List Hs) (d e : Bool), l.length ≤ n → (rootW P l d).1 = (rootW P l e).1
  | 0, l, d, e, h => by rw [rootW_none P d (by omega), rootW_none P e (by omega)]
  | n + 1, l, d, e, h => by
    by_cases h1 : 1 < l.length
    · rw [rootW_up P d h1, rootW_up P e h1]
      exact rootW_fst n _ _ _ (by rw [liftS_len]; omega)
    · by_cases h2 : l.length = 0
      · rw [rootW_none P d h2, rootW_none P e h2]
      · rw [rootW_end P d (by omega), rootW_end P e (by omega)]
theorem rootW_true : ∀ (n : Nat) (l : List Hs), l.length ≤ n → 0 < l.length → (rootW P l true).2 = true
  | 0, l, h, h0 => by omega
  | n + 1, l, h, h0 => by
    by_cases h1 : 1 < l.length
    · rw [rootW_up P true h1, Bool.true_or]
      exact rootW_true n _ (by rw [liftS_len]; omega) (by rw [liftS_len]; omega)
    · rw [rootW_end P true (by omega)]

theorem branchW_len : ∀ (n : Nat) (l : List Hs) (i : Nat), l.length ≤ n → (branchW P l i).length = liftsN l.length
  | 0, l, i, h => by rw [branchW_end P i (by omega), liftsN_end (by omega)]; rfl
  | n + 1, l, i, h => by
    by_cases h1 : 1 < l.length
    · rw [branchW_up P i h1, liftsN_up h1, List.length_cons, branchW_len n _ _ (by rw [liftS_len]; omega), liftS_len]
    · rw [branchW_end P i (by omega), liftsN_end (by omega)]; rfl

/-- The way up leads to the root. -/
theorem climb_root : ∀ (n : Nat) (l : List Hs) (i : Nat) (d : Bool), l.length ≤ n → i < l.length → climbS P (l.getD i []) i (branchW P l i) = (rootW P l d).1
  | 0, l, i, d, h, hi => by omega
  | n + 1, l, i, d, h, hi => by
    by_cases h1 : 1 < l.length
    · rw [branchW_up P i h1, rootW_up P d h1]
      simp only [climbS]
      have key : (if i % 2 = 0 then P (l.getD i []) (l.getD (withS l.length i) []) else P (l.getD (withS l.length i) []) (l.getD i [])) = (liftS P l).getD (i / 2) [] := by
        rw [liftS_get P l (i / 2) (by omega)]
        by_cases he : i % 2 = 0
        · rw [if_pos he, show 2 * (i / 2) = i by omega]
        · rw [if_neg he]
          have e1 : withS l.length i = 2 * (i / 2) := by unfold withS; rw [if_pos (by omega)]; omega
          have e2 : withS l.length (2 * (i / 2)) = i := by unfold withS; rw [if_neg (by omega), if_neg (by omega)]; omega
          rw [e1, e2]
      rw [key]
      exact climb_root n _ _ _ (by rw [liftS_len]; omega) (by rw [liftS_len]; omega)
    · rw [branchW_end P i (by omega), rootW_end P d (by omega)]
      simp only [climbS]
      rw [show i = 0 by omega]

/-! ### Twice the last. -/
theorem liftS_twice (l : List Hs) (h : l.length % 2 = 1) : liftS P (l ++ [l.getD (l.length - 1) []]) = liftS P l := by
  have h1 := liftS_one P l (l.length - 1) (by omega) (by omega)
  have h2 := take1 l (l.length - 1) (by omega)
  rw [show l.length - 1 + 1 = l.length by omega, List.take_length] at h2
  rw [h1]
  conv => lhs; rw [h2]
  rw [List.append_assoc, liftS_app P _ _ (by simp; omega)]
  simp [liftS]
theorem alikeS_twice (l : List Hs) (h : l.length % 2 = 1) : alikeS (l ++ [l.getD (l.length - 1) []]) = true := by
  have h2 := take1 l (l.length - 1) (by omega)
  rw [show l.length - 1 + 1 = l.length by omega, List.take_length] at h2
  conv => lhs; rw [h2]
  rw [List.append_assoc, alikeS_app _ _ (by simp; omega)]
  simp [alikeS]
theorem twice_root {l : List Hs} (h : l.length % 2 = 1) (h1 : 1 < l.length) : rootW P (l ++ [l.getD (l.length - 1) []]) false = ((rootW P l false).1, true) := by
  rw [rootW_up P false (by simp; omega), liftS_twice P l h, alikeS_twice l h, Bool.or_true, rootW_up P false h1]
  have hl := liftS_len P l
  apply Prod.ext
  · exact rootW_fst P _ _ _ _ (Nat.le_refl _)
  · exact rootW_true P _ _ (Nat.le_refl _) (by omega)
theorem even_alike {l : List Hs} (h : l.length % 2 = 0) (h1 : 1 < l.length) (he : l.getD (l.length - 1) [] = l.getD (l.length - 2) []) : (rootW P l false).2 = true := by
  have h2 := alikeS_two l (l.length - 2) (by omega) (by omega)
  rw [show l.length - 2 + 2 = l.length by omega, show l.length - 2 + 1 = l.length - 1 by omega, List.take_length, he] at h2
  have h3 : alikeS l = true := by rw [h2]; simp
  rw [rootW_up P false h1, h3, Bool.or_true]
  have hl := liftS_len P l
  exact rootW_true P _ _ (Nat.le_refl _) (by omega)

end
end Go.Fw

end
