/- The abstract machine, and the contracts of the code: part 47. -/
import Derived.Test.YtofhcigjidhnoaaFwT

section
/- One hash of many: plain laws, of any way to make one of two. -/
namespace Go.Fw
open Go
set_option linter.unusedVariables false
set_option linter.unusedSimpArgs false

abbrev Hs := List UInt8
section
variable (P : Hs → Hs → Hs)

/-- The row above. -/
def liftS : List Hs → List Hs
  | a :: b :: l => P a b :: liftS l
  | [a] => [P a a]
  | [] => []
/-- Are two that are paired alike? -/
def alikeS : List Hs → Bool
  | a :: b :: l => (a == b) || alikeS l
  | _ => false

theorem liftS_len : ∀ l, (liftS P l).length = (l.length + 1) / 2
  | a :: b :: l => by simp only [liftS, List.length_cons, liftS_len l]; omega
  | [a] => by simp [liftS]
  | [] => rfl
theorem liftS_app : ∀ p q : List Hs, p.length % 2 = 0 → liftS P (p ++ q) = liftS P p ++ liftS P q
  | a :: b :: p, q, h => by
    simp only [List.cons_append, liftS, List.cons.injEq, true_and]
    exact liftS_app p q (by simp only [List.length_cons] at h; omega)
  | [a], q, h => by simp at h
  | [], q, _ => rfl
theorem alikeS_app : ∀ p q : List Hs, p.length % 2 = 0 → alikeS (p ++ q) = (alikeS p || alikeS q)
  | a :: b :: p, q, h => by
    simp only [List.cons_append, alikeS, Bool.or_assoc]
    rw [alikeS_app p q (by simp only [List.length_cons] at h; omega)]
  | [a], q, h => by simp at h
  | [], q, _ => by simp [alikeS]
theorem take2 (l : List Hs) (k : Nat) (h : k + 1 < l.length) : l.take (k + 2) = l.take k ++ [l.getD k [], l.getD (k + 1) []] := by
  rw [List.take_succ_eq_append_getElem h, List.take_succ_eq_append_getElem (show k < l.length by omega), List.append_assoc]
  simp [h, show k < l.length by omega]
theorem take1 (l : List Hs) (k : Nat) (h : k < l.length) : l.take (k + 1) = l.take k ++ [l.getD k []] := by
  rw [List.take_succ_eq_append_getElem h]; simp [h]
theorem liftS_two (l : List Hs) (k : Nat) (h : k + 1 < l.length) (he : k % 2 = 0) : liftS P (l.take (k + 2)) = liftS P (l.take k) ++ [P (l.getD k []) (l.getD (k + 1) [])] := by
  rw [take2 l k h, liftS_app P _ _ (by simp; omega)]; rfl
theorem liftS_one (l : List Hs) (k : Nat) (h : k + 1 = l.length) (he : k % 2 = 0) : liftS P l = liftS P (l.take k) ++ [P (l.getD k []) (l.getD k [])] := by
  have := take1 l k (by omega)
  rw [h, List.take_length] at this
  conv => lhs; rw [this]
  rw [liftS_app P _ _ (by simp; omega)]; rfl
theorem alikeS_two (l : List Hs) (k : Nat) (h : k + 1 < l.length) (he : k % 2 = 0) : alikeS (l.take (k + 2)) = (alikeS (l.take k) || (l.getD k [] == l.getD (k + 1) [])) := by
  rw [take2 l k h, alikeS_app _ _ (by simp; omega)]; simp [alikeS]
theorem alikeS_one (l : List Hs) (k : Nat) (h : k + 1 = l.length) (he : k % 2 = 0) : alikeS l = alikeS (l.take k) := by
  have := take1 l k (by omega)
  rw [h, List.take_length] at this
  conv => lhs; rw [this]
  rw [alikeS_app _ _ (by simp; omega)]; simp [alikeS]

/-- The one that is paired with a place. -/
def withS (n i : Nat) : Nat := if i % 2 = 1 then i - 1 else if n ≤ i + 1 then i else i + 1
theorem withS_lt {n i : Nat} (h : i < n) : withS n i < n := by unfold withS; split <;> (try split) <;> omega
theorem liftS_get : ∀ (l : List Hs) (j : Nat), 2 * j < l.length → (liftS P l).getD j [] = P (l.getD (2 * j) []) (l.getD (withS l.length (2 * j)) [])
  | a :: b :: l, 0, h => by simp [liftS, withS]
  | a :: b :: l, j + 1, h => by
    have ih := liftS_get l j (by simp only [List.length_cons] at h; omega)
    simp only [liftS, List.getD_cons_succ, ih]
    have e1 : (a :: b :: l).getD (2 * (j + 1)) [] = l.getD (2 * j) [] := by rw [show 2 * (j + 1) = 2 * j + 1 + 1 by omega]; rfl
    have e2 : withS (a :: b :: l).length (2 * (j + 1)) = withS l.length (2 * j) + 1 + 1 := by
      simp only [List.length_cons] at h ⊢
      unfold withS
      repeat' split
      all_goals omega
    rw [e1, e2]; rfl
  | [a], 0, h => by simp [liftS, withS]
  | [a], j + 1, h => by simp at h
  | [], j, h => by simp at h

/-- The root, and whether they are doubled. -/
def rootW (l : List Hs) (d : Bool) : Hs × Bool :=
  if h : 1 < l.length then rootW (liftS P l) (d || alikeS l) else if l.length = 0 then (List.replicate 32 0, false) else (l.getD 0 [], d)
termination_by l.length
decreasing_by rw [liftS_len]; omega

/-- The way of a place. -/
def branchW (l : List Hs) (i : Nat) : List Hs :=
  if h : 1 < l.length then l.getD (withS l.length i) [] :: branchW (liftS P l) (i / 2) else []
termination_by l.length
decreasing_by rw [liftS_len]; omega

/-- How often a row is lifted. -/
def liftsN (n : Nat) : Nat := if h : 1 < n then liftsN ((n + 1) / 2) + 1 else 0
termination_by n
decreasing_by omega

def climbS : Hs → Nat → List Hs → Hs
  | x, _, [] => x
  | x, i, h :: t => climbS (if i % 2 = 0 then P x h else P h x) (i / 2) t

theorem rootW_up {l : List Hs} (d : Bool) (h : 1 < l.length) : rootW P l d = rootW P (liftS P l) (d || alikeS l) := by rw [rootW, dif_pos h]
theorem rootW_end {l : List Hs} (d : Bool) (h : l.length = 1) : rootW P l d = (l.getD 0 [], d) := by rw [rootW, dif_neg (by omega), if_neg (by omega)]
theorem rootW_none {l : List Hs} (d : Bool) (h : l.length = 0) : rootW P l d = (List.replicate 32 0, false) := by rw [rootW, dif_neg (by omega), if_pos h]
theorem branchW_up {l : List Hs} (i : Nat) (h : 1 < l.length) : branchW P l i = l.getD (withS l.length i) [] :: branchW P (liftS P l) (i / 2) := by rw [branchW, dif_pos h]
theorem branchW_end {l : List Hs} (i : Nat) (h : l.length ≤ 1) : branchW P l i = [] := by rw [branchW, dif_neg (by omega)]
theorem liftsN_up {n : Nat} (h : 1 < n) : liftsN n = liftsN ((n + 1) / 2) + 1 := by rw [liftsN, dif_pos h]
theorem liftsN_end {n : Nat} (h : n ≤ 1) : liftsN n = 0 := by rw [liftsN, dif_neg (by omega)]

theorem rootW_fst : ∀ (n : Nat) (l : List Hs) (d e : Bool), l.length ≤ n → (rootW P l d).1 = (rootW P l e).1
  | 0, l, d, e, h => by rw [rootW_none P d (by omega), rootW_none P e (by omega)]
  | n + 1, l, d, e, h => by
    by_cases h1 : 1 < l.length
    · rw [rootW_up P d h1, rootW_up P e h1]
      exact rootW_fst n _ _ _ (by rw [liftS_len]; omega)
    · by_cases h2 : l.length = 0
      · rw [rootW_none P d h2, rootW_none P e h2]
      · rw [rootW_end P d (by omega), rootW_end P e (by omega)]
theorem rootW_true : ∀ (n : Nat) (l : List Hs), l.length ≤ n → 0 < l.length → (rootW P l true).2 = true
  | 0, l, h, h0 => by omega
  | n + 1, l, h, h0 => by
    by_cases h1 : 1 < l.length
    · rw [rootW_up P true h1, Bool.true_or]
      exact rootW_true n _ (by rw [liftS_len]; omega) (by rw [liftS_len]; omega)
    · rw [rootW_end P true (by omega)]

theorem branchW_len : ∀ (n : Nat) (l : List Hs) (i : Nat), l.length ≤ n → (branchW P l i).length = liftsN l.length
  | 0, l, i, h => by rw [branchW_end P i (by omega), liftsN_end (by omega)]; rfl
  | n + 1, l, i, h => by
    by_cases h1 : 1 < l.length
    · rw [branchW_up P i h1, liftsN_up h1, List.length_cons, branchW_len n _ _ (by rw [liftS_len]; omega), liftS_len]
    · rw [branchW_end P i (by omega), liftsN_end (by omega)]; rfl

/-- The way up leads to the root. -/
theorem climb_root : ∀ (n : Nat) (l : List Hs) (i : Nat) (d : Bool), l.length ≤ n → i < l.length → climbS P (l.getD i []) i (branchW P l i) = (rootW P l d).1
  | 0, l, i, d, h, hi => by omega
  | n + 1, l, i, d, h, hi => by
    by_cases h1 : 1 < l.length
    · rw [branchW_up P i h1, rootW_up P d h1]
      simp only [climbS]
      have key : (if i % 2 = 0 then P (l.getD i []) (l.getD (withS l.length i) []) else P (l.getD (withS l.length i) []) (l.getD i [])) = (liftS P l).getD (i / 2) [] := by
        rw [liftS_get P l (i / 2) (by omega)]
        by_cases he : i % 2 = 0
        · rw [if_pos he, show 2 * (i / 2) = i by omega]
        · rw [if_neg he]
          have e1 : withS l.length i = 2 * (i / 2) := by unfold withS; rw [if_pos (by omega)]; omega
          have e2 : withS l.length (2 * (i / 2)) = i := by unfold withS; rw [if_neg (by omega), if_neg (by omega)]; omega
          rw [e1, e2]
      rw [key]
      exact climb_root n _ _ _ (by rw [liftS_len]; omega) (by rw [liftS_len]; omega)
    · rw [branchW_end P i (by omega), rootW_end P d (by omega)]
      simp only [climbS]
      rw [show i = 0 by omega]

/-! ### Twice the last. -/
theorem liftS_twice (l : List Hs) (h : l.length % 2 = 1) : liftS P (l ++ [l.getD (l.length - 1) []]) = liftS P l := by
  have h1 := liftS_one P l (l.length - 1) (by omega) (by omega)
  have h2 := take1 l (l.length - 1) (by omega)
  rw [show l.length - 1 + 1 = l.length by omega, List.take_length] at h2
  rw [h1]
  conv => lhs; rw [h2]
  rw [List.append_assoc, liftS_app P _ _ (by simp; omega)]
  simp [liftS]
theorem alikeS_twice (l : List Hs) (h : l.length % 2 = 1) : alikeS (l ++ [l.getD (l.length - 1) []]) = true := by
  have h2 := take1 l (l.length - 1) (by omega)
  rw [show l.length - 1 + 1 = l.length by omega, List.take_length] at h2
  conv => lhs; rw [h2]
  rw [List.append_assoc, alikeS_app _ _ (by simp; omega)]
  simp [alikeS]
theorem twice_root {l : List Hs} (h : l.length % 2 = 1) (h1 : 1 < l.length) : rootW P (l ++ [l.getD (l.length - 1) []]) false = ((rootW P l false).1, true) := by
  rw [rootW_up P false (by simp; omega), liftS_twice P l h, alikeS_twice l h, Bool.or_true, rootW_up P false h1]
  have hl := liftS_len P l
  apply Prod.ext
  · exact rootW_fst P _ _ _ _ (Nat.le_refl _)
  · exact rootW_true P _ _ (Nat.le_refl _) (by omega)
theorem even_alike {l : List Hs} (h : l.length % 2 = 0) (h1 : 1 < l.length) (he : l.getD (l.length - 1) [] = l.getD (l.length - 2) []) : (rootW P l false).2 = true := by
  have h2 := alikeS_two l (l.length - 2) (by omega) (by omega)
  rw [show l.length - 2 + 2 = l.length by omega, show l.length - 2 + 1 = l.length - 1 by omega, List.take_length, he] at h2
  have h3 : alikeS l = true := by rw [h2]; simp
  rw [rootW_up P false h1, h3, Bool.or_true]
  have hl := liftS_len P l
  exact rootW_true P _ _ (Nat.le_refl _) (by omega)

end
end Go.Fw

end

section
/- Numbers, sizes, strings and lists as bytes: plain laws. -/
namespace Go.Fw
open Go
set_option linter.unusedVariables false
set_option linter.unusedSimpArgs false

/-- A number, shifted right by so many bytes. -/
def shrB : Nat → Int → Int
  | 0, x => x
  | k + 1, x => (shrB k x).fdiv 256

/-- The lowest so many bytes of a number. -/
def le : Nat → Int → List UInt8
  | 0, _ => []
  | k + 1, x => le k x ++ [UInt8.ofNat (IntKind.u8.wrap (shrB k x)).toNat]

theorem le_len (k : Nat) (x : Int) : (le k x).length = k := by
  induction k with
  | zero => rfl
  | succ k ih => simp [le, ih]

theorem shrB_range (k : Nat) (x : Int) (h0 : 0 ≤ x) (h1 : x ≤ 18446744073709551615) : 0 ≤ shrB k x ∧ shrB k x ≤ 18446744073709551615 := by
  induction k with
  | zero => exact ⟨h0, h1⟩
  | succ k ih =>
    simp only [shrB]
    rw [Int.fdiv_eq_ediv_of_nonneg _ (by omega)]
    omega

theorem inK_u8 {n : Int} (h : inK .u8 n) : 0 ≤ n ∧ n ≤ 255 := by simpa [inK, IntKind.min, IntKind.max, IntKind.signed, IntKind.bits] using h

theorem inK_u16 {n : Int} (h : inK .u16 n) : 0 ≤ n ∧ n ≤ 65535 := by simpa [inK, IntKind.min, IntKind.max, IntKind.signed, IntKind.bits] using h

theorem inK_u32 {n : Int} (h : inK .u32 n) : 0 ≤ n ∧ n ≤ 4294967295 := by simpa [inK, IntKind.min, IntKind.max, IntKind.signed, IntKind.bits] using h

theorem inK_u64 {n : Int} (h : inK .u64 n) : 0 ≤ n ∧ n ≤ 18446744073709551615 := by simpa [inK, IntKind.min, IntKind.max, IntKind.signed, IntKind.bits] using h

theorem inK_i64 {n : Int} (h : inK .i64 n) : -9223372036854775808 ≤ n ∧ n ≤ 9223372036854775807 := by simpa [inK, IntKind.min, IntKind.max, IntKind.signed, IntKind.bits] using h

theorem wrap_u8 {n : Int} (h1 : 0 ≤ n) (h2 : n ≤ 255) : IntKind.u8.wrap n = n := by simp only [IntKind.wrap, IntKind.signed, IntKind.bits]; simp; omega

theorem wrap_u16 {n : Int} (h1 : 0 ≤ n) (h2 : n ≤ 65535) : IntKind.u16.wrap n = n := by simp only [IntKind.wrap, IntKind.signed, IntKind.bits]; simp; omega

theorem wrap_u32 {n : Int} (h1 : 0 ≤ n) (h2 : n ≤ 4294967295) : IntKind.u32.wrap n = n := by simp only [IntKind.wrap, IntKind.signed, IntKind.bits]; simp; omega

/-- A size, as bytes. -/
def sizeB (n : Int) : List UInt8 :=
  if n < 253 then le 1 n else if n < 65536 then le 1 253 ++ le 2 n else if n < 4294967296 then le 1 254 ++ le 4 n else le 1 255 ++ le 8 n

theorem sizeB_len (n : Int) : (sizeB n).length ≤ 9 := by
  unfold sizeB
  split
  · simp [le_len]
  · split
    · simp [le_len]
    · split <;> simp [le_len]

/-- The strings of a list, each behind its size. -/
def flat : List (List UInt8) → List UInt8
  | [] => []
  | x :: l => sizeB x.length ++ x ++ flat l

theorem flat_snoc (l : List (List UInt8)) (x : List UInt8) : flat (l ++ [x]) = flat l ++ (sizeB x.length ++ x) := by
  induction l with
  | nil => simp [flat]
  | cons y l ih => simp [flat, ih]

def strs (l : List (List UInt8)) : T := .sq 1 (l.map .by)

def asBys : List T → Option (List (List UInt8))
  | [] => some []
  | .by l :: r => match asBys r with
    | some ls => some (l :: ls)
    | none => none
  | _ => none

theorem asBys_map (l : List (List UInt8)) : asBys (l.map .by) = some l := by
  induction l with
  | nil => rfl
  | cons x l ih => simp [asBys, ih]

theorem asBys_inv {xs : List T} {l : List (List UInt8)} (h : asBys xs = some l) : xs = l.map .by := by
  induction xs generalizing l with
  | nil => cases h; rfl
  | cons x xs ih =>
    unfold asBys at h
    split at h
    · rename_i heq; cases heq
    · rename_i y r heq
      cases heq
      split at h
      · rename_i ls hls; cases h; simp [ih hls]
      · cases h
    · cases h

theorem flat_take_len (l : List (List UInt8)) (k : Nat) : (flat (l.take k)).length ≤ (flat l).length := by
  induction l generalizing k with
  | nil => simp [flat]
  | cons x l ih =>
    cases k with
    | zero => simp [flat]
    | succ k => simp only [List.take_succ_cons, flat, List.length_append]; have := ih k; omega

theorem take_getD (l : List (List UInt8)) (k : Nat) (h : k < l.length) : l.take (k + 1) = l.take k ++ [l.getD k []] := by
  rw [List.take_succ_eq_append_getElem h]; simp [h]

theorem flat_take (l : List (List UInt8)) (k : Nat) (h : k < l.length) : flat (l.take (k + 1)) = flat (l.take k) ++ (sizeB (l.getD k []).length ++ l.getD k []) := by
  rw [take_getD l k h, flat_snoc]

theorem map_getD (l : List (List UInt8)) (k : Nat) (h : k < l.length) : (l.map T.by).getD k default = .by (l.getD k []) := by simp [h]

theorem flat_get_len (l : List (List UInt8)) (k : Nat) (h : k < l.length) : (flat (l.take k)).length + (l.getD k []).length ≤ (flat l).length := by
  have h1 := flat_take_len l (k + 1)
  rw [flat_take l k h] at h1
  simp only [List.length_append] at h1
  omega

theorem len_le_flat (l : List (List UInt8)) : l.length ≤ (flat l).length := by
  induction l with
  | nil => simp
  | cons x l ih =>
    have : 1 ≤ (sizeB x.length).length := by
      unfold sizeB
      split
      · simp [le_len]
      · split
        · simp [le_len]
        · split <;> simp [le_len]
    simp only [List.length_cons, flat, List.length_append]; omega

theorem tdiv_256 {n : Int} (h : 0 ≤ n) : n.tdiv 256 = n.fdiv 256 := by
  rw [Int.tdiv_eq_ediv_of_nonneg h, Int.fdiv_eq_ediv_of_nonneg _ (by omega)]

/-- How a cut ends, what it takes, what it leaves. -/
def spE (b : List UInt8) (n : Int) : Int := if n < 0 then 1 else if (b.length : Int) < n then 2 else 0

def spA (b : List UInt8) (n : Int) : List UInt8 := if n < 0 then [] else if (b.length : Int) < n then [] else b.take n.toNat

def spB (b : List UInt8) (n : Int) : List UInt8 := if n < 0 then [] else if (b.length : Int) < n then [] else b.drop n.toNat

theorem spA_len (b : List UInt8) (n : Int) : (spA b n).length ≤ b.length := by unfold spA; split <;> (try split) <;> simp <;> omega

theorem spB_len (b : List UInt8) (n : Int) : (spB b n).length ≤ b.length := by unfold spB; split <;> (try split) <;> simp

theorem spA_le (b : List UInt8) (n : Int) (m : Nat) (h : n ≤ m) : (spA b n).length ≤ m := by unfold spA; split <;> (try split) <;> simp <;> omega

/-- The number that bytes stand for, the lowest first. -/
def num : List UInt8 → Nat
  | [] => 0
  | c :: l => c.toNat + 256 * num l

theorem num_lt (l : List UInt8) : num l < 256 ^ l.length := by
  induction l with
  | nil => simp [num]
  | cons c l ih =>
    have hc : c.toNat < 256 := c.toNat_lt
    simp only [num, List.length_cons, Nat.pow_succ]
    omega

theorem num_lt8 (l : List UInt8) (h : l.length ≤ 8) : num l ≤ 18446744073709551615 := by
  have h1 := num_lt l
  have h2 : 256 ^ l.length ≤ 256 ^ 8 := Nat.pow_le_pow_right (by omega) h
  have h3 : (256 : Nat) ^ 8 = 18446744073709551616 := by decide
  omega

theorem num_snoc (l : List UInt8) (c : UInt8) : num (l ++ [c]) = num l + c.toNat * 256 ^ l.length := by
  induction l with
  | nil => simp [num]
  | cons d l ih => simp only [List.cons_append, num, ih, List.length_cons, Nat.pow_succ, Nat.mul_add]; rw [Nat.mul_left_comm, Nat.mul_comm 256 (256 ^ l.length)]; omega

theorem num_drop (l : List UInt8) (k : Nat) (h : k < l.length) : num (l.drop k) = (l.getD k 0).toNat + 256 * num (l.drop (k + 1)) := by
  rw [List.drop_eq_getElem_cons h]; simp [num, h]

theorem num_take (l : List UInt8) (k : Nat) (h : k < l.length) : num (l.take (k + 1)) = num (l.take k) + (l.getD k 0).toNat * 256 ^ k := by
  rw [List.take_succ_eq_append_getElem h, num_snoc]; simp [h]; rw [Nat.min_eq_left (by omega)]

theorem pow256 (k : Nat) : (256 : Nat) ^ k = 2 ^ (8 * k) := by rw [Nat.pow_mul]

theorem or_step (a c k : Nat) (ha : a < 256 ^ k) (hs : a + c * 256 ^ k < 18446744073709551616) : arith .or .u64 (a : Int) ((c * 256 ^ k : Nat) : Int) = some (.int .u64 ((a + c * 256 ^ k : Nat) : Int)) := by
  simp only [arith, abits, IntKind.bits]
  have h1 : ((a : Int) % 2 ^ 64).toNat = a := by omega
  have h2 : (((c * 256 ^ k : Nat) : Int) % 2 ^ 64).toNat = c * 256 ^ k := by omega
  rw [h1, h2]
  have h3 : a ||| c * 256 ^ k = a + c * 256 ^ k := by
    have := Nat.two_pow_add_eq_or_of_lt (i := 8 * k) (b := a) (by rw [← pow256]; exact ha) c
    rw [Nat.or_comm, pow256, Nat.mul_comm c, ← this]; omega
  rw [h3, wrap_u64 (by omega) (by omega)]

theorem shl_step (c k : Nat) (hk : k ≤ 8) (hs : c * 256 ^ k < 18446744073709551616) : arith .shl .u64 (c : Int) ((8 * k : Nat) : Int) = some (.int .u64 ((c * 256 ^ k : Nat) : Int)) := by
  simp only [arith, IntKind.bits]
  rw [if_neg (by omega)]
  have h1 : min ((8 * k : Nat) : Int).toNat 64 = 8 * k := by omega
  have h2 : (c : Int) * 2 ^ (8 * k) = ((c * 256 ^ k : Nat) : Int) := by rw [pow256]; push_cast; rfl
  rw [h1, h2, wrap_u64 (by omega) (by omega)]

theorem mul_step (k : Nat) (hk : k ≤ 8) : arith .mul .i64 8 (k : Int) = some (.int .i64 ((8 * k : Nat) : Int)) := by
  simp only [arith]
  rw [wrap_i64 (by omega) (by omega)]; push_cast; rfl

theorem num_lt4 (l : List UInt8) (h : l.length ≤ 4) : num l ≤ 4294967295 := by
  have h1 := num_lt l
  have h2 : 256 ^ l.length ≤ 256 ^ 4 := Nat.pow_le_pow_right (by omega) h
  have h3 : (256 : Nat) ^ 4 = 4294967296 := by decide
  omega

/-- A long number: what it is, what is left, how it ended. -/
def rdR (b : List UInt8) (long : Int) (least : Nat) : Nat × List UInt8 × Int :=
  if spE b long ≠ 0 then (0, [], spE b long) else if num (spA b long) < least then (0, [], 3) else (num (spA b long), spB b long, 0)

/-- A size. -/
def sz (b : List UInt8) : Nat × List UInt8 × Int :=
  if spE b 1 ≠ 0 then (0, [], spE b 1) else if num (spA b 1) = 253 then rdR (spB b 1) 2 253 else if num (spA b 1) = 254 then rdR (spB b 1) 4 65536
  else if num (spA b 1) = 255 then rdR (spB b 1) 8 4294967296 else (num (spA b 1), spB b 1, 0)

theorem sp_bad {b : List UInt8} {n : Int} (h : spE b n ≠ 0) : spA b n = [] ∧ spB b n = [] := by
  unfold spE at h; unfold spA spB
  split
  · exact ⟨rfl, rfl⟩
  · split
    · exact ⟨rfl, rfl⟩
    · rename_i h1 h2; rw [if_neg h1, if_neg h2] at h; exact absurd rfl h

theorem num_lt1 (l : List UInt8) (h : l.length ≤ 1) : num l ≤ 255 := by
  have h1 := num_lt l
  have h2 : 256 ^ l.length ≤ 256 ^ 1 := Nat.pow_le_pow_right (by omega) h
  have h3 : (256 : Nat) ^ 1 = 256 := by decide
  omega

theorem rdR_len (b : List UInt8) (n : Int) (k : Nat) : (rdR b n k).2.1.length ≤ b.length := by
  have := spB_len b n
  unfold rdR; split
  · simp
  · split <;> simp <;> omega

theorem rdR_lt (b : List UInt8) (n : Int) (k : Nat) (hn : n ≤ 8) : (rdR b n k).1 ≤ 18446744073709551615 := by
  have := num_lt8 (spA b n) (spA_le b n 8 hn)
  unfold rdR; split
  · simp
  · split <;> simp <;> omega

theorem sz_len (b : List UInt8) : (sz b).2.1.length ≤ b.length := by
  have := spB_len b 1
  have h1 := rdR_len (spB b 1) 2 253
  have h2 := rdR_len (spB b 1) 4 65536
  have h3 := rdR_len (spB b 1) 8 4294967296
  unfold sz; repeat' split
  all_goals first | (simp; done) | omega | (simp only; omega)

theorem sz_lt (b : List UInt8) : (sz b).1 ≤ 18446744073709551615 := by
  have h0 := num_lt1 (spA b 1) (spA_le b 1 1 (by omega))
  have h1 := rdR_lt (spB b 1) 2 253 (by omega)
  have h2 := rdR_lt (spB b 1) 4 65536 (by omega)
  have h3 := rdR_lt (spB b 1) 8 4294967296 (by omega)
  unfold sz; repeat' split
  all_goals first | (simp; done) | omega | (simp only; omega)

/-- A bounded size. -/
def bnd (b : List UInt8) (most : Int) : Nat × List UInt8 × Int :=
  if (sz b).2.2 ≠ 0 then (0, [], (sz b).2.2) else if most < 0 ∨ most < ((sz b).1 : Int) then (0, [], 4) else ((sz b).1, (sz b).2.1, 0)

/-- Bounded bytes. -/
def lim (b : List UInt8) (most : Int) : List UInt8 × List UInt8 × Int :=
  if (bnd b most).2.2 ≠ 0 then ([], [], (bnd b most).2.2)
  else (spA (bnd b most).2.1 (bnd b most).1, spB (bnd b most).2.1 (bnd b most).1, spE (bnd b most).2.1 (bnd b most).1)

theorem bnd_len (b : List UInt8) (most : Int) : (bnd b most).2.1.length ≤ b.length := by
  have := sz_len b
  unfold bnd; repeat' split
  all_goals first | (simp; done) | omega | (simp only; omega)

theorem bnd_lt (b : List UInt8) (most : Int) (h : most ≤ 9223372036854775807) : ((bnd b most).1 : Int) ≤ 9223372036854775807 := by
  unfold bnd; split
  · simp
  · split
    · simp
    · rename_i hn; simp only; omega

theorem lim_len (b : List UInt8) (most : Int) : (lim b most).1.length ≤ b.length ∧ (lim b most).2.1.length ≤ b.length := by
  have h0 := bnd_len b most
  have h1 := spA_len (bnd b most).2.1 (bnd b most).1
  have h2 := spB_len (bnd b most).2.1 (bnd b most).1
  unfold lim; split
  · simp
  · simp only; omega

theorem wf_rows {l : List (List UInt8)} (h : (T.sq 1 (l.map .by)).wf) : l.length ≤ maxLen := by
  simp only [T.wf] at h; simpa using h.2.1

def smallB (l : List (List UInt8)) : Bool := decide (l.length ≤ 40) && l.all fun x => decide (x.length ≤ 300)

theorem flat_small (l : List (List UInt8)) (h : smallB l = true) : (flat l).length ≤ 40 * 309 := by
  simp only [smallB, Bool.and_eq_true, decide_eq_true_eq, List.all_eq_true] at h
  obtain ⟨h1, h2⟩ := h
  have : ∀ l : List (List UInt8), (∀ x ∈ l, x.length ≤ 300) → (flat l).length ≤ l.length * 309 := by
    intro l
    induction l with
    | nil => simp [flat]
    | cons x l ih =>
      intro h
      have a := h x (by simp)
      have b := ih (fun y hy => h y (by simp [hy]))
      have c := sizeB_len (x.length : Int)
      simp only [flat, List.length_append, List.length_cons]
      omega
  exact Nat.le_trans (this l h2) (Nat.mul_le_mul_right 309 h1)

/-- So many strings, taken one after the other. -/
def tkF (most : Int) : Nat → List (List UInt8) → List UInt8 → List (List UInt8) × List UInt8 × Int
  | 0, acc, b => (acc, b, 0)
  | n + 1, acc, b => if (lim b most).2.2 ≠ 0 then ([], [], (lim b most).2.2) else tkF most n (acc ++ [(lim b most).1]) (lim b most).2.1

/-- A list, taken. -/
def lst (b : List UInt8) (many most : Int) : List (List UInt8) × List UInt8 × Int :=
  if (bnd b many).2.2 ≠ 0 then ([], [], (bnd b many).2.2) else tkF most (bnd b many).1 [] (bnd b many).2.1

theorem rdR_eat {b : List UInt8} {n : Int} {k : Nat} (h : (rdR b n k).2.2 = 0) : (rdR b n k).2.1.length ≤ b.length := rdR_len b n k

theorem sp1_eat {b : List UInt8} (h : spE b 1 = 0) : (spB b 1).length + 1 ≤ b.length := by
  unfold spE at h
  rw [if_neg (by omega)] at h
  split at h
  · cases h
  · rename_i hn
    unfold spB
    rw [if_neg (by omega), if_neg hn]
    simp; omega

theorem sz_eat {b : List UInt8} (h : (sz b).2.2 = 0) : (sz b).2.1.length + 1 ≤ b.length := by
  have h1 := rdR_len (spB b 1) 2 253
  have h2 := rdR_len (spB b 1) 4 65536
  have h3 := rdR_len (spB b 1) 8 4294967296
  unfold sz at h ⊢
  split at h
  · rename_i hn; exact absurd h hn
  · rename_i hn
    rw [if_neg hn]
    have h0 := sp1_eat (b := b) (by simpa using hn)
    repeat' split
    all_goals first | omega | (simp only; omega)

theorem bnd_eat {b : List UInt8} {most : Int} (h : (bnd b most).2.2 = 0) : (bnd b most).2.1.length + 1 ≤ b.length := by
  unfold bnd at h ⊢
  split at h
  · rename_i hn; exact absurd h hn
  · rename_i hn
    rw [if_neg hn]
    split at h
    · cases h
    · rename_i hn2
      rw [if_neg hn2]
      exact sz_eat (by simpa using hn)

theorem lim_eat {b : List UInt8} {most : Int} (h : (lim b most).2.2 = 0) : (lim b most).2.1.length + 1 ≤ b.length := by
  unfold lim at h ⊢
  split at h
  · rename_i hn; exact absurd h hn
  · rename_i hn
    rw [if_neg hn]
    have h1 := bnd_eat (b := b) (most := most) (by simpa using hn)
    have h2 := spB_len (bnd b most).2.1 (bnd b most).1
    simp only; omega

theorem tkF_succ (most : Int) (n : Nat) (acc : List (List UInt8)) (b : List UInt8) : tkF most (n + 1) acc b = if (lim b most).2.2 ≠ 0 then ([], [], (lim b most).2.2) else tkF most n (acc ++ [(lim b most).1]) (lim b most).2.1 := rfl

theorem map_snoc (acc : List (List UInt8)) (x : List UInt8) : acc.map T.by ++ [T.by x] = (acc ++ [x]).map T.by := by simp

theorem shrB_fdiv (k : Nat) (x : Int) : shrB k (x.fdiv 256) = shrB (k + 1) x := by
  induction k with
  | zero => rfl
  | succ k ih => simp only [shrB] at ih ⊢; rw [ih]

theorem le_cons (k : Nat) (x : Int) : le (k + 1) x = UInt8.ofNat (IntKind.u8.wrap x).toNat :: le k (x.fdiv 256) := by
  induction k generalizing x with
  | zero => rfl
  | succ k ih =>
    have h1 : le (k + 1 + 1) x = le (k + 1) x ++ [UInt8.ofNat (IntKind.u8.wrap (shrB (k + 1) x)).toNat] := rfl
    have h2 : le (k + 1) (x.fdiv 256) = le k (x.fdiv 256) ++ [UInt8.ofNat (IntKind.u8.wrap (shrB k (x.fdiv 256))).toNat] := rfl
    rw [h1, ih, h2, shrB_fdiv]; rfl

theorem byte_of (c : UInt8) (n : Nat) : UInt8.ofNat (IntKind.u8.wrap ((c.toNat + 256 * n : Nat) : Int)).toNat = c := by
  have hc := c.toNat_lt
  have : (IntKind.u8.wrap ((c.toNat + 256 * n : Nat) : Int)).toNat = c.toNat := by
    simp only [IntKind.wrap, IntKind.signed, IntKind.bits]; simp; omega
  rw [this]; simp

theorem le_num (l : List UInt8) : le l.length (num l : Nat) = l := by
  induction l with
  | nil => rfl
  | cons c l ih =>
    have hc := c.toNat_lt
    rw [List.length_cons, le_cons]
    have h2 : ((num (c :: l) : Nat) : Int).fdiv 256 = (num l : Nat) := by
      rw [Int.fdiv_eq_ediv_of_nonneg _ (by omega)]; simp only [num]; omega
    rw [h2, ih]
    congr 1
    exact byte_of c (num l)

theorem num_le (k : Nat) (x : Int) (h0 : 0 ≤ x) (h1 : x < ((256 ^ k : Nat) : Int)) : (num (le k x) : Int) = x := by
  induction k generalizing x with
  | zero => simp [le, num] at *; omega
  | succ k ih =>
    rw [le_cons]
    have hd : x.fdiv 256 = x / 256 := Int.fdiv_eq_ediv_of_nonneg _ (by omega)
    have hp : (256 ^ (k + 1) : Nat) = 256 * 256 ^ k := by rw [Nat.pow_succ, Nat.mul_comm]
    rw [hp] at h1
    have h3 := ih (x.fdiv 256) (by rw [hd]; omega) (by rw [hd]; omega)
    have hw : (IntKind.u8.wrap x).toNat = (x % 256).toNat := by simp only [IntKind.wrap, IntKind.signed, IntKind.bits]; simp
    have hb : (UInt8.ofNat (IntKind.u8.wrap x).toNat).toNat = (x % 256).toNat := by
      rw [hw]; simp; omega
    simp only [num]
    rw [hb]
    omega

theorem spE_app (a b : List UInt8) : spE (a ++ b) a.length = 0 := by
  unfold spE; rw [if_neg (by omega), if_neg (by simp; omega)]

theorem spA_app (a b : List UInt8) : spA (a ++ b) a.length = a := by
  unfold spA; rw [if_neg (by omega), if_neg (by simp; omega)]; simp

theorem spB_app (a b : List UInt8) : spB (a ++ b) a.length = b := by
  unfold spB; rw [if_neg (by omega), if_neg (by simp; omega)]; simp

/-- What is cut off is a beginning, and the rest. -/
theorem sp_ok {b : List UInt8} {n : Int} (h : spE b n = 0) : 0 ≤ n ∧ spA b n ++ spB b n = b ∧ ((spA b n).length : Int) = n := by
  unfold spE at h
  split at h
  · cases h
  · split at h
    · cases h
    · rename_i h1 h2
      unfold spA spB
      simp only [if_neg h1, if_neg h2]
      refine ⟨by omega, by simp, ?_⟩
      simp; omega

theorem rdR_put {k : Nat} {least : Nat} {x : Int} (r : List UInt8) (h0 : 0 ≤ x) (h1 : x < ((256 ^ k : Nat) : Int)) (h2 : (least : Int) ≤ x) : rdR (le k x ++ r) k least = (x.toNat, r, 0) := by
  have hl := le_len k x
  have e := spE_app (le k x) r
  have a := spA_app (le k x) r
  have c := spB_app (le k x) r
  rw [hl] at e a c
  have hn := num_le k x h0 h1
  unfold rdR
  rw [if_neg (by rw [e]; simp), a, c, if_neg (by omega)]
  rw [show num (le k x) = x.toNat by omega]

theorem le1 (x : Int) (h0 : 0 ≤ x) (h1 : x ≤ 255) : le 1 x = [UInt8.ofNat x.toNat] := by
  simp only [le, shrB, List.nil_append]
  rw [wrap_u8 h0 h1]

theorem sz_put (n : Int) (r : List UInt8) (h0 : 0 ≤ n) (h1 : n ≤ 18446744073709551615) : sz (sizeB n ++ r) = (n.toNat, r, 0) := by
  have key : ∀ (x : Int) (s : List UInt8), 0 ≤ x → x ≤ 255 → spE (le 1 x ++ s) 1 = 0 ∧ spB (le 1 x ++ s) 1 = s ∧ (num (spA (le 1 x ++ s) 1) : Int) = x := by
    intro x s hx0 hx1
    have hl := le_len 1 x
    have e := spE_app (le 1 x) s
    have a := spA_app (le 1 x) s
    have c := spB_app (le 1 x) s
    rw [hl] at e a c
    exact ⟨e, c, by rw [show ((1 : Nat) : Int) = 1 from rfl] at a; rw [a]; exact num_le 1 x hx0 (by omega)⟩
  unfold sizeB
  split
  · obtain ⟨k1, k2, k3⟩ := key n r h0 (by omega)
    unfold sz
    rw [if_neg (by rw [k1]; simp), if_neg (by omega), if_neg (by omega), if_neg (by omega), k2]
    rw [show num (spA (le 1 n ++ r) 1) = n.toNat by omega]
  · split
    · obtain ⟨k1, k2, k3⟩ := key 253 (le 2 n ++ r) (by omega) (by omega)
      rw [List.append_assoc]
      unfold sz
      rw [if_neg (by rw [k1]; simp), if_pos (by omega), k2]
      exact rdR_put r h0 (by omega) (by omega)
    · split
      · obtain ⟨k1, k2, k3⟩ := key 254 (le 4 n ++ r) (by omega) (by omega)
        rw [List.append_assoc]
        unfold sz
        rw [if_neg (by rw [k1]; simp), if_neg (by omega), if_pos (by omega), k2]
        exact rdR_put r h0 (by omega) (by omega)
      · obtain ⟨k1, k2, k3⟩ := key 255 (le 8 n ++ r) (by omega) (by omega)
        rw [List.append_assoc]
        unfold sz
        rw [if_neg (by rw [k1]; simp), if_neg (by omega), if_neg (by omega), if_pos (by omega), k2]
        exact rdR_put r h0 (by omega) (by omega)

theorem rdR_only {b : List UInt8} {k : Nat} {least : Nat} (h : (rdR b k least).2.2 = 0) : (least : Int) ≤ (rdR b k least).1 ∧ le k ((rdR b k least).1 : Nat) ++ (rdR b k least).2.1 = b := by
  unfold rdR at h ⊢
  split at h
  · rename_i hn; exact absurd h hn
  · rename_i hn
    rw [if_neg hn]
    split at h
    · cases h
    · rename_i h2
      rw [if_neg h2]
      obtain ⟨q1, q2, q3⟩ := sp_ok (b := b) (n := k) (by simpa using hn)
      have hk : (spA b k).length = k := by omega
      have := le_num (spA b k)
      rw [hk] at this
      exact ⟨by simp only; omega, by simp only; rw [this]; exact q2⟩

/-- Whoever is taken as a size was put so. -/
theorem sz_only {b : List UInt8} (h : (sz b).2.2 = 0) : sizeB ((sz b).1 : Nat) ++ (sz b).2.1 = b := by
  have hlt := num_lt1 (spA b 1) (spA_le b 1 1 (by omega))
  have l2 := rdR_lt (spB b 1) 2 253 (by omega)
  unfold sz at h ⊢
  split at h
  · rename_i hn; exact absurd h hn
  · rename_i hn
    rw [if_neg hn]
    obtain ⟨q1, q2, q3⟩ := sp_ok (b := b) (n := 1) (by simpa using hn)
    have hk : (spA b 1).length = 1 := by omega
    have hone := le_num (spA b 1)
    rw [hk] at hone
    have b2 : (rdR (spB b 1) 2 253).1 < 65536 := by
      unfold rdR; split
      · simp
      · split
        · simp
        · have := num_lt (spA (spB b 1) 2)
          have hl := spA_le (spB b 1) 2 2 (by omega)
          have hp : 256 ^ (spA (spB b 1) 2).length ≤ 256 ^ 2 := Nat.pow_le_pow_right (by omega) hl
          simp only; omega
    have b4 : (rdR (spB b 1) 4 65536).1 < 4294967296 := by
      unfold rdR; split
      · simp
      · split
        · simp
        · have := num_lt4 (spA (spB b 1) 4) (spA_le (spB b 1) 4 4 (by omega))
          simp only; omega
    split at h
    · rename_i e
      rw [if_pos e]
      obtain ⟨r1, r2⟩ := rdR_only (k := 2) h
      unfold sizeB
      have r1' : (253 : Int) ≤ (rdR (spB b 1) 2 253).1 := r1
      rw [if_neg (by omega), if_pos (by omega), List.append_assoc]
      rw [show ((2 : Nat) : Int) = 2 from rfl] at r2
      rw [r2]; conv => rhs; rw [← q2]
      congr 1
      rw [← hone, e]; rfl
    · rename_i e
      rw [if_neg e]
      split at h
      · rename_i e4
        rw [if_pos e4]
        obtain ⟨r1, r2⟩ := rdR_only (k := 4) h
        unfold sizeB
        have r1' : (65536 : Int) ≤ (rdR (spB b 1) 4 65536).1 := r1
        rw [if_neg (by omega), if_neg (by omega), if_pos (by omega), List.append_assoc]
        rw [show ((4 : Nat) : Int) = 4 from rfl] at r2
        rw [r2]; conv => rhs; rw [← q2]
        congr 1
        rw [← hone, e4]; rfl
      · rename_i e4
        rw [if_neg e4]
        split at h
        · rename_i e8
          rw [if_pos e8]
          obtain ⟨r1, r2⟩ := rdR_only (k := 8) h
          unfold sizeB
          have r1' : (4294967296 : Int) ≤ (rdR (spB b 1) 8 4294967296).1 := r1
          rw [if_neg (by omega), if_neg (by omega), if_neg (by omega), List.append_assoc]
          rw [show ((8 : Nat) : Int) = 8 from rfl] at r2
          rw [r2]; conv => rhs; rw [← q2]
          congr 1
          rw [← hone, e8]; rfl
        · rename_i e8
          rw [if_neg e8]
          unfold sizeB
          simp only
          rw [if_pos (by omega), hone, q2]

theorem bnd_only {b : List UInt8} {most : Int} (h : (bnd b most).2.2 = 0) : sizeB ((bnd b most).1 : Nat) ++ (bnd b most).2.1 = b ∧ ((bnd b most).1 : Int) ≤ most := by
  unfold bnd at h ⊢
  split at h
  · rename_i hn; exact absurd h hn
  · rename_i hn
    rw [if_neg hn]
    split at h
    · cases h
    · rename_i h2
      rw [if_neg h2]
      exact ⟨sz_only (by simpa using hn), by simp only; omega⟩

theorem lim_only {b : List UInt8} {most : Int} (h : (lim b most).2.2 = 0) : sizeB ((lim b most).1.length : Int) ++ (lim b most).1 ++ (lim b most).2.1 = b := by
  unfold lim at h ⊢
  split at h
  · rename_i hn; exact absurd h hn
  · rename_i hn
    rw [if_neg hn]
    obtain ⟨q1, q2, q3⟩ := sp_ok (b := (bnd b most).2.1) (n := (bnd b most).1) h
    have h1 := (bnd_only (b := b) (most := most) (by simpa using hn)).1
    simp only
    rw [q3, List.append_assoc, q2, h1]

theorem tkF_bad {most : Int} : ∀ (n : Nat) (acc : List (List UInt8)) (b : List UInt8), (tkF most n acc b).2.2 ≠ 0 → (tkF most n acc b).1 = [] ∧ (tkF most n acc b).2.1 = []
  | 0, acc, b, h => by simp [tkF] at h
  | n + 1, acc, b, h => by
    unfold tkF at h ⊢
    split at h
    · rename_i hn; rw [if_pos hn]; exact ⟨rfl, rfl⟩
    · rename_i hn; rw [if_neg hn]; exact tkF_bad n _ _ h

theorem tkF_only {most : Int} : ∀ (n : Nat) (acc : List (List UInt8)) (b : List UInt8), (tkF most n acc b).2.2 = 0 →
    (tkF most n acc b).1.length = acc.length + n ∧ flat (tkF most n acc b).1 ++ (tkF most n acc b).2.1 = flat acc ++ b
  | 0, acc, b, h => by simp [tkF]
  | n + 1, acc, b, h => by
    unfold tkF at h ⊢
    split at h
    · rename_i hn; exact absurd h hn
    · rename_i hn
      rw [if_neg hn]
      obtain ⟨h1, h2⟩ := tkF_only n _ _ h
      refine ⟨by rw [h1]; simp; omega, ?_⟩
      rw [h2, flat_snoc, List.append_assoc]
      have h3 := lim_only (b := b) (most := most) (by simpa using hn)
      rw [h3]

theorem lst_bad {b : List UInt8} {many most : Int} (h : (lst b many most).2.2 ≠ 0) : (lst b many most).1 = [] ∧ (lst b many most).2.1 = [] := by
  unfold lst at h ⊢
  split at h
  · rename_i hn; rw [if_pos hn]; exact ⟨rfl, rfl⟩
  · rename_i hn; rw [if_neg hn]; exact tkF_bad _ _ _ h

/-- A list that is taken, put again. -/
theorem lst_only {b : List UInt8} {many most : Int} (h : (lst b many most).2.2 = 0) :
    ((lst b many most).1.length : Int) ≤ many ∧ sizeB ((lst b many most).1.length : Int) ++ flat (lst b many most).1 ++ (lst b many most).2.1 = b := by
  unfold lst at h ⊢
  split at h
  · rename_i hn; exact absurd h hn
  · rename_i hn
    rw [if_neg hn]
    obtain ⟨h1, h2⟩ := bnd_only (b := b) (most := many) (by simpa using hn)
    obtain ⟨h3, h4⟩ := tkF_only _ _ _ h
    simp only [List.length_nil, Nat.zero_add] at h3
    rw [List.append_assoc, h4, h3]
    exact ⟨h2, by simpa [flat] using h1⟩

end Go.Fw

end

section
/- Any order of a region: the rule, also where two operations write no slot. -/
namespace Go.Fw
set_option linter.unusedVariables false
set_option linter.unusedSimpArgs false
open Go

def depOk2 (ops : List Oper) : Bool :=
  (List.range ops.length).all fun j => match ops[j]? with
    | none => true
    | some o => (aft o).all (fun i => decide (i < j)) &&
      (List.range ops.length).all fun i => match ops[i]? with
        | none => true
        | some p => (decide (i = j) || decide (p.dst ≠ o.dst) || p.dst.isNone) &&
          (match p.dst with
            | none => true
            | some d => !((o.looksAt ops.toArray).contains d) || (decide (i < j) && (aft o).contains i) || (decide (j < i) && (aft p).contains j))

theorem depOk2_ok {ops : List Oper} (h : depOk2 ops = true) : DepOk ops := by
  simp only [depOk2, List.all_eq_true, List.mem_range] at h
  have get : ∀ (j : Nat) (o : Oper), ops[j]? = some o → j < ops.length := fun j o hj => (List.getElem?_eq_some_iff.1 hj).1
  refine ⟨fun j o i hj hi => ?_, fun i j p o d hi hj hp ho => ?_, fun i j p o d hi hj hp hd => ?_⟩
  · have := h j (get j o hj)
    rw [hj] at this
    simp only [Bool.and_eq_true, List.all_eq_true] at this
    simpa using this.1 i hi
  · have := h j (get j o hj)
    rw [hj] at this
    simp only [Bool.and_eq_true, List.all_eq_true, List.mem_range] at this
    have := this.2 i (get i p hi)
    rw [hi] at this
    simp only [Bool.and_eq_true, Bool.or_eq_true, decide_eq_true_eq] at this
    rcases this.1 with (h1 | h1) | h1
    · exact h1
    · exact (h1 (by rw [hp, ho])).elim
    · rw [hp] at h1; simp at h1
  · have := h j (get j o hj)
    rw [hj] at this
    simp only [Bool.and_eq_true, List.all_eq_true, List.mem_range] at this
    have := this.2 i (get i p hi)
    rw [hi] at this
    simp only [Bool.and_eq_true, hp] at this
    have h2 := this.2
    have hc : (o.looksAt ops.toArray).contains d = true := by simpa using hd
    rw [hc] at h2
    simp at h2
    rcases h2 with h2 | h2
    · exact .inl h2
    · exact .inr h2

def dOk2 (ops : List Oper) (fs : List Info) : Bool :=
  depOk2 ops && (fs.length == ops.length) && ((List.range ops.length).all fun j => match ops[j]?, fs[j]? with
    | some o, some f => f.looks.all (fun t => (o.looksAt ops.toArray).contains t) &&
      f.anc.all (fun a => (aft o).contains a || (aft o).any fun b => match fs[b]? with | some g => g.anc.contains a | none => false) &&
      (f.cls != 2 || (List.range ops.length).all fun k => (k == j) || match fs[k]? with
        | some g => (g.cls == 0) || (if k < j then f.anc.contains k else g.anc.contains j)
        | none => true) && decide (f.cls ≤ 2)
    | _, _ => false) && fs.all fun f => (f.cls != 0) || f.st.all fun i => fs.all fun g => (g.cls != 2) || g.st.contains i

theorem dOk2_ok {ops : List Oper} {fs : List Info} (h : dOk2 ops fs = true) : DOk ops fs := by
  unfold dOk2 at h
  rw [Bool.and_eq_true] at h
  obtain ⟨h, h5⟩ := h
  simp only [Bool.and_eq_true, beq_iff_eq, List.all_eq_true, List.mem_range] at h
  obtain ⟨⟨h1, h2⟩, h3⟩ := h
  have get : ∀ (j : Nat) (f : Info), fs[j]? = some f → j < ops.length := fun j f hj => by have := (List.getElem?_eq_some_iff.1 hj).1; omega
  have each : ∀ (j : Nat) (o : Oper) (f : Info), ops[j]? = some o → fs[j]? = some f → (((∀ t ∈ f.looks, (o.looksAt ops.toArray).contains t = true) ∧ (∀ a ∈ f.anc, ((aft o).contains a || (aft o).any fun b => match fs[b]? with | some g => g.anc.contains a | none => false) = true)) ∧
      (f.cls != 2 || (List.range ops.length).all fun k => (k == j) || match fs[k]? with
        | some g => (g.cls == 0) || (if k < j then f.anc.contains k else g.anc.contains j)
        | none => true) = true) ∧ f.cls ≤ 2 := by
    intro j o f ho hf
    have := h3 j (get j f hf)
    rw [ho, hf] at this
    simp only [Bool.and_eq_true, List.all_eq_true, decide_eq_true_eq] at this
    exact this
  refine ⟨depOk2_ok h1, h2, fun j o f ho hf t ht => ?_, fun j o f ho hf a ha => ?_, fun j f hf hc k g hg hg0 hkj => ?_, fun j f hj => ?_, fun j f hf hc i hi k g hg hgc => ?_⟩
  · have := (each j o f ho hf).1.1.1 t ht
    simpa using this
  · have := (each j o f ho hf).1.1.2 a ha
    simp only [Bool.or_eq_true, List.any_eq_true] at this
    rcases this with h | ⟨b, hb, h⟩
    · exact .inl (by simpa using h)
    · right
      cases hg : fs[b]? with
      | none => rw [hg] at h; simp at h
      | some g => rw [hg] at h; exact ⟨b, hb, g, hg, by simpa using h⟩
  · have hlt := get j f hf
    have := (each j _ f (List.getElem?_eq_getElem hlt) hf).1.2
    simp only [Bool.or_eq_true, bne_iff_ne, ne_eq, List.all_eq_true, List.mem_range, beq_iff_eq] at this
    rcases this with h | h
    · exact (h hc).elim
    · have h4 := h k (get k g hg)
      rcases h4 with h4 | h4
      · exact (hkj h4).elim
      · rw [hg] at h4
        simp only [Bool.or_eq_true, beq_iff_eq] at h4
        rcases h4 with h4 | h4
        · exact (hg0 h4).elim
        · split at h4
          · rename_i hlt'; exact .inl ⟨hlt', by simpa using h4⟩
          · exact .inr ⟨by omega, by simpa using h4⟩
  · have hlt := get j f hj
    exact (each j _ f (List.getElem?_eq_getElem hlt) hj).2
  · have h6 := List.all_eq_true.1 h5 f (List.mem_of_getElem? hf)
    rw [hc] at h6
    simp only [bne_self_eq_false, Bool.false_or] at h6
    have h7 := List.all_eq_true.1 (List.all_eq_true.1 h6 i hi) g (List.mem_of_getElem? hg)
    rw [hgc] at h7
    simpa using h7

section
variable {P : Program} {E : Env} {q : List TypeId} {gl : GCalls} {N : Nat} {ops : List Oper} {fs : List Info} {s0 sN : Slots} {H0 HN : List Blk}
theorem AWP.gdraw2 {kp : Nat} (hX : XOk P E q) (hcl : GClOk P gl) (keep : List Nat) (hmix : P.follows .mixedOrders = true) {id : Nat} {l : List Oper} (fs : List Info) (hdep : dOk2 l fs = true) {Q : Exit → AS → Prop} {S S' : AS}
    (h : drunP E q gl N keep l fs S = some S') (hQ : Q .normal S') : AWP kp P N (.region id l.toArray true) Q S := by
  unfold drunP at h
  split at h
  case h_2 => cases h
  rename_i S1 hq
  cases h
  have hd := dOk2_ok hdep
  obtain ⟨T⟩ := dt_of hd.len (sN := S1.s) (HN := S1.H) hq
  intro c hc m w a hi hs
  refine wp_region_any hmix ?_
  have hcount : countF (Array.replicate l.toArray.size false) = l.toArray.size := by simp [countF]
  have hfalse : ∀ k, (Array.replicate l.toArray.size false).getD k false = false := by
    intro k
    rw [Array.getD_eq_getD_getElem?, Array.getElem?_replicate]
    split <;> rfl
  obtain ⟨τ, t1, t2, t3, t4⟩ := next_turn fs l.length 0 (by omega)
  have hstill : ∀ k g, 0 ≤ k → k < τ → fs[k]? = some g → g.cls ≤ 1 := fun k g h1 h2 h3 => by
    have := hd.top k g h3; have := t3 k g h1 h2 h3; omega
  obtain ⟨R, hR⟩ := T.prefix_ hd 0 τ t2 t1 hstill
  have h00 : T.hp 0 = S.H := T.zero.2
  rw [h00] at hR
  obtain ⟨m2, e2, i2⟩ := hi.drawn.pad R.length
  have hck : c.k ≤ S.H.length := by
    rcases Nat.eq_zero_or_pos c.k with h0 | h0
    · omega
    · have := (hi.keep (c.k - 1) (by omega)).1; rw [hi.len] at this; omega
  refine d_order hX hcl hck T hd (fun t k hk => ?_) (fun m' w' a' h1 h2 => ⟨m', ⟨prune keep S1.s, S1.H⟩, h1, h2.prune keep, hQ⟩) _ _ a _ m2 0 τ _ (by simp) hcount ?_ i2 ?_ hs.1 hs.2.1 ?_ ?_
  · have := (hs.2.2 t).idxs_lt k hk
    rw [hi.len] at this; exact this
  · intro j o hj hl i _
    rw [hfalse] at hl; cases hl
  · refine ⟨t1, t2, fun k g _ _ hk => by omega, fun k g _ _ _ => hfalse k, hstill, t4, by rw [hR]; simp, fun i hi' => ?_, fun k i hk1 hk2 hi1 hi2 => ?_, fun i B hi' hB k hk => ?_⟩
    · rw [h00] at hi'
      rw [hR, List.getElem?_append_left hi', List.getElem?_append_left hi']
    · have g1 := T.mono hd 0 k (by omega) (by omega)
      have g2 := T.mono hd (k + 1) τ (by omega) t2
      rw [h00] at g1
      have g3 : (T.hp τ).length = S.H.length + R.length := by rw [hR]; simp
      rw [if_neg (by rw [hfalse]; simp), List.getElem?_append_right (by omega), List.getElem?_replicate, if_pos (by omega)]
    · rw [h00] at hB ⊢
      have := hi.blk_lt hB k hk
      rw [hi.len] at this; exact this
  · intro i o d hj hl _
    rw [hfalse] at hl; cases hl
  · intro t _
    exact (hs.2.2 t).mono e2

end
end Go.Fw

end

section
/- A drawn region by cases: of two operations in no order, the one is first or the other. The region is told anew, with its operations in another order of the text and one order more. -/
namespace Go.Fw
set_option linter.unusedVariables false
set_option linter.unusedSimpArgs false
open Go

/-- An operation that calls no function: all that it comes to is told by its run. -/
def isPl : Op → Bool
  | .move _ => true
  | .assign _ => true
  | .pick _ _ _ => true
  | .alloc _ => true
  | .build _ _ => true
  | .buildSlice _ _ _ => true
  | .load _ _ => true
  | .binOp _ _ _ _ _ => true
  | .unOp _ _ _ => true
  | .convert _ _ _ => true
  | .makeSlice _ _ _ => true
  | .slice _ _ _ _ _ => true
  | .fieldAddr _ _ _ => true
  | .field _ _ _ => true
  | .indexAddr _ _ _ => true
  | .index _ _ _ => true
  | .extract _ _ => true
  | .call c => match c.callee with
    | .builtin .append => true
    | .builtin .len => true
    | _ => false
  | _ => false

theorem and_plain {α : Type} (r : Result α) (f : α → Value) : (∃ v w', (r.andThen fun x w => (.ok (.value (f x)) w : Result Next)) = .ok (.value v) w') ∨ ∃ x w', (r.andThen fun x w => (.ok (.value (f x)) w : Result Next)) = .halt x w' := by
  cases r with
  | ok v w' => exact .inl ⟨f v, w', rfl⟩
  | halt x w' => exact .inr ⟨x, w', rfl⟩
theorem pl_run {P : Program} {w : World} {ρ : Operand → Value} {o : Oper} (h : isPl o.op = true) : (∃ v w', (execOp ρ o).run P w = .ok (.value v) w') ∨ ∃ x w', (execOp ρ o).run P w = .halt x w' := by
  unfold execOp
  cases ho : o.op <;> rw [ho] at h <;> simp only [isPl, Bool.false_eq_true] at h <;> dsimp only
  case call c =>
    obtain ⟨callee, args, tys⟩ := c
    dsimp only at h
    split at h
    · simp only [resolve, Sem.run_bind, Sem.run_pure, Result.andThen_ok, invoke, builtin]
      exact and_plain _ _
    · simp only [resolve, Sem.run_bind, Sem.run_pure, Result.andThen_ok, invoke, builtin]
      exact and_plain _ _
    · cases h
  all_goals first
    | exact .inl ⟨_, _, rfl⟩
    | (simp only [Sem.run_bind, Sem.run_pure]; exact and_plain _ _)
theorem wp_both {P : Program} {o : Oper} {a : Act} {w : World} {K K' : Act → World → Prop} {Q : Exit → Act → World → Prop} (hp : isPl o.op = true) (h : o.wp P a w K Q) (h' : o.wp P a w K' Q) : o.wp P a w (fun a w => K a w ∧ K' a w) Q := by
  unfold Oper.wp at *
  rcases pl_run (P := P) (w := w) (ρ := a.eval) hp with ⟨v, w', e⟩ | ⟨x, w', e⟩
  · rw [e] at h h' ⊢
    exact ⟨h, h'⟩
  · rw [e] at h ⊢
    cases x <;> exact h

/-- Where an operation stands in the new order. -/
def posIn (σ : List Nat) (i : Nat) : Nat := σ.idxOf i
def edgeTo (i : Nat) : Edge := ⟨i, .data⟩
/-- An operation with its orders told anew; 'y' behind 'x', too. -/
def tellOp (σ : List Nat) (x y i : Nat) (o : Oper) : Oper := { o with after := (((aft o).map fun k => edgeTo (posIn σ k)) ++ if i = y then [edgeTo (posIn σ x)] else []).toArray }
/-- The region told anew. -/
def tell (l : List Oper) (σ : List Nat) (x y : Nat) : List Oper := σ.filterMap fun i => (l[i]?).map (tellOp σ x y i)
def permB (n : Nat) (σ : List Nat) : Bool := (σ.length == n) && (List.range n).all (fun i => σ.contains i) && σ.all (fun i => decide (i < n))

theorem aft_tell (σ : List Nat) (x y i : Nat) (o : Oper) : aft (tellOp σ x y i o) = (aft o).map (posIn σ) ++ if i = y then [posIn σ x] else [] := by
  unfold aft tellOp
  simp only [List.map_append, List.filter_append]
  congr 1
  · rw [List.filter_eq_self.2 (by intro e he; simp only [List.mem_map] at he; obtain ⟨k, _, rfl⟩ := he; rfl), List.map_map]
    rfl
  · split
    · rfl
    · rfl

section
variable {l : List Oper} {σ : List Nat} {x y : Nat}

theorem permB_ok {n : Nat} (h : permB n σ = true) : σ.length = n ∧ (∀ i, i < n → i ∈ σ) ∧ ∀ i ∈ σ, i < n := by
  unfold permB at h
  simp only [Bool.and_eq_true, beq_iff_eq, List.all_eq_true, List.mem_range, decide_eq_true_eq] at h
  obtain ⟨⟨h1, h2⟩, h3⟩ := h
  exact ⟨h1, fun i hi => by simpa using h2 i hi, h3⟩
theorem nodup_of_cover : ∀ (n : Nat) (σ : List Nat), σ.length = n → (∀ i, i < n → i ∈ σ) → (∀ i ∈ σ, i < n) → σ.Nodup := by
  intro n σ h1 h2 h3
  have hp : (List.range n).Perm σ := by
    have key : ∀ (τ ρ : List Nat), τ.Nodup → (∀ i ∈ τ, i ∈ ρ) → ρ.length ≤ τ.length → τ.Perm ρ := by
      intro τ
      induction τ with
      | nil => intro ρ _ _ hl; rw [List.length_nil] at hl; have := List.length_eq_zero_iff.1 (by omega : ρ.length = 0); subst this; exact .refl _
      | cons x τ ih =>
        intro ρ hn hs hl
        have hx := hs x (by simp)
        have hpe := List.perm_cons_erase hx
        rw [List.nodup_cons] at hn
        refine (List.Perm.cons x (ih (ρ.erase x) hn.2 (fun i hi => ?_) ?_)).trans hpe.symm
        · have hne : i ≠ x := fun h => hn.1 (h ▸ hi)
          exact (List.mem_erase_of_ne hne).2 (hs i (by simp [hi]))
        · rw [List.length_erase_of_mem hx]
          rw [List.length_cons] at hl
          omega
    exact key _ _ List.nodup_range (fun i hi => h2 i (List.mem_range.1 hi)) (by simp [h1])
  exact hp.nodup_iff.1 List.nodup_range
theorem permB_inj {n : Nat} (h : permB n σ = true) : σ.Nodup := by
  obtain ⟨h1, h2, h3⟩ := permB_ok h
  exact nodup_of_cover n σ h1 h2 h3
theorem tell_get (hp : permB l.length σ = true) {i : Nat} (hi : i < l.length) : ∃ o, l[i]? = some o ∧ posIn σ i < l.length ∧ (tell l σ x y)[posIn σ i]? = some (tellOp σ x y i o) := by
  obtain ⟨h1, h2, h3⟩ := permB_ok hp
  have hm := h2 i hi
  have hlt : σ.idxOf i < σ.length := List.idxOf_lt_length_of_mem hm
  refine ⟨l[i], List.getElem?_eq_getElem hi, by unfold posIn; omega, ?_⟩
  have key : ∀ τ : List Nat, (∀ k ∈ τ, k < l.length) → ∀ q : Nat, (τ.filterMap fun k => (l[k]?).map (tellOp σ x y k))[q]? = (τ[q]?).bind fun k => (l[k]?).map (tellOp σ x y k) := by
    intro τ
    induction τ with
    | nil => intro _ q; simp
    | cons k τ ih =>
      intro hk q
      have hkl := hk k (by simp)
      rw [List.filterMap_cons, List.getElem?_eq_getElem hkl]
      simp only [Option.map_some]
      cases q with
      | zero => simp [List.getElem?_eq_getElem hkl]
      | succ q => rw [List.getElem?_cons_succ, List.getElem?_cons_succ]; exact ih (fun j hj => hk j (by simp [hj])) q
  unfold tell posIn
  rw [key σ h3, List.getElem?_eq_getElem hlt, List.getElem_idxOf]
  simp [List.getElem?_eq_getElem hi]
theorem tell_len (hp : permB l.length σ = true) : (tell l σ x y).length = l.length := by
  obtain ⟨h1, h2, h3⟩ := permB_ok hp
  have key : ∀ τ : List Nat, (∀ k ∈ τ, k < l.length) → (τ.filterMap fun k => (l[k]?).map (tellOp σ x y k)).length = τ.length := by
    intro τ
    induction τ with
    | nil => intro _; rfl
    | cons k τ ih =>
      intro hk
      have hkl := hk k (by simp)
      rw [List.filterMap_cons, List.getElem?_eq_getElem hkl]
      simp only [Option.map_some, List.length_cons]
      rw [ih (fun j hj => hk j (by simp [hj]))]
  unfold tell
  rw [key σ h3, h1]
theorem posIn_inj (hp : permB l.length σ = true) {i j : Nat} (hi : i < l.length) (hj : j < l.length) (h : posIn σ i = posIn σ j) : i = j := by
  obtain ⟨h1, h2, h3⟩ := permB_ok hp
  unfold posIn at h
  have a := List.getElem_idxOf (List.idxOf_lt_length_of_mem (h2 i hi))
  have b := List.getElem_idxOf (List.idxOf_lt_length_of_mem (h2 j hj))
  rw [← a, ← b]
  simp only [h]
theorem posIn_surj (hp : permB l.length σ = true) {k : Nat} (hk : k < l.length) : ∃ i, i < l.length ∧ posIn σ i = k := by
  obtain ⟨h1, h2, h3⟩ := permB_ok hp
  have hkl : k < σ.length := by omega
  refine ⟨σ[k], h3 _ (List.getElem_mem _), ?_⟩
  unfold posIn
  exact List.Nodup.idxOf_getElem (permB_inj hp) k hkl

/-- What is listed here is listed there. -/
def SameL (n : Nat) (σ : List Nat) (L L' : Array Bool) : Prop := L.size = n ∧ L'.size = n ∧ ∀ i, i < n → L'.getD (posIn σ i) false = L.getD i false

theorem getD_lt {L : Array Bool} {i : Nat} (h : i < L.size) : L.getD i true = L.getD i false := by
  rw [Array.getD_eq_getD_getElem?, Array.getD_eq_getD_getElem?, Array.getElem?_eq_getElem h]; rfl
theorem SameL.set (hp : permB l.length σ = true) {L L' : Array Bool} (h : SameL l.length σ L L') {j : Nat} (hj : j < l.length) : SameL l.length σ (L.setIfInBounds j true) (L'.setIfInBounds (posIn σ j) true) := by
  obtain ⟨h1, h2, h3⟩ := h
  obtain ⟨_, _, hpj, _⟩ := tell_get (x := 0) (y := 0) hp hj
  refine ⟨by simp [h1], by simp [h2], fun i hi => ?_⟩
  by_cases e : i = j
  · subst e
    rw [(set_get_true (by omega) _).2 (.inl rfl), (set_get_true (by omega) _).2 (.inl rfl)]
  · rw [getD_set_ne false (fun h => e (posIn_inj hp hj hi h).symm), getD_set_ne false (fun h => e h.symm)]
    exact h3 i hi
/-- Who may go next in the region may go next in the one told anew, where the order more is kept. -/
theorem ready_tell (hp : permB l.length σ = true) (hx : x < l.length) (hback : ∀ (i : Nat) (o : Oper), l[i]? = some o → ∀ k ∈ aft o, k < l.length) {L L' : Array Bool} (h : SameL l.length σ L L') {j : Nat} (hj : j < l.length) :
    posIn σ j ∈ Region.ready .any (tell l σ x y).toArray L' ↔ j ∈ Region.ready .any l.toArray L ∧ (j = y → L.getD x false = true) := by
  obtain ⟨h1, h2, h3⟩ := h
  obtain ⟨o, ho, hpj, ho'⟩ := tell_get (x := x) (y := y) hp hj
  have hlen := tell_len (x := x) (y := y) hp
  have aftR : ∀ (o : Oper) (L : Array Bool), (∀ e ∈ o.after, Region.binds .any e = true → L.getD e.on false = true) ↔ ∀ k ∈ aft o, L.getD k false = true := by
    intro o L
    simp only [aft, List.mem_map, List.mem_filter]
    constructor
    · rintro h k ⟨e, ⟨he, hb⟩, rfl⟩
      exact h e (Array.mem_toList_iff.1 he) hb
    · intro h e he hb
      exact h _ ⟨e, ⟨Array.mem_toList_iff.2 he, hb⟩, rfl⟩
  rw [mem_ready, mem_ready]
  have e1 : (tell l σ x y).toArray[posIn σ j]? = some (tellOp σ x y j o) := by simpa using ho'
  have e2 : l.toArray[j]? = some o := by simpa using ho
  rw [e1, e2, getD_lt (by omega), getD_lt (by omega), h3 j hj]
  simp only [Option.some.injEq, exists_eq_left', aftR, aft_tell]
  constructor
  · rintro ⟨a, b⟩
    refine ⟨⟨a, fun k hk => ?_⟩, fun e => ?_⟩
    · have := b (posIn σ k) (List.mem_append_left _ (List.mem_map_of_mem hk))
      rw [h3 k (hback j o ho k hk)] at this
      exact this
    · have := b (posIn σ x) (List.mem_append_right _ (by rw [if_pos e]; simp))
      rw [h3 x hx] at this
      exact this
  · rintro ⟨⟨a, b⟩, c⟩
    refine ⟨a, fun k hk => ?_⟩
    rcases List.mem_append.1 hk with hk | hk
    · simp only [List.mem_map] at hk
      obtain ⟨k0, hk0, rfl⟩ := hk
      rw [h3 k0 (hback j o ho k0 hk0)]
      exact b k0 hk0
    · split at hk
      · rename_i e
        simp at hk
        subst hk
        rw [h3 x hx]
        exact c e
      · cases hk
theorem wpOp_tell {P : Program} {Q : Exit → Act → World → Prop} (hp : permB l.length σ = true) (hg : ∀ o ∈ l, o.guard = none) {j : Nat} (hj : j < l.length) {K K' : Act → World → Prop} (hK : ∀ a w, K' a w → K a w) {a : Act} {w : World}
    (h : wpOp P (tell l σ x y).toArray Q (posIn σ j) K' a w) : wpOp P l.toArray Q j K a w := by
  obtain ⟨o, ho, hpj, ho'⟩ := tell_get (x := x) (y := y) hp hj
  have e1 : (tell l σ x y).toArray[posIn σ j]? = some (tellOp σ x y j o) := by simpa using ho'
  have e2 : l.toArray[j]? = some o := by simpa using ho
  have hgo := hg o (List.mem_of_getElem? ho)
  have w1 : ∀ f, Region.wanted o f = true := fun f => by unfold Region.wanted; rw [hgo]
  have w2 : ∀ f, Region.wanted (tellOp σ x y j o) f = true := fun f => by unfold Region.wanted tellOp; dsimp only; rw [hgo]
  refine wpOp_mono hK ?_
  unfold wpOp at h ⊢
  simp only [e1, w2, if_true] at h
  simp only [e2, w1, if_true]
  exact h
end

section
variable {l : List Oper} {σ τ : List Nat} {x y : Nat} {P : Program} {Q : Exit → Act → World → Prop}

theorem ready_lt {l : List Oper} {L : Array Bool} {j : Nat} (h : j ∈ Region.ready .any l.toArray L) : j < l.length := by
  obtain ⟨_, o, ho, _⟩ := mem_ready.1 h
  have := (Array.getElem?_eq_some_iff.1 ho).1
  simpa using this
/-- Where the one more order is kept already, the two are the same. -/
theorem any_tell (hp : permB l.length σ = true) (hg : ∀ o ∈ l, o.guard = none) (hx : x < l.length) (hback : ∀ (i : Nat) (o : Oper), l[i]? = some o → ∀ k ∈ aft o, k < l.length) :
    ∀ (fuel : Nat) (L L' : Array Bool) (a : Act) (w : World), SameL l.length σ L L' → L.getD x false = true → wpAny P .any (tell l σ x y).toArray Q fuel L' a w → wpAny P .any l.toArray Q fuel L a w := by
  have nil : ∀ {L L' : Array Bool}, SameL l.length σ L L' → Region.ready .any l.toArray L = [] → Region.ready .any (tell l σ x y).toArray L' = [] := by
    intro L L' hs h
    cases e : Region.ready .any (tell l σ x y).toArray L' with
    | nil => rfl
    | cons k r =>
      have hk : k ∈ Region.ready .any (tell l σ x y).toArray L' := by rw [e]; simp
      have hkl := ready_lt hk
      rw [tell_len hp] at hkl
      obtain ⟨i, hi, rfl⟩ := posIn_surj hp hkl
      have := ((ready_tell hp hx hback hs hi).1 hk).1
      rw [h] at this; cases this
  have nil' : ∀ {L L' : Array Bool}, SameL l.length σ L L' → L.getD x false = true → Region.ready .any (tell l σ x y).toArray L' = [] → Region.ready .any l.toArray L = [] := by
    intro L L' hs hl h
    cases e : Region.ready .any l.toArray L with
    | nil => rfl
    | cons k r =>
      have hk : k ∈ Region.ready .any l.toArray L := by rw [e]; simp
      have := (ready_tell (y := y) hp hx hback hs (ready_lt hk)).2 ⟨hk, fun _ => hl⟩
      rw [h] at this; cases this
  intro fuel
  induction fuel with
  | zero =>
    intro L L' a w hs hl h
    exact ⟨nil' hs hl h.1, h.2⟩
  | succ fuel ih =>
    intro L L' a w hs hl h
    refine ⟨fun hn => h.1 (nil hs hn), fun j hj => ?_⟩
    have hjl := ready_lt hj
    have hj' := (ready_tell (y := y) hp hx hback hs hjl).2 ⟨hj, fun _ => hl⟩
    refine wpOp_tell hp hg hjl (fun a w hh => ih _ _ a w (hs.set hp hjl) ?_ hh) (h.2 _ hj')
    exact (set_get_true (by rw [hs.1]; exact hjl) x).2 (.inr hl)
/-- What the splitting asks of a region: orders go back; no guards; an operation that calls a function stands behind one of the two. -/
def splitB (l : List Oper) (x y : Nat) (bl : List Nat) : Bool :=
  decide (x < l.length) && decide (y < l.length) && (x != y) && (List.range l.length).all fun j => match l[j]? with
    | some o => o.guard.isNone && (aft o).all (fun k => decide (k < l.length)) && (if bl.contains j then (aft o).any (fun k => k == x || k == y || (bl.contains k && decide (k < j))) else (j == x || j == y || isPl o.op))
    | none => false
structure SplitOk (l : List Oper) (x y : Nat) (bl : List Nat) : Prop where
  hx : x < l.length
  hy : y < l.length
  hxy : x ≠ y
  hg : ∀ o ∈ l, o.guard = none
  hback : ∀ (i : Nat) (o : Oper), l[i]? = some o → ∀ k ∈ aft o, k < l.length
  hbl : ∀ (j : Nat) (o : Oper), l[j]? = some o → j ∈ bl → ∃ k ∈ aft o, k = x ∨ k = y ∨ (k ∈ bl ∧ k < j)
  hpl : ∀ (j : Nat) (o : Oper), l[j]? = some o → j ∉ bl → j = x ∨ j = y ∨ isPl o.op = true
theorem splitB_ok {bl : List Nat} (h : splitB l x y bl = true) : SplitOk l x y bl := by
  unfold splitB at h
  simp only [Bool.and_eq_true, decide_eq_true_eq, bne_iff_ne, ne_eq, List.all_eq_true, List.mem_range] at h
  obtain ⟨⟨⟨h1, h2⟩, h3⟩, h4⟩ := h
  have each : ∀ (j : Nat) (o : Oper), l[j]? = some o → (o.guard.isNone && (aft o).all (fun k => decide (k < l.length)) && (if bl.contains j then (aft o).any (fun k => k == x || k == y || (bl.contains k && decide (k < j))) else (j == x || j == y || isPl o.op))) = true := fun j o hj => by
    have := h4 j (List.getElem?_eq_some_iff.1 hj).1
    rw [hj] at this
    exact this
  refine ⟨h1, h2, h3, fun o ho => ?_, fun i o hi k hk => ?_, fun j o hj hb => ?_, fun j o hj hb => ?_⟩
  · obtain ⟨j, hj⟩ := List.getElem?_of_mem ho
    have := each j o hj
    simp only [Bool.and_eq_true, Option.isNone_iff_eq_none] at this
    exact this.1.1
  · have := each i o hi
    simp only [Bool.and_eq_true, List.all_eq_true, decide_eq_true_eq] at this
    exact this.1.2 k hk
  · have := each j o hj
    rw [if_pos (by simpa using hb)] at this
    simp only [Bool.and_eq_true, List.any_eq_true, Bool.or_eq_true, beq_iff_eq, decide_eq_true_eq] at this
    obtain ⟨_, k, hk, hc⟩ := this
    refine ⟨k, hk, ?_⟩
    rcases hc with (hc | hc) | hc
    · exact .inl hc
    · exact .inr (.inl hc)
    · exact .inr (.inr ⟨by simpa using hc.1, hc.2⟩)
  · have := each j o hj
    rw [if_neg (by simpa using hb)] at this
    simp only [Bool.and_eq_true, Bool.or_eq_true, beq_iff_eq] at this
    rcases this.2 with (hc | hc) | hc
    · exact .inl hc
    · exact .inr (.inl hc)
    · exact .inr (.inr hc)
/-- Of two operations the one goes first, or the other. -/
theorem any_split {bl : List Nat} (hs : SplitOk l x y bl) (hp : permB l.length σ = true) (hq : permB l.length τ = true) :
    ∀ (fuel : Nat) (L L1 L2 : Array Bool) (a : Act) (w : World), SameL l.length σ L L1 → SameL l.length τ L L2 → L.getD x false = false → L.getD y false = false →
      (∀ (j : Nat) (o : Oper), l[j]? = some o → L.getD j false = true → ∀ k ∈ aft o, L.getD k false = true) →
      wpAny P .any (tell l σ x y).toArray Q fuel L1 a w → wpAny P .any (tell l τ y x).toArray Q fuel L2 a w → wpAny P .any l.toArray Q fuel L a w := by
  obtain ⟨hx, hy, hxy, hg, hback, hbl, hpl⟩ := hs
  intro fuel
  induction fuel with
  | zero =>
    intro L L1 L2 a w h1 h2 hlx hly hdc g1 g2
    refine ⟨?_, g1.2⟩
    cases e : Region.ready .any l.toArray L with
    | nil => rfl
    | cons k r =>
      have hk : k ∈ Region.ready .any l.toArray L := by rw [e]; simp
      by_cases hky : k = y
      · have := (ready_tell (y := x) hq hy hback h2 (ready_lt hk)).2 ⟨hk, fun e => (hxy (e.symm.trans hky)).elim⟩
        rw [g2.1] at this; cases this
      · have := (ready_tell (y := y) hp hx hback h1 (ready_lt hk)).2 ⟨hk, fun e => (hky e).elim⟩
        rw [g1.1] at this; cases this
  | succ fuel ih =>
    intro L L1 L2 a w h1 h2 hlx hly hdc g1 g2
    -- what stands behind one of the two is not done
    have hno : ∀ j, j ∈ bl → j < l.length → L.getD j false = false := by
      intro j
      induction j using Nat.strongRecOn with
      | _ j ihj =>
        intro hb hjl
        cases e : L.getD j false with
        | false => rfl
        | true =>
          obtain ⟨k, hk, hc⟩ := hbl j _ (List.getElem?_eq_getElem hjl) hb
          have hkt := hdc j _ (List.getElem?_eq_getElem hjl) e k hk
          rcases hc with rfl | rfl | ⟨hkb, hkj⟩
          · rw [hlx] at hkt; cases hkt
          · rw [hly] at hkt; cases hkt
          · rw [ihj k hkj hkb (by omega)] at hkt; cases hkt
    refine ⟨fun hn => g1.1 ?_, fun j hj => ?_⟩
    · cases e : Region.ready .any (tell l σ x y).toArray L1 with
      | nil => rfl
      | cons k r =>
        have hk : k ∈ Region.ready .any (tell l σ x y).toArray L1 := by rw [e]; simp
        have hkl := ready_lt hk
        rw [tell_len hp] at hkl
        obtain ⟨i, hi, rfl⟩ := posIn_surj hp hkl
        have := ((ready_tell hp hx hback h1 hi).1 hk).1
        rw [hn] at this; cases this
    · have hjl := ready_lt hj
      by_cases hjx : j = x
      · subst hjx
        have hj' := (ready_tell (y := y) hp hx hback h1 hjl).2 ⟨hj, fun e => (hxy e).elim⟩
        refine wpOp_tell hp hg hjl (fun a w hh => any_tell hp hg hx hback fuel _ _ a w (h1.set hp hjl) ?_ hh) (g1.2 _ hj')
        exact (set_get_true (by rw [h1.1]; exact hjl) j).2 (.inl rfl)
      · by_cases hjy : j = y
        · subst hjy
          have hj' := (ready_tell (y := x) hq hy hback h2 hjl).2 ⟨hj, fun e => (hxy e.symm).elim⟩
          refine wpOp_tell hq hg hjl (fun a w hh => any_tell hq hg hy hback fuel _ _ a w (h2.set hq hjl) ?_ hh) (g2.2 _ hj')
          exact (set_get_true (by rw [h1.1]; exact hjl) j).2 (.inl rfl)
        · have hj1 := (ready_tell (y := y) hp hx hback h1 hjl).2 ⟨hj, fun e => (hjy e).elim⟩
          have hj2 := (ready_tell (y := x) hq hy hback h2 hjl).2 ⟨hj, fun e => (hjx e).elim⟩
          have k1 := wpOp_tell (x := x) (y := y) (K := fun a w => wpAny P .any (tell l σ x y).toArray Q fuel (L1.setIfInBounds (posIn σ j) true) a w) hp hg hjl (fun a w h => h) (g1.2 _ hj1)
          have k2 := wpOp_tell (x := y) (y := x) (K := fun a w => wpAny P .any (tell l τ y x).toArray Q fuel (L2.setIfInBounds (posIn τ j) true) a w) hq hg hjl (fun a w h => h) (g2.2 _ hj2)
          have ho : l[j]? = some l[j] := List.getElem?_eq_getElem hjl
          -- the next operation calls no function
          have hjb : j ∉ bl := fun hb => by
            obtain ⟨k, hk, hc⟩ := hbl j _ ho hb
            obtain ⟨_, o, ho', hrd⟩ := mem_ready.1 hj
            have e2 : l.toArray[j]? = some l[j] := by simp
            rw [e2] at ho'
            cases ho'
            have hkt : L.getD k false = true := by
              simp only [aft, List.mem_map, List.mem_filter] at hk
              obtain ⟨e, ⟨he, hb⟩, rfl⟩ := hk
              exact hrd e (Array.mem_toList_iff.1 he) hb
            rcases hc with rfl | rfl | ⟨hkb, hkj⟩
            · rw [hlx] at hkt; cases hkt
            · rw [hly] at hkt; cases hkt
            · rw [hno k hkb (by omega)] at hkt; cases hkt
          have hpo : isPl l[j].op = true := by
            rcases hpl j _ ho hjb with h | h | h
            · exact (hjx h).elim
            · exact (hjy h).elim
            · exact h
          have hgo := hg l[j] (List.getElem_mem _)
          have e2 : l.toArray[j]? = some l[j] := by simp
          have w1 : ∀ f, Region.wanted l[j] f = true := fun f => by unfold Region.wanted; rw [hgo]
          have both : wpOp P l.toArray Q j (fun a w => wpAny P .any (tell l σ x y).toArray Q fuel (L1.setIfInBounds (posIn σ j) true) a w ∧ wpAny P .any (tell l τ y x).toArray Q fuel (L2.setIfInBounds (posIn τ j) true) a w) a w := by
            unfold wpOp at k1 k2 ⊢
            simp only [e2, w1, if_true] at k1 k2 ⊢
            rcases k1 with k1 | k1
            · rcases k2 with k2 | k2
              · exact .inl (wp_both hpo k1 k2)
              · exact .inr k2
            · exact .inr k1
          refine wpOp_mono (fun a w hh => ih _ _ _ a w (h1.set hp hjl) (h2.set hq hjl) ?_ ?_ ?_ hh.1 hh.2) both
          · rw [getD_set_ne false (fun h => hjx h)]; exact hlx
          · rw [getD_set_ne false (fun h => hjy h)]; exact hly
          · intro i o hi hl k hk
            rw [set_get_true (by rw [h1.1]; exact hjl)] at hl ⊢
            rcases hl with rfl | hl
            · right
              obtain ⟨_, o', ho', hrd⟩ := mem_ready.1 hj
              have e3 : l.toArray[i]? = some o := by simpa using hi
              rw [e3] at ho'
              cases ho'
              simp only [aft, List.mem_map, List.mem_filter] at hk
              obtain ⟨e, ⟨he, hb⟩, rfl⟩ := hk
              exact hrd e (Array.mem_toList_iff.1 he) hb
            · exact .inr (hdc i o hi hl k hk)
end

/-- Any order of a region's operations leads there. -/
def WA (kp : Nat) (P : Program) (N : Nat) (l : List Oper) (Q : Exit → AS → Prop) (S : AS) : Prop :=
  ∀ (c : Ctx), c.k = kp → ∀ (m : Mem) (w : World) (a : Act), Inv c m w S.H → RelS m N a S.s → wpAny P .any l.toArray (APost c N Q) l.length (Array.replicate l.length false) a w
theorem AWP.any {kp N id : Nat} {P : Program} {l : List Oper} {Q : Exit → AS → Prop} {S : AS} (hmix : P.follows .mixedOrders = true) (h : WA kp P N l Q S) : AWP kp P N (.region id l.toArray true) Q S := by
  intro c hc m w a hi hs
  refine wp_region_any hmix ?_
  have := h c hc m _ a hi.drawn hs
  simpa using this
theorem WA.split {kp N : Nat} {P : Program} {l : List Oper} {Q : Exit → AS → Prop} {S : AS} (x y : Nat) (bl σ τ : List Nat) (hs : splitB l x y bl = true) (hp : permB l.length σ = true) (hq : permB l.length τ = true) (h1 : WA kp P N (tell l σ x y) Q S) (h2 : WA kp P N (tell l τ y x) Q S) : WA kp P N l Q S := by
  intro c hc m w a hi hr
  have k1 := h1 c hc m w a hi hr
  have k2 := h2 c hc m w a hi hr
  rw [tell_len hp] at k1
  rw [tell_len hq] at k2
  have hso := splitB_ok hs
  have hf : ∀ k, (Array.replicate l.length false).getD k false = false := by
    intro k
    rw [Array.getD_eq_getD_getElem?, Array.getElem?_replicate]
    split <;> rfl
  exact any_split hso hp hq _ _ _ _ a w ⟨by simp, by simp, fun i _ => by rw [hf, hf]⟩ ⟨by simp, by simp, fun i _ => by rw [hf, hf]⟩ (hf _) (hf _) (fun j o _ hl => by rw [hf] at hl; cases hl) k1 k2

section
variable {P : Program} {E : Env} {q : List TypeId} {gl : GCalls} {N : Nat} {ops : List Oper} {fs : List Info} {s0 sN : Slots} {H0 HN : List Blk}
theorem WA.draw {kp : Nat} (hX : XOk P E q) (hcl : GClOk P gl) (keep : List Nat) {l : List Oper} (fs : List Info) (hdep : dOk2 l fs = true) {Q : Exit → AS → Prop} {S S' : AS}
    (h : drunP E q gl N keep l fs S = some S') (hQ : Q .normal S') : WA kp P N l Q S := by
  unfold drunP at h
  split at h
  case h_2 => cases h
  rename_i S1 hq
  cases h
  have hd := dOk2_ok hdep
  obtain ⟨T⟩ := dt_of hd.len (sN := S1.s) (HN := S1.H) hq
  intro c hc m w a hi hs
  have hcount : countF (Array.replicate l.length false) = l.length := by simp [countF]
  have hfalse : ∀ k, (Array.replicate l.length false).getD k false = false := by
    intro k
    rw [Array.getD_eq_getD_getElem?, Array.getElem?_replicate]
    split <;> rfl
  obtain ⟨τ, t1, t2, t3, t4⟩ := next_turn fs l.length 0 (by omega)
  have hstill : ∀ k g, 0 ≤ k → k < τ → fs[k]? = some g → g.cls ≤ 1 := fun k g h1 h2 h3 => by
    have := hd.top k g h3; have := t3 k g h1 h2 h3; omega
  obtain ⟨R, hR⟩ := T.prefix_ hd 0 τ t2 t1 hstill
  have h00 : T.hp 0 = S.H := T.zero.2
  rw [h00] at hR
  obtain ⟨m2, e2, i2⟩ := hi.pad R.length
  have hck : c.k ≤ S.H.length := by
    rcases Nat.eq_zero_or_pos c.k with h0 | h0
    · omega
    · have := (hi.keep (c.k - 1) (by omega)).1; rw [hi.len] at this; omega
  refine d_order hX hcl hck T hd (fun t k hk => ?_) (fun m' w' a' h1 h2 => ⟨m', ⟨prune keep S1.s, S1.H⟩, h1, h2.prune keep, hQ⟩) _ _ a _ m2 0 τ _ (by simp) hcount ?_ i2 ?_ hs.1 hs.2.1 ?_ ?_
  · have := (hs.2.2 t).idxs_lt k hk
    rw [hi.len] at this; exact this
  · intro j o hj hl i _
    rw [hfalse] at hl; cases hl
  · refine ⟨t1, t2, fun k g _ _ hk => by omega, fun k g _ _ _ => hfalse k, hstill, t4, by rw [hR]; simp, fun i hi' => ?_, fun k i hk1 hk2 hi1 hi2 => ?_, fun i B hi' hB k hk => ?_⟩
    · rw [h00] at hi'
      rw [hR, List.getElem?_append_left hi', List.getElem?_append_left hi']
    · have g1 := T.mono hd 0 k (by omega) (by omega)
      have g2 := T.mono hd (k + 1) τ (by omega) t2
      rw [h00] at g1
      have g3 : (T.hp τ).length = S.H.length + R.length := by rw [hR]; simp
      rw [if_neg (by rw [hfalse]; simp), List.getElem?_append_right (by omega), List.getElem?_replicate, if_pos (by omega)]
    · rw [h00] at hB ⊢
      have := hi.blk_lt hB k hk
      rw [hi.len] at this; exact this
  · intro i o d hj hl _
    rw [hfalse] at hl; cases hl
  · intro t _
    exact (hs.2.2 t).mono e2
end

end Go.Fw

end
