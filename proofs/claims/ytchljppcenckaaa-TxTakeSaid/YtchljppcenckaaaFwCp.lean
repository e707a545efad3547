/- The abstract machine, and the contracts of the code: part 47. -/
import Derived.RangeFuncOwn
import Derived.TacticsIn
import Derived.Test.YtchljppcenckaaaFwT

section
/- Numbers, sizes, strings and lists as bytes: plain laws. -/
namespace Go.Fw
open Go
set_option linter.unusedVariables false
set_option linter.unusedSimpArgs false

/-- A number, shifted right by so many bytes. -/
def shrB : Nat → Int → Int
  | 0, x => x
  | k + 1, x => (shrB k x).fdiv 256

/-- The lowest so many bytes of a number. -/
def le : Nat → Int → List UInt8
  | 0, _ => []
  | k + 1, x => le k x ++ [UInt8.ofNat (IntKind.u8.wrap (shrB k x)).toNat]

theorem le_len (k : Nat) (x : Int) : (le k x).length = k := by
  induction k with
  | zero => rfl
  | succ k ih => simp [le, ih]

theorem shrB_range (k : Nat) (x : Int) (h0 : 0 ≤ x) (h1 : x ≤ 18446744073709551615) : 0 ≤ shrB k x ∧ shrB k x ≤ 18446744073709551615 := by
  induction k with
  | zero => exact ⟨h0, h1⟩
  | succ k ih =>
    simp only [shrB]
    rw [Int.fdiv_eq_ediv_of_nonneg _ (by omega)]
    omega

theorem inK_u8 {n : Int} (h : inK .u8 n) : 0 ≤ n ∧ n ≤ 255 := by simpa [inK, IntKind.min, IntKind.max, IntKind.signed, IntKind.bits] using h

theorem inK_u16 {n : Int} (h : inK .u16 n) : 0 ≤ n ∧ n ≤ 65535 := by simpa [inK, IntKind.min, IntKind.max, IntKind.signed, IntKind.bits] using h

theorem inK_u32 {n : Int} (h : inK .u32 n) : 0 ≤ n ∧ n ≤ 4294967295 := by simpa [inK, IntKind.min, IntKind.max, IntKind.signed, IntKind.bits] using h

theorem inK_u64 {n : Int} (h : inK .u64 n) : 0 ≤ n ∧ n ≤ 18446744073709551615 := by simpa [inK, IntKind.min, IntKind.max, IntKind.signed, IntKind.bits] using h

theorem inK_i64 {n : Int} (h : inK .i64 n) : -9223372036854775808 ≤ n ∧ n ≤ 9223372036854775807 := by simpa [inK, IntKind.min, IntKind.max, IntKind.signed, IntKind.bits] using h

theorem wrap_u8 {n : Int} (h1 : 0 ≤ n) (h2 : n ≤ 255) : IntKind.u8.wrap n = n := by simp only [IntKind.wrap, IntKind.signed, IntKind.bits]; simp; omega

theorem wrap_u16 {n : Int} (h1 : 0 ≤ n) (h2 : n ≤ 65535) : IntKind.u16.wrap n = n := by simp only [IntKind.wrap, IntKind.signed, IntKind.bits]; simp; omega

theorem wrap_u32 {n : Int} (h1 : 0 ≤ n) (h2 : n ≤ 4294967295) : IntKind.u32.wrap n = n := by simp only [IntKind.wrap, IntKind.signed, IntKind.bits]; simp; omega

/-- A size, as bytes. -/
def sizeB (n : Int) : List UInt8 :=
  if n < 253 then le 1 n else if n < 65536 then le 1 253 ++ le 2 n else if n < 4294967296 then le 1 254 ++ le 4 n else le 1 255 ++ le 8 n

theorem sizeB_len (n : Int) : (sizeB n).length ≤ 9 := by
  unfold sizeB
  split
  · simp [le_len]
  · split
    · simp [le_len]
    · split <;> simp [le_len]

/-- The strings of a list, each behind its size. -/
def flat : List (List UInt8) → List UInt8
  | [] => []
  | x :: l => sizeB x.length ++ x ++ flat l

theorem flat_snoc (l : List (List UInt8)) (x : List UInt8) : flat (l ++ [x]) = flat l ++ (sizeB x.length ++ x) := by
  induction l with
  | nil => simp [flat]
  | cons y l ih => simp [flat, ih]

def strs (l : List (List UInt8)) : T := .sq 1 (l.map .by)

def asBys : List T → Option (List (List UInt8))
  | [] => some []
  | .by l :: r => match asBys r with
    | some ls => some (l :: ls)
    | none => none
  | _ => none

theorem asBys_map (l : List (List UInt8)) : asBys (l.map .by) = some l := by
  induction l with
  | nil => rfl
  | cons x l ih => simp [asBys, ih]

theorem asBys_inv {xs : List T} {l : List (List UInt8)} (h : asBys xs = some l) : xs = l.map .by := by
  induction xs generalizing l with
  | nil => cases h; rfl
  | cons x xs ih =>
    unfold asBys at h
    split at h
    · rename_i heq; cases heq
    · rename_i y r heq
      cases heq
      split at h
      · rename_i ls hls; cases h; simp [ih hls]
      · cases h
    · cases h

theorem flat_take_len (l : List (List UInt8)) (k : Nat) : (flat (l.take k)).length ≤ (flat l).length := by
  induction l generalizing k with
  | nil => simp [flat]
  | cons x l ih =>
    cases k with
    | zero => simp [flat]
    | succ k => simp only [List.take_succ_cons, flat, List.length_append]; have := ih k; omega

theorem take_getD (l : List (List UInt8)) (k : Nat) (h : k < l.length) : l.take (k + 1) = l.take k ++ [l.getD k []] := by
  rw [List.take_succ_eq_append_getElem h]; simp [h]

theorem flat_take (l : List (List UInt8)) (k : Nat) (h : k < l.length) : flat (l.take (k + 1)) = flat (l.take k) ++ (sizeB (l.getD k []).length ++ l.getD k []) := by
  rw [take_getD l k h, flat_snoc]

theorem map_getD (l : List (List UInt8)) (k : Nat) (h : k < l.length) : (l.map T.by).getD k default = .by (l.getD k []) := by simp [h]

theorem flat_get_len (l : List (List UInt8)) (k : Nat) (h : k < l.length) : (flat (l.take k)).length + (l.getD k []).length ≤ (flat l).length := by
  have h1 := flat_take_len l (k + 1)
  rw [flat_take l k h] at h1
  simp only [List.length_append] at h1
  omega

theorem len_le_flat (l : List (List UInt8)) : l.length ≤ (flat l).length := by
  induction l with
  | nil => simp
  | cons x l ih =>
    have : 1 ≤ (sizeB x.length).length := by
      unfold sizeB
      split
      · simp [le_len]
      · split
        · simp [le_len]
        · split <;> simp [le_len]
    simp only [List.length_cons, flat, List.length_append]; omega

theorem tdiv_256 {n : Int} (h : 0 ≤ n) : n.tdiv 256 = n.fdiv 256 := by
  rw [Int.tdiv_eq_ediv_of_nonneg h, Int.fdiv_eq_ediv_of_nonneg _ (by omega)]

/-- How a cut ends, what it takes, what it leaves. -/
def spE (b : List UInt8) (n : Int) : Int := if n < 0 then 1 else if (b.length : Int) < n then 2 else 0

def spA (b : List UInt8) (n : Int) : List UInt8 := if n < 0 then [] else if (b.length : Int) < n then [] else b.take n.toNat

def spB (b : List UInt8) (n : Int) : List UInt8 := if n < 0 then [] else if (b.length : Int) < n then [] else b.drop n.toNat

theorem spA_len (b : List UInt8) (n : Int) : (spA b n).length ≤ b.length := by unfold spA; split <;> (try split) <;> simp <;> omega

theorem spB_len (b : List UInt8) (n : Int) : (spB b n).length ≤ b.length := by unfold spB; split <;> (try split) <;> simp

theorem spA_le (b : List UInt8) (n : Int) (m : Nat) (h : n ≤ m) : (spA b n).length ≤ m := by unfold spA; split <;> (try split) <;> simp <;> omega

/-- The number that bytes stand for, the lowest first. -/
def num : List UInt8 → Nat
  | [] => 0
  | c :: l => c.toNat + 256 * num l

theorem num_lt (l : List UInt8) : num l < 256 ^ l.length := by
  induction l with
  | nil => simp [num]
  | cons c l ih =>
    have hc : c.toNat < 256 := c.toNat_lt
    simp only [num, List.length_cons, Nat.pow_succ]
    omega

theorem num_lt8 (l : List UInt8) (h : l.length ≤ 8) : num l ≤ 18446744073709551615 := by
  have h1 := num_lt l
  have h2 : 256 ^ l.length ≤ 256 ^ 8 := Nat.pow_le_pow_right (by omega) h
  have h3 : (256 : Nat) ^ 8 = 18446744073709551616 := by decide
  omega

theorem num_snoc (l : List UInt8) (c : UInt8) : num (l ++ [c]) = num l + c.toNat * 256 ^ l.length := by
  induction l with
  | nil => simp [num]
  | cons d l ih => simp only [List.cons_append, num, ih, List.length_cons, Nat.pow_succ, Nat.mul_add]; rw [Nat.mul_left_comm, Nat.mul_comm 256 (256 ^ l.length)]; omega

theorem num_drop (l : List UInt8) (k : Nat) (h : k < l.length) : num (l.drop k) = (l.getD k 0).toNat + 256 * num (l.drop (k + 1)) := by
  rw [List.drop_eq_getElem_cons h]; simp [num, h]

theorem num_take (l : List UInt8) (k : Nat) (h : k < l.length) : num (l.take (k + 1)) = num (l.take k) + (l.getD k 0).toNat * 256 ^ k := by
  rw [List.take_succ_eq_append_getElem h, num_snoc]; simp [h]; rw [Nat.min_eq_left (by omega)]

theorem pow256 (k : Nat) : (256 : Nat) ^ k = 2 ^ (8 * k) := by rw [Nat.pow_mul]

theorem or_step (a c k : Nat) (ha : a < 256 ^ k) (hs : a + c * 256 ^ k < 18446744073709551616) : arith .or .u64 (a : Int) ((c * 256 ^ k : Nat) : Int) = some (.int .u64 ((a + c * 256 ^ k : Nat) : Int)) := by
  simp only [arith, abits, IntKind.bits]
  have h1 : ((a : Int) % 2 ^ 64).toNat = a := by omega
  have h2 : (((c * 256 ^ k : Nat) : Int) % 2 ^ 64).toNat = c * 256 ^ k := by omega
  rw [h1, h2]
  have h3 : a ||| c * 256 ^ k = a + c * 256 ^ k := by
    have := Nat.two_pow_add_eq_or_of_lt (i := 8 * k) (b := a) (by rw [← pow256]; exact ha) c
    rw [Nat.or_comm, pow256, Nat.mul_comm c, ← this]; omega
  rw [h3, wrap_u64 (by omega) (by omega)]

theorem shl_step (c k : Nat) (hk : k ≤ 8) (hs : c * 256 ^ k < 18446744073709551616) : arith .shl .u64 (c : Int) ((8 * k : Nat) : Int) = some (.int .u64 ((c * 256 ^ k : Nat) : Int)) := by
  simp only [arith, IntKind.bits]
  rw [if_neg (by omega)]
  have h1 : min ((8 * k : Nat) : Int).toNat 64 = 8 * k := by omega
  have h2 : (c : Int) * 2 ^ (8 * k) = ((c * 256 ^ k : Nat) : Int) := by rw [pow256]; push_cast; rfl
  rw [h1, h2, wrap_u64 (by omega) (by omega)]

theorem mul_step (k : Nat) (hk : k ≤ 8) : arith .mul .i64 8 (k : Int) = some (.int .i64 ((8 * k : Nat) : Int)) := by
  simp only [arith]
  rw [wrap_i64 (by omega) (by omega)]; push_cast; rfl

theorem num_lt4 (l : List UInt8) (h : l.length ≤ 4) : num l ≤ 4294967295 := by
  have h1 := num_lt l
  have h2 : 256 ^ l.length ≤ 256 ^ 4 := Nat.pow_le_pow_right (by omega) h
  have h3 : (256 : Nat) ^ 4 = 4294967296 := by decide
  omega

/-- A long number: what it is, what is left, how it ended. -/
def rdR (b : List UInt8) (long : Int) (least : Nat) : Nat × List UInt8 × Int :=
  if spE b long ≠ 0 then (0, [], spE b long) else if num (spA b long) < least then (0, [], 3) else (num (spA b long), spB b long, 0)

/-- A size. -/
def sz (b : List UInt8) : Nat × List UInt8 × Int :=
  if spE b 1 ≠ 0 then (0, [], spE b 1) else if num (spA b 1) = 253 then rdR (spB b 1) 2 253 else if num (spA b 1) = 254 then rdR (spB b 1) 4 65536
  else if num (spA b 1) = 255 then rdR (spB b 1) 8 4294967296 else (num (spA b 1), spB b 1, 0)

theorem sp_bad {b : List UInt8} {n : Int} (h : spE b n ≠ 0) : spA b n = [] ∧ spB b n = [] := by
  unfold spE at h; unfold spA spB
  split
  · exact ⟨rfl, rfl⟩
  · split
    · exact ⟨rfl, rfl⟩
    · rename_i h1 h2; rw [if_neg h1, if_neg h2] at h; exact absurd rfl h

theorem num_lt1 (l : List UInt8) (h : l.length ≤ 1) : num l ≤ 255 := by
  have h1 := num_lt l
  have h2 : 256 ^ l.length ≤ 256 ^ 1 := Nat.pow_le_pow_right (by omega) h
  have h3 : (256 : Nat) ^ 1 = 256 := by decide
  omega

theorem rdR_len (b : List UInt8) (n : Int) (k : Nat) : (rdR b n k).2.1.length ≤ b.length := by
  have := spB_len b n
  unfold rdR; split
  · simp
  · split <;> simp <;> omega

theorem rdR_lt (b : List UInt8) (n : Int) (k : Nat) (hn : n ≤ 8) : (rdR b n k).1 ≤ 18446744073709551615 := by
  have := num_lt8 (spA b n) (spA_le b n 8 hn)
  unfold rdR; split
  · simp
  · split <;> simp <;> omega

theorem sz_len (b : List UInt8) : (sz b).2.1.length ≤ b.length := by
  have := spB_len b 1
  have h1 := rdR_len (spB b 1) 2 253
  have h2 := rdR_len (spB b 1) 4 65536
  have h3 := rdR_len (spB b 1) 8 4294967296
  unfold sz; repeat' split
  all_goals first | (simp; done) | omega | (simp only; omega)

theorem sz_lt (b : List UInt8) : (sz b).1 ≤ 18446744073709551615 := by
  have h0 := num_lt1 (spA b 1) (spA_le b 1 1 (by omega))
  have h1 := rdR_lt (spB b 1) 2 253 (by omega)
  have h2 := rdR_lt (spB b 1) 4 65536 (by omega)
  have h3 := rdR_lt (spB b 1) 8 4294967296 (by omega)
  unfold sz; repeat' split
  all_goals first | (simp; done) | omega | (simp only; omega)

/-- A bounded size. -/
def bnd (b : List UInt8) (most : Int) : Nat × List UInt8 × Int :=
  if (sz b).2.2 ≠ 0 then (0, [], (sz b).2.2) else if most < 0 ∨ most < ((sz b).1 : Int) then (0, [], 4) else ((sz b).1, (sz b).2.1, 0)

/-- Bounded bytes. -/
def lim (b : List UInt8) (most : Int) : List UInt8 × List UInt8 × Int :=
  if (bnd b most).2.2 ≠ 0 then ([], [], (bnd b most).2.2)
  else (spA (bnd b most).2.1 (bnd b most).1, spB (bnd b most).2.1 (bnd b most).1, spE (bnd b most).2.1 (bnd b most).1)

theorem bnd_len (b : List UInt8) (most : Int) : (bnd b most).2.1.length ≤ b.length := by
  have := sz_len b
  unfold bnd; repeat' split
  all_goals first | (simp; done) | omega | (simp only; omega)

theorem bnd_lt (b : List UInt8) (most : Int) (h : most ≤ 9223372036854775807) : ((bnd b most).1 : Int) ≤ 9223372036854775807 := by
  unfold bnd; split
  · simp
  · split
    · simp
    · rename_i hn; simp only; omega

theorem lim_len (b : List UInt8) (most : Int) : (lim b most).1.length ≤ b.length ∧ (lim b most).2.1.length ≤ b.length := by
  have h0 := bnd_len b most
  have h1 := spA_len (bnd b most).2.1 (bnd b most).1
  have h2 := spB_len (bnd b most).2.1 (bnd b most).1
  unfold lim; split
  · simp
  · simp only; omega

theorem wf_rows {l : List (List UInt8)} (h : (T.sq 1 (l.map .by)).wf) : l.length ≤ maxLen := by
  simp only [T.wf] at h; simpa using h.2.1

def smallB (l : List (List UInt8)) : Bool := decide (l.length ≤ 40) && l.all fun x => decide (x.length ≤ 300)

theorem flat_small (l : List (List UInt8)) (h : smallB l = true) : (flat l).length ≤ 40 * 309 := by
  simp only [smallB, Bool.and_eq_true, decide_eq_true_eq, List.all_eq_true] at h
  obtain ⟨h1, h2⟩ := h
  have : ∀ l : List (List UInt8), (∀ x ∈ l, x.length ≤ 300) → (flat l).length ≤ l.length * 309 := by
    intro l
    induction l with
    | nil => simp [flat]
    | cons x l ih =>
      intro h
      have a := h x (by simp)
      have b := ih (fun y hy => h y (by simp [hy]))
      have c := sizeB_len (x.length : Int)
      simp only [flat, List.length_append, List.length_cons]
      omega
  exact Nat.le_trans (this l h2) (Nat.mul_le_mul_right 309 h1)

/-- So many strings, taken one after the other. -/
def tkF (most : Int) : Nat → List (List UInt8) → List UInt8 → List (List UInt8) × List UInt8 × Int
  | 0, acc, b => (acc, b, 0)
  | n + 1, acc, b => if (lim b most).2.2 ≠ 0 then ([], [], (lim b most).2.2) else tkF most n (acc ++ [(lim b most).1]) (lim b most).2.1

/-- A list, taken. -/
def lst (b : List UInt8) (many most : Int) : List (List UInt8) × List UInt8 × Int :=
  if (bnd b many).2.2 ≠ 0 then ([], [], (bnd b many).2.2) else tkF most (bnd b many).1 [] (bnd b many).2.1

theorem rdR_eat {b : List UInt8} {n : Int} {k : Nat} (h : (rdR b n k).2.2 = 0) : (rdR b n k).2.1.length ≤ b.length := rdR_len b n k

theorem sp1_eat {b : List UInt8} (h : spE b 1 = 0) : (spB b 1).length + 1 ≤ b.length := by
  unfold spE at h
  rw [if_neg (by omega)] at h
  split at h
  · cases h
  · rename_i hn
    unfold spB
    rw [if_neg (by omega), if_neg hn]
    simp; omega

theorem sz_eat {b : List UInt8} (h : (sz b).2.2 = 0) : (sz b).2.1.length + 1 ≤ b.length := by
  have h1 := rdR_len (spB b 1) 2 253
  have h2 := rdR_len (spB b 1) 4 65536
  have h3 := rdR_len (spB b 1) 8 4294967296
  unfold sz at h ⊢
  split at h
  · rename_i hn; exact absurd h hn
  · rename_i hn
    rw [if_neg hn]
    have h0 := sp1_eat (b := b) (by simpa using hn)
    repeat' split
    all_goals first | omega | (simp only; omega)

theorem bnd_eat {b : List UInt8} {most : Int} (h : (bnd b most).2.2 = 0) : (bnd b most).2.1.length + 1 ≤ b.length := by
  unfold bnd at h ⊢
  split at h
  · rename_i hn; exact absurd h hn
  · rename_i hn
    rw [if_neg hn]
    split at h
    · cases h
    · rename_i hn2
      rw [if_neg hn2]
      exact sz_eat (by simpa using hn)

theorem lim_eat {b : List UInt8} {most : Int} (h : (lim b most).2.2 = 0) : (lim b most).2.1.length + 1 ≤ b.length := by
  unfold lim at h ⊢
  split at h
  · rename_i hn; exact absurd h hn
  · rename_i hn
    rw [if_neg hn]
    have h1 := bnd_eat (b := b) (most := most) (by simpa using hn)
    have h2 := spB_len (bnd b most).2.1 (bnd b most).1
    simp only; omega

theorem tkF_succ (most : Int) (n : Nat) (acc : List (List UInt8)) (b : List UInt8) : tkF most (n + 1) acc b = if (lim b most).2.2 ≠ 0 then ([], [], (lim b most).2.2) else tkF most n (acc ++ [(lim b most).1]) (lim b most).2.1 := rfl

theorem map_snoc (acc : List (List UInt8)) (x : List UInt8) : acc.map T.by ++ [T.by x] = (acc ++ [x]).map T.by := by simp

theorem shrB_fdiv (k : Nat) (x : Int) : shrB k (x.fdiv 256) = shrB (k + 1) x := by
  induction k with
  | zero => rfl
  | succ k ih => simp only [shrB] at ih ⊢; rw [ih]

theorem le_cons (k : Nat) (x : Int) : le (k + 1) x = UInt8.ofNat (IntKind.u8.wrap x).toNat :: le k (x.fdiv 256) := by
  induction k generalizing x with
  | zero => rfl
  | succ k ih =>
    have h1 : le (k + 1 + 1) x = le (k + 1) x ++ [UInt8.ofNat (IntKind.u8.wrap (shrB (k + 1) x)).toNat] := rfl
    have h2 : le (k + 1) (x.fdiv 256) = le k (x.fdiv 256) ++ [UInt8.ofNat (IntKind.u8.wrap (shrB k (x.fdiv 256))).toNat] := rfl
    rw [h1, ih, h2, shrB_fdiv]; rfl

theorem byte_of (c : UInt8) (n : Nat) : UInt8.ofNat (IntKind.u8.wrap ((c.toNat + 256 * n : Nat) : Int)).toNat = c := by
  have hc := c.toNat_lt
  have : (IntKind.u8.wrap ((c.toNat + 256 * n : Nat) : Int)).toNat = c.toNat := by
    simp only [IntKind.wrap, IntKind.signed, IntKind.bits]; simp; omega
  rw [this]; simp

theorem le_num (l : List UInt8) : le l.length (num l : Nat) = l := by
  induction l with
  | nil => rfl
  | cons c l ih =>
    have hc := c.toNat_lt
    rw [List.length_cons, le_cons]
    have h2 : ((num (c :: l) : Nat) : Int).fdiv 256 = (num l : Nat) := by
      rw [Int.fdiv_eq_ediv_of_nonneg _ (by omega)]; simp only [num]; omega
    rw [h2, ih]
    congr 1
    exact byte_of c (num l)

theorem num_le (k : Nat) (x : Int) (h0 : 0 ≤ x) (h1 : x < ((256 ^ k : Nat) : Int)) : (num (le k x) : Int) = x := by
  induction k generalizing x with
  | zero => simp [le, num] at *; omega
  | succ k ih =>
    rw [le_cons]
    have hd : x.fdiv 256 = x / 256 := Int.fdiv_eq_ediv_of_nonneg _ (by omega)
    have hp : (256 ^ (k + 1) : Nat) = 256 * 256 ^ k := by rw [Nat.pow_succ, Nat.mul_comm]
    rw [hp] at h1
    have h3 := ih (x.fdiv 256) (by rw [hd]; omega) (by rw [hd]; omega)
    have hw : (IntKind.u8.wrap x).toNat = (x % 256).toNat := by simp only [IntKind.wrap, IntKind.signed, IntKind.bits]; simp
    have hb : (UInt8.ofNat (IntKind.u8.wrap x).toNat).toNat = (x % 256).toNat := by
      rw [hw]; simp; omega
    simp only [num]
    rw [hb]
    omega

theorem spE_app (a b : List UInt8) : spE (a ++ b) a.length = 0 := by
  unfold spE; rw [if_neg (by omega), if_neg (by simp; omega)]

theorem spA_app (a b : List UInt8) : spA (a ++ b) a.length = a := by
  unfold spA; rw [if_neg (by omega), if_neg (by simp; omega)]; simp

theorem spB_app (a b : List UInt8) : spB (a ++ b) a.length = b := by
  unfold spB; rw [if_neg (by omega), if_neg (by simp; omega)]; simp

/-- What is cut off is a beginning, and the rest. -/
theorem sp_ok {b : List UInt8} {n : Int} (h : spE b n = 0) : 0 ≤ n ∧ spA b n ++ spB b n = b ∧ ((spA b n).length : Int) = n := by
  unfold spE at h
  split at h
  · cases h
  · split at h
    · cases h
    · rename_i h1 h2
      unfold spA spB
      simp only [if_neg h1, if_neg h2]
      refine ⟨by omega, by simp, ?_⟩
      simp; omega

theorem rdR_put {k : Nat} {least : Nat} {x : Int} (r : List UInt8) (h0 : 0 ≤ x) (h1 : x < ((256 ^ k : Nat) : Int)) (h2 : (least : Int) ≤ x) : rdR (le k x ++ r) k least = (x.toNat, r, 0) := by
  have hl := le_len k x
  have e := spE_app (le k x) r
  have a := spA_app (le k x) r
  have c := spB_app (le k x) r
  rw [hl] at e a c
  have hn := num_le k x h0 h1
  unfold rdR
  rw [if_neg (by rw [e]; simp), a, c, if_neg (by omega)]
  rw [show num (le k x) = x.toNat by omega]

theorem le1 (x : Int) (h0 : 0 ≤ x) (h1 : x ≤ 255) : le 1 x = [UInt8.ofNat x.toNat] := by
  simp only [le, shrB, List.nil_append]
  rw [wrap_u8 h0 h1]

theorem sz_put (n : Int) (r : List UInt8) (h0 : 0 ≤ n) (h1 : n ≤ 18446744073709551615) : sz (sizeB n ++ r) = (n.toNat, r, 0) := by
  have key : ∀ (x : Int) (s : List UInt8), 0 ≤ x → x ≤ 255 → spE (le 1 x ++ s) 1 = 0 ∧ spB (le 1 x ++ s) 1 = s ∧ (num (spA (le 1 x ++ s) 1) : Int) = x := by
    intro x s hx0 hx1
    have hl := le_len 1 x
    have e := spE_app (le 1 x) s
    have a := spA_app (le 1 x) s
    have c := spB_app (le 1 x) s
    rw [hl] at e a c
    exact ⟨e, c, by rw [show ((1 : Nat) : Int) = 1 from rfl] at a; rw [a]; exact num_le 1 x hx0 (by omega)⟩
  unfold sizeB
  split
  · obtain ⟨k1, k2, k3⟩ := key n r h0 (by omega)
    unfold sz
    rw [if_neg (by rw [k1]; simp), if_neg (by omega), if_neg (by omega), if_neg (by omega), k2]
    rw [show num (spA (le 1 n ++ r) 1) = n.toNat by omega]
  · split
    · obtain ⟨k1, k2, k3⟩ := key 253 (le 2 n ++ r) (by omega) (by omega)
      rw [List.append_assoc]
      unfold sz
      rw [if_neg (by rw [k1]; simp), if_pos (by omega), k2]
      exact rdR_put r h0 (by omega) (by omega)
    · split
      · obtain ⟨k1, k2, k3⟩ := key 254 (le 4 n ++ r) (by omega) (by omega)
        rw [List.append_assoc]
        unfold sz
        rw [if_neg (by rw [k1]; simp), if_neg (by omega), if_pos (by omega), k2]
        exact rdR_put r h0 (by omega) (by omega)
      · obtain ⟨k1, k2, k3⟩ := key 255 (le 8 n ++ r) (by omega) (by omega)
        rw [List.append_assoc]
        unfold sz
        rw [if_neg (by rw [k1]; simp), if_neg (by omega), if_neg (by omega), if_pos (by omega), k2]
        exact rdR_put r h0 (by omega) (by omega)

theorem rdR_only {b : List UInt8} {k : Nat} {least : Nat} (h : (rdR b k least).2.2 = 0) : (least : Int) ≤ (rdR b k least).1 ∧ le k ((rdR b k least).1 : Nat) ++ (rdR b k least).2.1 = b := by
  unfold rdR at h ⊢
  split at h
  · rename_i hn; exact absurd h hn
  · rename_i hn
    rw [if_neg hn]
    split at h
    · cases h
    · rename_i h2
      rw [if_neg h2]
      obtain ⟨q1, q2, q3⟩ := sp_ok (b := b) (n := k) (by simpa using hn)
      have hk : (spA b k).length = k := by omega
      have := le_num (spA b k)
      rw [hk] at this
      exact ⟨by simp only; omega, by simp only; rw [this]; exact q2⟩

/-- Whoever is taken as a size was put so. -/
theorem sz_only {b : List UInt8} (h : (sz b).2.2 = 0) : sizeB ((sz b).1 : Nat) ++ (sz b).2.1 = b := by
  have hlt := num_lt1 (spA b 1) (spA_le b 1 1 (by omega))
  have l2 := rdR_lt (spB b 1) 2 253 (by omega)
  unfold sz at h ⊢
  split at h
  · rename_i hn; exact absurd h hn
  · rename_i hn
    rw [if_neg hn]
    obtain ⟨q1, q2, q3⟩ := sp_ok (b := b) (n := 1) (by simpa using hn)
    have hk : (spA b 1).length = 1 := by omega
    have hone := le_num (spA b 1)
    rw [hk] at hone
    have b2 : (rdR (spB b 1) 2 253).1 < 65536 := by
      unfold rdR; split
      · simp
      · split
        · simp
        · have := num_lt (spA (spB b 1) 2)
          have hl := spA_le (spB b 1) 2 2 (by omega)
          have hp : 256 ^ (spA (spB b 1) 2).length ≤ 256 ^ 2 := Nat.pow_le_pow_right (by omega) hl
          simp only; omega
    have b4 : (rdR (spB b 1) 4 65536).1 < 4294967296 := by
      unfold rdR; split
      · simp
      · split
        · simp
        · have := num_lt4 (spA (spB b 1) 4) (spA_le (spB b 1) 4 4 (by omega))
          simp only; omega
    split at h
    · rename_i e
      rw [if_pos e]
      obtain ⟨r1, r2⟩ := rdR_only (k := 2) h
      unfold sizeB
      have r1' : (253 : Int) ≤ (rdR (spB b 1) 2 253).1 := r1
      rw [if_neg (by omega), if_pos (by omega), List.append_assoc]
      rw [show ((2 : Nat) : Int) = 2 from rfl] at r2
      rw [r2]; conv => rhs; rw [← q2]
      congr 1
      rw [← hone, e]; rfl
    · rename_i e
      rw [if_neg e]
      split at h
      · rename_i e4
        rw [if_pos e4]
        obtain ⟨r1, r2⟩ := rdR_only (k := 4) h
        unfold sizeB
        have r1' : (65536 : Int) ≤ (rdR (spB b 1) 4 65536).1 := r1
        rw [if_neg (by omega), if_neg (by omega), if_pos (by omega), List.append_assoc]
        rw [show ((4 : Nat) : Int) = 4 from rfl] at r2
        rw [r2]; conv => rhs; rw [← q2]
        congr 1
        rw [← hone, e4]; rfl
      · rename_i e4
        rw [if_neg e4]
        split at h
        · rename_i e8
          rw [if_pos e8]
          obtain ⟨r1, r2⟩ := rdR_only (k := 8) h
          unfold sizeB
          have r1' : (4294967296 : Int) ≤ (rdR (spB b 1) 8 4294967296).1 := r1
          rw [if_neg (by omega), if_neg (by omega), if_neg (by omega), List.append_assoc]
          rw [show ((8 : Nat) : Int) = 8 from rfl] at r2
          rw [r2]; conv => rhs; rw [← q2]
          congr 1
          rw [← hone, e8]; rfl
        · rename_i e8
          rw [if_neg e8]
          unfold sizeB
          simp only
          rw [if_pos (by omega), hone, q2]

theorem bnd_only {b : List UInt8} {most : Int} (h : (bnd b most).2.2 = 0) : sizeB ((bnd b most).1 : Nat) ++ (bnd b most).2.1 = b ∧ ((bnd b most).1 : Int) ≤ most := by
  unfold bnd at h ⊢
  split at h
  · rename_i hn; exact absurd h hn
  · rename_i hn
    rw [if_neg hn]
    split at h
    · cases h
    · rename_i h2
      rw [if_neg h2]
      exact ⟨sz_only (by simpa using hn), by simp only; omega⟩

theorem lim_only {b : List UInt8} {most : Int} (h : (lim b most).2.2 = 0) : sizeB ((lim b most).1.length : Int) ++ (lim b most).1 ++ (lim b most).2.1 = b := by
  unfold lim at h ⊢
  split at h
  · rename_i hn; exact absurd h hn
  · rename_i hn
    rw [if_neg hn]
    obtain ⟨q1, q2, q3⟩ := sp_ok (b := (bnd b most).2.1) (n := (bnd b most).1) h
    have h1 := (bnd_only (b := b) (most := most) (by simpa using hn)).1
    simp only
    rw [q3, List.append_assoc, q2, h1]

theorem tkF_bad {most : Int} : ∀ (n : Nat) (acc : List (List UInt8)) (b : List UInt8), (tkF most n acc b).2.2 ≠ 0 → (tkF most n acc b).1 = [] ∧ (tkF most n acc b).2.1 = []
  | 0, acc, b, h => by simp [tkF] at h
  | n + 1, acc, b, h => by
    unfold tkF at h ⊢
    split at h
    · rename_i hn; rw [if_pos hn]; exact ⟨rfl, rfl⟩
    · rename_i hn; rw [if_neg hn]; exact tkF_bad n _ _ h

theorem tkF_only {most : Int} : ∀ (n : Nat) (acc : List (List UInt8)) (b : List UInt8), (tkF most n acc b).2.2 = 0 →
    (tkF most n acc b).1.length = acc.length + n ∧ flat (tkF most n acc b).1 ++ (tkF most n acc b).2.1 = flat acc ++ b
  | 0, acc, b, h => by simp [tkF]
  | n + 1, acc, b, h => by
    unfold tkF at h ⊢
    split at h
    · rename_i hn; exact absurd h hn
    · rename_i hn
      rw [if_neg hn]
      obtain ⟨h1, h2⟩ := tkF_only n _ _ h
      refine ⟨by rw [h1]; simp; omega, ?_⟩
      rw [h2, flat_snoc, List.append_assoc]
      have h3 := lim_only (b := b) (most := most) (by simpa using hn)
      rw [h3]

theorem lst_bad {b : List UInt8} {many most : Int} (h : (lst b many most).2.2 ≠ 0) : (lst b many most).1 = [] ∧ (lst b many most).2.1 = [] := by
  unfold lst at h ⊢
  split at h
  · rename_i hn; rw [if_pos hn]; exact ⟨rfl, rfl⟩
  · rename_i hn; rw [if_neg hn]; exact tkF_bad _ _ _ h

/-- A list that is taken, put again. -/
theorem lst_only {b : List UInt8} {many most : Int} (h : (lst b many most).2.2 = 0) :
    ((lst b many most).1.length : Int) ≤ many ∧ sizeB ((lst b many most).1.length : Int) ++ flat (lst b many most).1 ++ (lst b many most).2.1 = b := by
  unfold lst at h ⊢
  split at h
  · rename_i hn; exact absurd h hn
  · rename_i hn
    rw [if_neg hn]
    obtain ⟨h1, h2⟩ := bnd_only (b := b) (most := many) (by simpa using hn)
    obtain ⟨h3, h4⟩ := tkF_only _ _ _ h
    simp only [List.length_nil, Nat.zero_add] at h3
    rw [List.append_assoc, h4, h3]
    exact ⟨h2, by simpa [flat] using h1⟩

end Go.Fw

end

section
/- Sizes, strings, lists: there and back, cut off. Plain laws. -/
namespace Go.Fw
open Go
set_option linter.unusedVariables false
set_option linter.unusedSimpArgs false

theorem bnd_put {n most : Int} (r : List UInt8) (h0 : 0 ≤ n) (h1 : n ≤ most) (h2 : most ≤ 9223372036854775807) : bnd (sizeB n ++ r) most = (n.toNat, r, 0) := by
  have h := sz_put n r h0 (by omega)
  unfold bnd
  rw [h]
  simp only [ne_eq, not_true_eq_false, if_false]
  rw [if_neg (by omega)]

theorem lim_put {x : List UInt8} {most : Int} (r : List UInt8) (h1 : (x.length : Int) ≤ most) (h2 : most ≤ 9223372036854775807) : lim (sizeB x.length ++ x ++ r) most = (x, r, 0) := by
  have h := bnd_put (n := x.length) (most := most) (x ++ r) (by omega) h1 h2
  rw [List.append_assoc]
  unfold lim
  rw [h]
  simp only [ne_eq, not_true_eq_false, if_false, Int.toNat_natCast, spA_app, spB_app, spE_app]

theorem tkF_put {most : Int} (h2 : most ≤ 9223372036854775807) : ∀ (l acc : List (List UInt8)) (r : List UInt8), (∀ x ∈ l, (x.length : Int) ≤ most) → tkF most l.length acc (flat l ++ r) = (acc ++ l, r, 0)
  | [], acc, r, _ => by simp [tkF, flat]
  | x :: l, acc, r, h => by
    have h1 := lim_put (x := x) (most := most) (flat l ++ r) (h x (by simp)) h2
    simp only [List.length_cons, tkF_succ, flat]
    rw [List.append_assoc, h1]
    simp only [ne_eq, not_true_eq_false, if_false]
    rw [tkF_put h2 l (acc ++ [x]) r (fun y hy => h y (by simp [hy]))]
    simp

theorem lst_put {l : List (List UInt8)} {many most : Int} (r : List UInt8) (hm : (l.length : Int) ≤ many) (hm2 : many ≤ 9223372036854775807) (h2 : most ≤ 9223372036854775807) (h : ∀ x ∈ l, (x.length : Int) ≤ most) :
    lst (sizeB l.length ++ flat l ++ r) many most = (l, r, 0) := by
  have h1 := bnd_put (n := l.length) (most := many) (flat l ++ r) (by omega) hm hm2
  rw [List.append_assoc]
  unfold lst
  rw [h1]
  simp only [ne_eq, not_true_eq_false, if_false, Int.toNat_natCast]
  rw [tkF_put h2 l [] r h]; simp

/-! ### Cut off. -/

theorem sp_cut {b : List UInt8} {n : Int} (h : (b.length : Int) < n) : spE b n = 2 ∧ spA b n = [] ∧ spB b n = [] := by
  unfold spE spA spB
  rw [if_neg (by omega), if_pos h, if_neg (by omega), if_pos h, if_neg (by omega), if_pos h]
  exact ⟨rfl, rfl, rfl⟩

theorem rdR_cut {b : List UInt8} {n : Int} {least : Nat} (h : (b.length : Int) < n) : rdR b n least = (0, [], 2) := by
  unfold rdR
  rw [(sp_cut h).1, if_pos (by omega)]

theorem sz_nil : sz [] = (0, [], 2) := by
  unfold sz
  rw [(sp_cut (b := []) (n := 1) (by simp)).1, if_pos (by omega)]

theorem sz_cut {n : Int} (h0 : 0 ≤ n) {k : Nat} (hk : k < (sizeB n).length) : sz ((sizeB n).take k) = (0, [], 2) := by
  cases k with
  | zero => exact sz_nil
  | succ k =>
    have key : ∀ (x : Int) (s : List UInt8), 0 ≤ x → x ≤ 255 → spE (le 1 x ++ s) 1 = 0 ∧ spB (le 1 x ++ s) 1 = s ∧ (num (spA (le 1 x ++ s) 1) : Int) = x := by
      intro x s hx0 hx1
      have hl := le_len 1 x
      have e := spE_app (le 1 x) s
      have a := spA_app (le 1 x) s
      have c := spB_app (le 1 x) s
      rw [hl] at e a c
      exact ⟨e, c, by rw [show ((1 : Nat) : Int) = 1 from rfl] at a; rw [a]; exact num_le 1 x hx0 (by omega)⟩
    have tk : ∀ (x : Int) (s : List UInt8), (le 1 x ++ s).take (k + 1) = le 1 x ++ s.take k := fun x s => by
      have hl := le_len 1 x
      rw [List.take_append, hl, List.take_of_length_le (by omega)]; simp
    unfold sizeB at hk ⊢
    split
    · rename_i h; rw [if_pos h, le_len] at hk; omega
    · rename_i h
      rw [if_neg h] at hk
      split
      · rename_i h2
        rw [if_pos h2] at hk
        simp only [List.length_append, le_len] at hk
        obtain ⟨k1, k2, k3⟩ := key 253 ((le 2 n).take k) (by omega) (by omega)
        rw [tk]
        unfold sz
        rw [if_neg (by rw [k1]; simp), if_pos (by omega), k2]
        exact rdR_cut (by simp [le_len]; omega)
      · rename_i h2
        rw [if_neg h2] at hk
        split
        · rename_i h3
          rw [if_pos h3] at hk
          simp only [List.length_append, le_len] at hk
          obtain ⟨k1, k2, k3⟩ := key 254 ((le 4 n).take k) (by omega) (by omega)
          rw [tk]
          unfold sz
          rw [if_neg (by rw [k1]; simp), if_neg (by omega), if_pos (by omega), k2]
          exact rdR_cut (by simp [le_len]; omega)
        · rename_i h3
          rw [if_neg h3] at hk
          simp only [List.length_append, le_len] at hk
          obtain ⟨k1, k2, k3⟩ := key 255 ((le 8 n).take k) (by omega) (by omega)
          rw [tk]
          unfold sz
          rw [if_neg (by rw [k1]; simp), if_neg (by omega), if_neg (by omega), if_pos (by omega), k2]
          exact rdR_cut (by simp [le_len]; omega)

theorem bnd_cut {n most : Int} (h0 : 0 ≤ n) {k : Nat} (hk : k < (sizeB n).length) : bnd ((sizeB n).take k) most = (0, [], 2) := by
  unfold bnd
  rw [sz_cut h0 hk, if_pos (by simp)]

theorem lim_cut {x : List UInt8} {most : Int} (h1 : (x.length : Int) ≤ most) (h2 : most ≤ 9223372036854775807) {k : Nat} (hk : k < (sizeB x.length ++ x).length) : lim ((sizeB x.length ++ x).take k) most = ([], [], 2) := by
  unfold lim
  by_cases h : k < (sizeB (x.length : Int)).length
  · rw [List.take_append_of_le_length (by omega), bnd_cut (by omega) h, if_pos (by simp)]
  · have e : (sizeB (x.length : Int) ++ x).take k = sizeB (x.length : Int) ++ x.take (k - (sizeB (x.length : Int)).length) := by
      rw [List.take_append, List.take_of_length_le (by omega)]
    rw [e, bnd_put _ (by omega) h1 h2]
    simp only [List.length_append] at hk
    have hc := sp_cut (b := x.take (k - (sizeB (x.length : Int)).length)) (n := ((x.length : Int).toNat : Int)) (by simp; omega)
    simp only [ne_eq, not_true_eq_false, if_false]
    rw [hc.1, hc.2.1, hc.2.2]

theorem tkF_cut {most : Int} (h2 : most ≤ 9223372036854775807) : ∀ (l acc : List (List UInt8)) (k : Nat), (∀ x ∈ l, (x.length : Int) ≤ most) → k < (flat l).length → tkF most l.length acc ((flat l).take k) = ([], [], 2)
  | [], acc, k, _, hk => by simp [flat] at hk
  | x :: l, acc, k, h, hk => by
    simp only [List.length_cons, tkF_succ, flat]
    by_cases h1 : k < (sizeB (x.length : Int) ++ x).length
    · rw [List.take_append_of_le_length (by omega), lim_cut (h x (by simp)) h2 h1, if_pos (by simp)]
    · have e : (sizeB (x.length : Int) ++ x ++ flat l).take k = sizeB (x.length : Int) ++ x ++ (flat l).take (k - (sizeB (x.length : Int) ++ x).length) := by
        rw [List.take_append, List.take_of_length_le (by omega)]
      rw [e, lim_put _ (h x (by simp)) h2]
      simp only [ne_eq, not_true_eq_false, if_false]
      simp only [flat, List.length_append] at hk h1 ⊢
      exact tkF_cut h2 l _ _ (fun y hy => h y (by simp [hy])) (by omega)

theorem lst_cut {l : List (List UInt8)} {many most : Int} (hm : (l.length : Int) ≤ many) (hm2 : many ≤ 9223372036854775807) (h2 : most ≤ 9223372036854775807) (h : ∀ x ∈ l, (x.length : Int) ≤ most) {k : Nat} (hk : k < (sizeB l.length ++ flat l).length) :
    lst ((sizeB l.length ++ flat l).take k) many most = ([], [], 2) := by
  unfold lst
  by_cases h1 : k < (sizeB (l.length : Int)).length
  · rw [List.take_append_of_le_length (by omega), bnd_cut (by omega) h1, if_pos (by simp)]
  · have e : (sizeB (l.length : Int) ++ flat l).take k = sizeB (l.length : Int) ++ (flat l).take (k - (sizeB (l.length : Int)).length) := by
      rw [List.take_append, List.take_of_length_le (by omega)]
    rw [e, bnd_put _ (by omega) hm hm2]
    simp only [List.length_append] at hk
    simp only [ne_eq, not_true_eq_false, if_false, Int.toNat_natCast]
    exact tkF_cut h2 l [] _ h (by omega)

end Go.Fw

end

section
/- Transactions: their trees, their bytes. Plain laws. -/
namespace Go.Fw
open Go
set_option linter.unusedVariables false
set_option linter.unusedSimpArgs false

abbrev H32 := { l : List UInt8 // l.length = 32 }
def zH : H32 := ⟨List.replicate 32 0, by simp⟩
structure TIn where
  (prev : H32) (idx seq : UInt32) (wit : List (List UInt8))
  deriving DecidableEq
structure TOut where
  (val : UInt64) (scr : List UInt8)
  deriving DecidableEq
structure TTx where
  (ver : UInt32) (ins : List TIn) (outs : List TOut) (lock : UInt32)
  deriving DecidableEq
def refT (h : H32) (i : UInt32) : T := .st [.ba 32 h.1, .int .u32 (i.toNat : Int)]
def inT (x : TIn) : T := .st [refT x.prev x.idx, .int .u32 (x.seq.toNat : Int), .sq 1 (x.wit.map .by)]
def outT (x : TOut) : T := .st [.int .u64 (x.val.toNat : Int), .by x.scr]
def txT (x : TTx) : T := .st [.int .u32 (x.ver.toNat : Int), .sq 35 (x.ins.map inT), .sq 2 (x.outs.map outT), .int .u32 (x.lock.toNat : Int)]
def dIn : TIn := ⟨zH, 0, 0, []⟩
def dOut : TOut := ⟨0, []⟩
def dTx : TTx := ⟨0, [], [], 0⟩

/-! ### Trees are of one thing only. -/
theorem map_inj {α β : Type} {f : α → β} (hf : ∀ a b, f a = f b → a = b) : ∀ l k : List α, l.map f = k.map f → l = k
  | [], [], _ => rfl
  | [], _ :: _, h => by simp at h
  | _ :: _, [], h => by simp at h
  | a :: l, b :: k, h => by
    simp only [List.map_cons, List.cons.injEq] at h
    rw [hf a b h.1, map_inj hf l k h.2]
theorem by_inj (a b : List UInt8) (h : T.by a = T.by b) : a = b := by cases h; rfl
theorem n32_inj {a b : UInt32} (h : (a.toNat : Int) = (b.toNat : Int)) : a = b := UInt32.toNat_inj.1 (by exact_mod_cast h)
theorem n64_inj {a b : UInt64} (h : (a.toNat : Int) = (b.toNat : Int)) : a = b := UInt64.toNat_inj.1 (by exact_mod_cast h)
theorem refT_inj {a b : H32} {i j : UInt32} (h : refT a i = refT b j) : a = b ∧ i = j := by
  unfold refT at h
  simp only [T.st.injEq, List.cons.injEq, T.ba.injEq, T.int.injEq, true_and, and_true] at h
  exact ⟨Subtype.ext h.1, n32_inj h.2⟩
theorem inT_inj (a b : TIn) (h : inT a = inT b) : a = b := by
  obtain ⟨a1, a2, a3, a4⟩ := a
  obtain ⟨b1, b2, b3, b4⟩ := b
  unfold inT at h
  simp only [T.st.injEq, List.cons.injEq, T.sq.injEq, T.int.injEq, true_and, and_true] at h
  obtain ⟨h1, h2, h3⟩ := h
  obtain ⟨rfl, rfl⟩ := refT_inj h1
  rw [n32_inj h2, map_inj by_inj _ _ h3]
theorem outT_inj (a b : TOut) (h : outT a = outT b) : a = b := by
  obtain ⟨a1, a2⟩ := a
  obtain ⟨b1, b2⟩ := b
  unfold outT at h
  simp only [T.st.injEq, List.cons.injEq, T.by.injEq, T.int.injEq, true_and, and_true] at h
  rw [n64_inj h.1, h.2]
theorem txT_inj (a b : TTx) (h : txT a = txT b) : a = b := by
  obtain ⟨a1, a2, a3, a4⟩ := a
  obtain ⟨b1, b2, b3, b4⟩ := b
  unfold txT at h
  simp only [T.st.injEq, List.cons.injEq, T.sq.injEq, T.int.injEq, true_and, and_true] at h
  obtain ⟨h1, h2, h3, h4⟩ := h
  rw [n32_inj h1, n32_inj h4, map_inj inT_inj _ _ h2, map_inj outT_inj _ _ h3]

theorem in_getD (l : List TIn) (k : Nat) (h : k < l.length) : (l.map inT).getD k default = inT (l.getD k dIn) := by simp [h]
theorem out_getD (l : List TOut) (k : Nat) (h : k < l.length) : (l.map outT).getD k default = outT (l.getD k dOut) := by simp [h]

/-! ### Bytes. -/
/-- What comes of each, one behind the other. -/
def cat {α : Type} (f : α → List UInt8) (l : List α) : List UInt8 := (l.map f).flatten
theorem cat_snoc {α : Type} (f : α → List UInt8) (l : List α) (x : α) : cat f (l ++ [x]) = cat f l ++ f x := by simp [cat]
theorem cat_nil {α : Type} (f : α → List UInt8) : cat f [] = [] := rfl
theorem cat_cons {α : Type} (f : α → List UInt8) (x : α) (l : List α) : cat f (x :: l) = f x ++ cat f l := by simp [cat]
theorem take_getDx {α : Type} (d : α) (l : List α) (k : Nat) (h : k < l.length) : l.take (k + 1) = l.take k ++ [l.getD k d] := by
  rw [List.take_succ_eq_append_getElem h]; simp [h]
theorem cat_take {α : Type} (f : α → List UInt8) (d : α) (l : List α) (k : Nat) (h : k < l.length) : cat f (l.take (k + 1)) = cat f (l.take k) ++ f (l.getD k d) := by
  rw [take_getDx d l k h, cat_snoc]
theorem cat_len {α : Type} (f : α → List UInt8) (m : Nat) : ∀ l : List α, (∀ x ∈ l, (f x).length ≤ m) → (cat f l).length ≤ l.length * m
  | [], _ => by simp [cat]
  | x :: l, h => by
    rw [cat_cons, List.length_append, List.length_cons, Nat.succ_mul]
    have h1 := h x (by simp)
    have h2 := cat_len f m l (fun y hy => h y (by simp [hy]))
    omega
theorem cat_take_le {α : Type} (f : α → List UInt8) (l : List α) (k : Nat) : (cat f (l.take k)).length ≤ (cat f l).length := by
  conv => rhs; rw [← List.take_append_drop k l]
  rw [cat, cat, List.map_append, List.flatten_append, List.length_append]; omega

def tInB (x : TIn) : List UInt8 := x.prev.1 ++ le 4 (x.idx.toNat : Int) ++ le 4 (x.seq.toNat : Int)
def tOutB (x : TOut) : List UInt8 := le 8 (x.val.toNat : Int) ++ (sizeB x.scr.length ++ x.scr)
def witB (x : TIn) : List UInt8 := sizeB x.wit.length ++ flat x.wit
def bareB (t : TTx) : List UInt8 := le 4 (t.ver.toNat : Int) ++ sizeB t.ins.length ++ cat tInB t.ins ++ sizeB t.outs.length ++ cat tOutB t.outs ++ le 4 (t.lock.toNat : Int)
def wholeB (t : TTx) : List UInt8 := bareB t ++ cat witB t.ins

def scrOk (x : TOut) : Bool := decide (x.scr.length ≤ 1000)
def witOk (x : TIn) : Bool := decide (x.wit.length ≤ 30) && x.wit.all fun y => decide (y.length ≤ 1000)
/-- Does it fit, but for the bytes in all? -/
def countsB (t : TTx) : Bool := decide (t.ins.length ≤ 20) && decide (t.outs.length ≤ 20) && t.outs.all scrOk && t.ins.all witOk
def fitsB (t : TTx) : Bool := countsB t && decide ((wholeB t).length ≤ 12000)
def chkE (t : TTx) : Int := if fitsB t = true then 0 else 4

theorem tInB_len (x : TIn) : (tInB x).length = 40 := by simp [tInB, le_len, x.prev.2]
theorem flat_le (m : Nat) : ∀ l : List (List UInt8), (∀ y ∈ l, y.length ≤ m) → (flat l).length ≤ l.length * (9 + m)
  | [], _ => by simp [flat]
  | x :: l, h => by
    have h1 := h x (by simp)
    have h2 := flat_le m l (fun y hy => h y (by simp [hy]))
    have h3 := sizeB_len (x.length : Int)
    simp only [flat, List.length_append, List.length_cons, Nat.succ_mul]
    omega
theorem countsB_ok {t : TTx} (h : countsB t = true) : t.ins.length ≤ 20 ∧ t.outs.length ≤ 20 ∧ (∀ x ∈ t.outs, x.scr.length ≤ 1000) ∧ ∀ x ∈ t.ins, x.wit.length ≤ 30 ∧ ∀ y ∈ x.wit, y.length ≤ 1000 := by
  simpa [countsB, scrOk, witOk, and_assoc] using h
theorem cat_in_len (l : List TIn) : (cat tInB l).length = l.length * 40 := by
  induction l with
  | nil => rfl
  | cons x l ih => rw [cat_cons, List.length_append, ih, tInB_len, List.length_cons]; omega
/-- A bound of the parts' bytes: what is asked of numbers. -/
theorem bare_len {t : TTx} {n m k : Nat} (h1 : t.ins.length ≤ n) (h2 : t.outs.length ≤ m) (h3 : ∀ x ∈ t.outs, x.scr.length ≤ k) : (bareB t).length ≤ 26 + n * 40 + m * (17 + k) := by
  have a1 := sizeB_len (t.ins.length : Int)
  have a2 := sizeB_len (t.outs.length : Int)
  have a3 := cat_in_len t.ins
  have a4 := cat_len tOutB (17 + k) t.outs (fun x hx => by
    have b1 := h3 x hx
    have b2 := sizeB_len (x.scr.length : Int)
    simp only [tOutB, List.length_append, le_len]; omega)
  have a5 : t.ins.length * 40 ≤ n * 40 := Nat.mul_le_mul_right _ h1
  have a6 : t.outs.length * (17 + k) ≤ m * (17 + k) := Nat.mul_le_mul_right _ h2
  simp only [bareB, List.length_append, le_len]
  omega
theorem whole_len {t : TTx} {n m k w : Nat} (h1 : t.ins.length ≤ n) (h2 : t.outs.length ≤ m) (h3 : ∀ x ∈ t.outs, x.scr.length ≤ k) (h4 : ∀ x ∈ t.ins, x.wit.length ≤ w ∧ ∀ y ∈ x.wit, y.length ≤ k) :
    (wholeB t).length ≤ 26 + n * 40 + m * (17 + k) + n * (9 + w * (9 + k)) := by
  have a1 := bare_len h1 h2 h3
  have a4 := cat_len witB (9 + w * (9 + k)) t.ins (fun x hx => by
    obtain ⟨b1, b2⟩ := h4 x hx
    have b3 := flat_le k x.wit b2
    have b4 := sizeB_len (x.wit.length : Int)
    have b5 : x.wit.length * (9 + k) ≤ w * (9 + k) := Nat.mul_le_mul_right _ b1
    simp only [witB, List.length_append]; omega)
  have a5 : t.ins.length * (9 + w * (9 + k)) ≤ n * (9 + w * (9 + k)) := Nat.mul_le_mul_right _ h1
  simp only [wholeB, List.length_append]
  omega
theorem counts_len {t : TTx} (h : countsB t = true) : (bareB t).length ≤ 100000 ∧ (wholeB t).length ≤ 1000000 := by
  obtain ⟨h1, h2, h3, h4⟩ := countsB_ok h
  have := bare_len h1 h2 h3
  have := whole_len h1 h2 h3 h4
  omega

/-- Such as may be asked about. -/
def smallT (t : TTx) : Bool := decide (t.ins.length ≤ 6) && decide (t.outs.length ≤ 6) && (t.outs.all fun x => decide (x.scr.length ≤ 600)) && t.ins.all fun x => decide (x.wit.length ≤ 6) && x.wit.all fun y => decide (y.length ≤ 600)
theorem smallT_ok {t : TTx} (h : smallT t = true) : t.ins.length ≤ 6 ∧ t.outs.length ≤ 6 ∧ (∀ x ∈ t.outs, x.scr.length ≤ 600) ∧ ∀ x ∈ t.ins, x.wit.length ≤ 6 ∧ ∀ y ∈ x.wit, y.length ≤ 600 := by
  simpa [smallT, and_assoc] using h

end Go.Fw

end

section
/- What is read off bytes, one behind the other: readers that note their first error; there and back. Plain laws. -/
namespace Go.Fw
open Go
set_option linter.unusedVariables false
set_option linter.unusedSimpArgs false

/-- What a reading tells. -/
inductive Res (α : Type) where
  | ok (x : α) (r : List UInt8)
  | err (e : Int)
abbrev Rdg (α : Type) := List UInt8 → Res α

section
variable {α β γ : Type}

def pbind (p : Rdg α) (q : α → Rdg β) : Rdg β := fun b => match p b with
  | .ok x r => q x r
  | .err e => .err e
def ppure (x : α) : Rdg α := fun b => .ok x b
/-- So many, one behind the other. -/
def pN (p : Rdg α) : Nat → Rdg (List α)
  | 0 => ppure []
  | n + 1 => pbind p fun x => pbind (pN p n) fun l => ppure (x :: l)
/-- A taking, as a reading. -/
def ofT (t : List UInt8 → α × List UInt8 × Int) : Rdg α := fun b => if (t b).2.2 = 0 then .ok (t b).1 (t b).2.1 else .err (t b).2.2

theorem pbind_ok {p : Rdg α} {q : α → Rdg β} {b : List UInt8} {x : α} {r : List UInt8} (h : p b = .ok x r) : pbind p q b = q x r := by unfold pbind; rw [h]
theorem pbind_err {p : Rdg α} {q : α → Rdg β} {b : List UInt8} {e : Int} (h : p b = .err e) : pbind p q b = .err e := by unfold pbind; rw [h]
theorem ofT_ok {t : List UInt8 → α × List UInt8 × Int} {b : List UInt8} {x : α} {r : List UInt8} : ofT t b = .ok x r ↔ t b = (x, r, 0) := by
  unfold ofT
  constructor
  · intro h
    split at h
    · rename_i he
      cases h
      exact Prod.ext rfl (Prod.ext rfl he)
    · cases h
  · intro h; rw [if_pos (by rw [h]), h]
theorem ofT_err {t : List UInt8 → α × List UInt8 × Int} {b : List UInt8} {e : Int} : ofT t b = .err e ↔ (t b).2.2 = e ∧ e ≠ 0 := by
  unfold ofT
  constructor
  · intro h
    split at h
    · cases h
    · rename_i he; cases h; exact ⟨rfl, he⟩
  · rintro ⟨rfl, h⟩; rw [if_neg h]

/-! ### A reader that notes its first error. -/

structure RSt where
  (b : List UInt8) (e : Int)
structure Good (f : RSt → α × RSt) (p : Rdg α) : Prop where
  ok : ∀ b x r, p b = .ok x r → f ⟨b, 0⟩ = (x, ⟨r, 0⟩)
  err : ∀ b e, p b = .err e → e ≠ 0 ∧ (f ⟨b, 0⟩).2.e = e
  stick : ∀ s, s.e ≠ 0 → (f s).2.e = s.e

theorem Good.bind {f : RSt → α × RSt} {p : Rdg α} {g : α → RSt → β × RSt} {q : α → Rdg β} (hf : Good f p) (hg : ∀ x, Good (g x) (q x)) : Good (fun s => g (f s).1 (f s).2) (pbind p q) where
  ok b y r h := by
    unfold pbind at h
    split at h
    · rename_i x r' hp
      rw [hf.ok b x r' hp]
      exact (hg x).ok r' y r h
    · cases h
  err b e h := by
    unfold pbind at h
    split at h
    · rename_i x r' hp
      rw [hf.ok b x r' hp]
      exact (hg x).err r' e h
    · rename_i e' hp
      cases h
      obtain ⟨h1, h2⟩ := hf.err b e hp
      exact ⟨h1, by rw [(hg _).stick _ (by rw [h2]; exact h1), h2]⟩
  stick s h := by
    have h1 := hf.stick s h
    rw [(hg _).stick _ (by rw [h1]; exact h), h1]
theorem Good.pure (x : α) : Good (fun s => (x, s)) (ppure x) where
  ok b y r h := by cases h; rfl
  err b e h := by cases h
  stick s h := rfl
theorem Good.congr {f g : RSt → α × RSt} {p : Rdg α} (h : Good f p) (e : ∀ s, g s = f s) : Good g p := by
  obtain rfl : g = f := funext e
  exact h

def rdN (f : RSt → α × RSt) : Nat → RSt → List α × RSt
  | 0, s => ([], s)
  | n + 1, s => ((f s).1 :: (rdN f n (f s).2).1, (rdN f n (f s).2).2)
theorem rdN_snoc (f : RSt → α × RSt) : ∀ (n : Nat) (s : RSt), rdN f (n + 1) s = ((rdN f n s).1 ++ [(f (rdN f n s).2).1], (f (rdN f n s).2).2)
  | 0, s => rfl
  | n + 1, s => by
    have := rdN_snoc f n (f s).2
    rw [rdN, this]
    rfl
theorem rdN_len (f : RSt → α × RSt) : ∀ (n : Nat) (s : RSt), (rdN f n s).1.length = n
  | 0, s => rfl
  | n + 1, s => by simp [rdN, rdN_len f n]
theorem Good.rep {f : RSt → α × RSt} {p : Rdg α} (hf : Good f p) : ∀ n, Good (rdN f n) (pN p n)
  | 0 => Good.pure []
  | n + 1 => by
    exact Good.congr (hf.bind (g := fun x s => (x :: (rdN f n s).1, (rdN f n s).2)) fun x => ((hf.rep n).bind (g := fun l s => (x :: l, s)) fun l => Good.pure (x :: l))) fun s => rfl

/-- The program's: at an error nothing is taken. -/
def rd (t : List UInt8 → α × List UInt8 × Int) (d : α) (s : RSt) : α × RSt :=
  if s.e ≠ 0 then (d, s) else if (t s.b).2.2 ≠ 0 then (d, ⟨s.b, (t s.b).2.2⟩) else ((t s.b).1, ⟨(t s.b).2.1, 0⟩)
/-- The document's: what is left is as the taking tells. -/
def rdD (t : List UInt8 → α × List UInt8 × Int) (d : α) (s : RSt) : α × RSt :=
  if s.e ≠ 0 then (d, s) else ((t s.b).1, ⟨(t s.b).2.1, (t s.b).2.2⟩)
theorem Good.rd (t : List UInt8 → α × List UInt8 × Int) (d : α) : Good (rd t d) (ofT t) where
  ok b x r h := by
    rw [ofT_ok] at h
    unfold Fw.rd
    dsimp only
    rw [if_neg (by simp), if_neg (by rw [h]; simp), h]
  err b e h := by
    rw [ofT_err] at h
    obtain ⟨h1, h2⟩ := h
    unfold Fw.rd
    dsimp only
    rw [if_neg (by simp), if_pos (by rw [h1]; exact h2)]
    exact ⟨h2, h1⟩
  stick s h := by unfold Fw.rd; rw [if_pos h]
theorem Good.rdD (t : List UInt8 → α × List UInt8 × Int) (d : α) : Good (rdD t d) (ofT t) where
  ok b x r h := by
    rw [ofT_ok] at h
    unfold Fw.rdD
    dsimp only
    rw [if_neg (by simp), h]
  err b e h := by
    rw [ofT_err] at h
    obtain ⟨h1, h2⟩ := h
    unfold Fw.rdD
    dsimp only
    rw [if_neg (by simp)]
    exact ⟨h2, h1⟩
  stick s h := by unfold Fw.rdD; rw [if_pos h]

/-! ### There and back. -/

structure Cod (p : Rdg α) (w : α → List UInt8) (ok : α → Prop) : Prop where
  put : ∀ x r, ok x → p (w x ++ r) = .ok x r
  only : ∀ b x r, p b = .ok x r → ok x ∧ w x ++ r = b
  cut : ∀ x k, ok x → k < (w x).length → p ((w x).take k) = .err 2

theorem Cod.pair {p : Rdg α} {w : α → List UInt8} {ok : α → Prop} {q : α → Rdg β} {v : α → β → List UInt8} {ok' : α → β → Prop} (hp : Cod p w ok) (hq : ∀ x, ok x → Cod (q x) (v x) (ok' x)) :
    Cod (pbind p fun x => pbind (q x) fun y => ppure (x, y)) (fun z => w z.1 ++ v z.1 z.2) (fun z => ok z.1 ∧ ok' z.1 z.2) where
  put z r h := by
    obtain ⟨h1, h2⟩ := h
    rw [List.append_assoc, pbind_ok (hp.put z.1 _ h1), pbind_ok ((hq z.1 h1).put z.2 r h2)]
    rfl
  only b z r h := by
    unfold pbind at h
    split at h
    · rename_i x r1 h1
      dsimp only at h
      split at h
      · rename_i y r2 h2
        cases h
        obtain ⟨k1, k2⟩ := hp.only _ _ _ h1
        obtain ⟨k3, k4⟩ := (hq x k1).only _ _ _ h2
        exact ⟨⟨k1, k3⟩, by dsimp only; rw [List.append_assoc, k4, k2]⟩
      · cases h
    · cases h
  cut z k h hk := by
    obtain ⟨h1, h2⟩ := h
    by_cases hw : k < (w z.1).length
    · rw [List.take_append_of_le_length (by omega), pbind_err (hp.cut z.1 k h1 hw)]
    · rw [List.take_append, List.take_of_length_le (by omega), pbind_ok (hp.put z.1 _ h1)]
      rw [List.length_append] at hk
      rw [pbind_err ((hq z.1 h1).cut z.2 _ h2 (by omega))]

theorem Cod.map {p : Rdg α} {w : α → List UInt8} {ok : α → Prop} (hp : Cod p w ok) (f : α → β) (g : β → α) (ok' : β → Prop) (h1 : ∀ x, ok x → g (f x) = x ∧ ok' (f x)) (h2 : ∀ y, ok' y → ok (g y) ∧ f (g y) = y) :
    Cod (pbind p fun x => ppure (f x)) (fun y => w (g y)) ok' where
  put y r h := by
    rw [pbind_ok (hp.put (g y) r (h2 y h).1), ppure, (h2 y h).2]
  only b y r h := by
    unfold pbind at h
    split at h
    · rename_i x r1 hx
      cases h
      obtain ⟨k1, k2⟩ := hp.only _ _ _ hx
      exact ⟨(h1 x k1).2, by rw [(h1 x k1).1, k2]⟩
    · cases h
  cut y k h hk := by rw [pbind_err (hp.cut (g y) k (h2 y h).1 hk)]

theorem Cod.rep {p : Rdg α} {w : α → List UInt8} {ok : α → Prop} (hp : Cod p w ok) : ∀ n, Cod (pN p n) (cat w) (fun l => l.length = n ∧ ∀ x ∈ l, ok x)
  | 0 => ⟨fun l r h => by obtain rfl := List.length_eq_zero_iff.1 h.1; rfl, fun b l r h => by cases h; simp [cat], fun l k h hk => by obtain rfl := List.length_eq_zero_iff.1 h.1; simp [cat] at hk⟩
  | n + 1 => by
    have ih := hp.rep n
    refine ⟨fun l r h => ?_, fun b l r h => ?_, fun l k h hk => ?_⟩
    · match l, h with
      | x :: l, ⟨h1, h2⟩ =>
        rw [cat_cons, List.append_assoc, pN, pbind_ok (hp.put x _ (h2 x (by simp))), pbind_ok (ih.put l r ⟨by simpa using h1, fun y hy => h2 y (by simp [hy])⟩)]
        rfl
    · unfold pN pbind at h
      split at h
      · rename_i x r1 h1
        dsimp only at h
        split at h
        · rename_i y r2 h2
          cases h
          obtain ⟨k1, k2⟩ := hp.only _ _ _ h1
          obtain ⟨⟨k3, k4⟩, k5⟩ := ih.only _ _ _ h2
          exact ⟨⟨by simp [k3], by simpa using ⟨k1, k4⟩⟩, by rw [cat_cons, List.append_assoc, k5, k2]⟩
        · cases h
      · cases h
    · match l, h with
      | x :: l, ⟨h1, h2⟩ =>
        rw [cat_cons] at hk ⊢
        rw [pN]
        by_cases hw : k < (w x).length
        · rw [List.take_append_of_le_length (by omega), pbind_err (hp.cut x k (h2 x (by simp)) hw)]
        · rw [List.take_append, List.take_of_length_le (by omega), pbind_ok (hp.put x _ (h2 x (by simp)))]
          rw [List.length_append] at hk
          rw [pbind_err (ih.cut l _ ⟨by simpa using h1, fun y hy => h2 y (by simp [hy])⟩ (by omega))]

/-- A taking's own laws. -/
theorem Cod.ofT {t : List UInt8 → α × List UInt8 × Int} {w : α → List UInt8} {ok : α → Prop} (h1 : ∀ x r, ok x → t (w x ++ r) = (x, r, 0)) (h2 : ∀ b, (t b).2.2 = 0 → ok (t b).1 ∧ w (t b).1 ++ (t b).2.1 = b)
    (h3 : ∀ x k, ok x → k < (w x).length → (t ((w x).take k)).2.2 = 2) : Cod (ofT t) w ok where
  put x r h := ofT_ok.2 (h1 x r h)
  only b x r h := by
    rw [ofT_ok] at h
    have := h2 b (by rw [h])
    rwa [h] at this
  cut x k h hk := ofT_err.2 ⟨h3 x k h hk, by decide⟩

theorem Cod.congr {p q : Rdg α} {w v : α → List UInt8} {ok ok' : α → Prop} (h : Cod p w ok) (e1 : ∀ b, q b = p b) (e2 : ∀ x, v x = w x) (e3 : ∀ x, ok' x ↔ ok x) : Cod q v ok' := by
  obtain rfl : q = p := funext e1
  obtain rfl : v = w := funext e2
  obtain rfl : ok' = ok := funext fun x => propext (e3 x)
  exact h
end

end Go.Fw

end

section
/- Transactions, read off bytes: readings, there and back; the reader that notes its first error. Plain laws. -/
namespace Go.Fw
open Go
set_option linter.unusedVariables false
set_option linter.unusedSimpArgs false

def t32 (b : List UInt8) : UInt32 × List UInt8 × Int := (UInt32.ofNat (num (spA b 4)), spB b 4, spE b 4)
def t64 (b : List UInt8) : UInt64 × List UInt8 × Int := (UInt64.ofNat (num (spA b 8)), spB b 8, spE b 8)
def hOf (l : List UInt8) : H32 := if h : l.length = 32 then ⟨l, h⟩ else zH
def tH (b : List UInt8) : H32 × List UInt8 × Int := (hOf (spA b 32), spB b 32, spE b 32)
def tScr (b : List UInt8) : List UInt8 × List UInt8 × Int := lim b 1000
def tWit (b : List UInt8) : List (List UInt8) × List UInt8 × Int := lst b 30 1000
def tCnt (m : Nat) (b : List UInt8) : Nat × List UInt8 × Int := bnd b m
/-- The document's: what is left stays behind a count that is too large. -/
def tCntD (m : Nat) (b : List UInt8) : Nat × List UInt8 × Int := if (sz b).2.2 = 0 ∧ m < (sz b).1 then (0, (sz b).2.1, 4) else if (sz b).2.2 ≠ 0 then (0, (sz b).2.1, (sz b).2.2) else ((sz b).1, (sz b).2.1, 0)

theorem u32_num (l : List UInt8) (h : l.length ≤ 4) : ((UInt32.ofNat (num l)).toNat : Int) = (num l : Int) := by
  have := num_lt4 l h
  rw [UInt32.toNat_ofNat']; omega
theorem u64_num (l : List UInt8) (h : l.length ≤ 8) : ((UInt64.ofNat (num l)).toNat : Int) = (num l : Int) := by
  have := num_lt8 l h
  rw [UInt64.toNat_ofNat']; omega

theorem codN32 : Cod (ofT t32) (fun x => le 4 (x.toNat : Int)) (fun _ => True) := by
  refine Cod.ofT (fun x r _ => ?_) (fun b h => ⟨trivial, ?_⟩) (fun x k _ hk => ?_)
  · have hl := le_len 4 (x.toNat : Int)
    have a := spA_app (le 4 (x.toNat : Int)) r
    have b := spB_app (le 4 (x.toNat : Int)) r
    have c := spE_app (le 4 (x.toNat : Int)) r
    rw [hl] at a b c
    have hx := x.toNat_lt
    have hn := num_le 4 (x.toNat : Int) (by omega) (by simp; omega)
    have hn' : num (le 4 (x.toNat : Int)) = x.toNat := by omega
    show (UInt32.ofNat (num (spA (le 4 (x.toNat : Int) ++ r) ((4 : Nat) : Int))), spB (le 4 (x.toNat : Int) ++ r) ((4 : Nat) : Int), spE (le 4 (x.toNat : Int) ++ r) ((4 : Nat) : Int)) = (x, r, 0)
    rw [a, b, c, hn']
    exact Prod.ext (UInt32.ofNat_toNat ..) rfl
  · obtain ⟨h1, h2, h3⟩ := sp_ok (b := b) (n := 4) h
    show le 4 ((UInt32.ofNat (num (spA b 4))).toNat : Int) ++ spB b 4 = b
    rw [u32_num _ (by omega)]
    have := le_num (spA b 4)
    rw [show (spA b 4).length = 4 by omega] at this
    rw [this, h2]
  · rw [le_len] at hk
    have : ∀ n : Int, (((le 4 (x.toNat : Int)).take k).length : Int) < n → spE ((le 4 (x.toNat : Int)).take k) n = 2 := fun n h => (sp_cut h).1
    exact this 4 (by simp [le_len]; omega)
theorem codN64 : Cod (ofT t64) (fun x => le 8 (x.toNat : Int)) (fun _ => True) := by
  refine Cod.ofT (fun x r _ => ?_) (fun b h => ⟨trivial, ?_⟩) (fun x k _ hk => ?_)
  · have hl := le_len 8 (x.toNat : Int)
    have a := spA_app (le 8 (x.toNat : Int)) r
    have b := spB_app (le 8 (x.toNat : Int)) r
    have c := spE_app (le 8 (x.toNat : Int)) r
    rw [hl] at a b c
    have hx := x.toNat_lt
    have hn := num_le 8 (x.toNat : Int) (by omega) (by simp; omega)
    have hn' : num (le 8 (x.toNat : Int)) = x.toNat := by omega
    show (UInt64.ofNat (num (spA (le 8 (x.toNat : Int) ++ r) ((8 : Nat) : Int))), spB (le 8 (x.toNat : Int) ++ r) ((8 : Nat) : Int), spE (le 8 (x.toNat : Int) ++ r) ((8 : Nat) : Int)) = (x, r, 0)
    rw [a, b, c, hn']
    exact Prod.ext (UInt64.ofNat_toNat ..) rfl
  · obtain ⟨h1, h2, h3⟩ := sp_ok (b := b) (n := 8) h
    show le 8 ((UInt64.ofNat (num (spA b 8))).toNat : Int) ++ spB b 8 = b
    rw [u64_num _ (by omega)]
    have := le_num (spA b 8)
    rw [show (spA b 8).length = 8 by omega] at this
    rw [this, h2]
  · rw [le_len] at hk
    have : ∀ n : Int, (((le 8 (x.toNat : Int)).take k).length : Int) < n → spE ((le 8 (x.toNat : Int)).take k) n = 2 := fun n h => (sp_cut h).1
    exact this 8 (by simp [le_len]; omega)
theorem cH : Cod (ofT tH) (fun x => x.1) (fun _ => True) := by
  refine Cod.ofT (fun x r _ => ?_) (fun b h => ⟨trivial, ?_⟩) (fun x k _ hk => ?_)
  · have hl := x.2
    have a := spA_app x.1 r
    have b := spB_app x.1 r
    have c := spE_app x.1 r
    rw [hl] at a b c
    show (hOf (spA (x.1 ++ r) ((32 : Nat) : Int)), spB (x.1 ++ r) ((32 : Nat) : Int), spE (x.1 ++ r) ((32 : Nat) : Int)) = (x, r, 0)
    rw [a, b, c]
    exact Prod.ext (by unfold hOf; rw [dif_pos hl]) rfl
  · obtain ⟨h1, h2, h3⟩ := sp_ok (b := b) (n := 32) h
    show (hOf (spA b 32)).1 ++ spB b 32 = b
    unfold hOf
    rw [dif_pos (by omega), h2]
  · rw [x.2] at hk
    have : ∀ n : Int, ((x.1.take k).length : Int) < n → spE (x.1.take k) n = 2 := fun n h => (sp_cut h).1
    exact this 32 (by simp [x.2]; omega)

theorem lim_most {b : List UInt8} {most : Int} (h : (lim b most).2.2 = 0) : ((lim b most).1.length : Int) ≤ most := by
  unfold lim at h ⊢
  split at h
  · rename_i hn; exact absurd h hn
  · rename_i hn
    rw [if_neg hn]
    obtain ⟨q1, q2, q3⟩ := sp_ok (b := (bnd b most).2.1) (n := (bnd b most).1) h
    have := (bnd_only (b := b) (most := most) (by simpa using hn)).2
    simp only; omega
theorem tkF_most {most : Int} : ∀ (n : Nat) (acc : List (List UInt8)) (b : List UInt8), (tkF most n acc b).2.2 = 0 → (∀ x ∈ acc, (x.length : Int) ≤ most) → ∀ x ∈ (tkF most n acc b).1, (x.length : Int) ≤ most
  | 0, acc, b, h, ha => ha
  | n + 1, acc, b, h, ha => by
    rw [tkF_succ] at h ⊢
    split at h
    · rename_i hn; exact absurd h hn
    · rename_i hn
      rw [if_neg hn]
      refine tkF_most n _ _ h fun x hx => ?_
      rcases List.mem_append.1 hx with hx | hx
      · exact ha x hx
      · rw [List.mem_singleton.1 hx]; exact lim_most (by simpa using hn)
theorem lst_most {b : List UInt8} {many most : Int} (h : (lst b many most).2.2 = 0) : ∀ x ∈ (lst b many most).1, (x.length : Int) ≤ most := by
  unfold lst at h ⊢
  split at h
  · rename_i hn; exact absurd h hn
  · rename_i hn
    rw [if_neg hn]
    exact tkF_most _ _ _ h (by simp)

theorem cLim (most : Nat) (hm : (most : Int) ≤ 9223372036854775807) : Cod (ofT fun b => lim b most) (fun x => sizeB x.length ++ x) (fun x => x.length ≤ most) := by
  refine Cod.ofT (fun x r h => lim_put r (by omega) hm) (fun b h => ⟨?_, lim_only h⟩) (fun x k h hk => ?_)
  · have := lim_most h; omega
  · rw [lim_cut (by omega) hm hk]
theorem cLst (many most : Nat) (hm : (many : Int) ≤ 9223372036854775807) (hm2 : (most : Int) ≤ 9223372036854775807) : Cod (ofT fun b => lst b many most) (fun x => sizeB x.length ++ flat x) (fun x => x.length ≤ many ∧ ∀ y ∈ x, y.length ≤ most) := by
  refine Cod.ofT (fun x r h => lst_put r (by have := h.1; omega) hm hm2 fun y hy => by have := h.2 y hy; omega) (fun b h => ⟨⟨?_, fun y hy => ?_⟩, (lst_only h).2⟩) (fun x k h hk => ?_)
  · have := (lst_only h).1; omega
  · have := lst_most h y hy; omega
  · rw [lst_cut (by have := h.1; omega) hm hm2 (fun y hy => by have := h.2 y hy; omega) hk]
theorem cScr : Cod (ofT tScr) (fun x => sizeB x.length ++ x) (fun x => x.length ≤ 1000) := cLim 1000 (by omega)
theorem cWit : Cod (ofT tWit) (fun x => sizeB x.length ++ flat x) (fun x => x.length ≤ 30 ∧ ∀ y ∈ x, y.length ≤ 1000) := cLst 30 1000 (by omega) (by omega)
theorem cCnt (m : Nat) (hm : (m : Int) ≤ 9223372036854775807) : Cod (ofT (tCnt m)) (fun n => sizeB (n : Nat)) (fun n => n ≤ m) := by
  refine Cod.ofT (fun x r h => ?_) (fun b h => ⟨?_, (bnd_only h).1⟩) (fun x k h hk => ?_)
  · have := bnd_put (n := x) (most := m) r (by omega) (by omega) hm
    exact this
  · have := (bnd_only h).2; show (bnd b m).1 ≤ m; omega
  · show (bnd _ _).2.2 = 2
    rw [bnd_cut (by omega) hk]
theorem ofT_cntD (m : Nat) : ofT (tCntD m) = ofT (tCnt m) := by
  funext b
  unfold ofT
  by_cases h1 : (sz b).2.2 = 0
  · by_cases h2 : m < (sz b).1
    · have e1 : tCntD m b = (0, (sz b).2.1, 4) := by unfold tCntD; rw [if_pos ⟨h1, h2⟩]
      have e2 : tCnt m b = (0, [], 4) := by unfold tCnt bnd; rw [if_neg (by simpa using h1), if_pos (Or.inr (by omega))]
      rw [e1, e2]; simp
    · have e1 : tCntD m b = ((sz b).1, (sz b).2.1, 0) := by unfold tCntD; rw [if_neg (fun h => h2 h.2), if_neg (by simpa using h1)]
      have e2 : tCnt m b = ((sz b).1, (sz b).2.1, 0) := by unfold tCnt bnd; rw [if_neg (by simpa using h1), if_neg (by omega)]
      rw [e1, e2]
  · have e1 : tCntD m b = (0, (sz b).2.1, (sz b).2.2) := by unfold tCntD; rw [if_neg (fun h => h1 h.1), if_pos h1]
    have e2 : tCnt m b = (0, [], (sz b).2.2) := by unfold tCnt bnd; rw [if_pos h1]
    rw [e1, e2]; simp [h1]

/-! ### The reader's parts: the program's (P) and the document's. -/
variable {α : Type}
def rdX (P : Bool) (t : List UInt8 → α × List UInt8 × Int) (d : α) (s : RSt) : α × RSt := if P then rd t d s else rdD t d s
theorem goodX (P : Bool) (t : List UInt8 → α × List UInt8 × Int) (d : α) : Good (rdX P t d) (ofT t) := by
  cases P
  · exact Good.rdD t d
  · exact Good.rd t d
theorem rdX_len {P : Bool} {t : List UInt8 → α × List UInt8 × Int} {d : α} {s : RSt} (h : ∀ b, (t b).2.1.length ≤ b.length) : (rdX P t d s).2.b.length ≤ s.b.length := by
  unfold rdX
  have := h s.b
  cases P
  · simp only [Bool.false_eq_true, if_false]; unfold rdD; split
    · exact Nat.le_refl _
    · exact this
  · simp only [if_true]; unfold rd; split
    · exact Nat.le_refl _
    · split
      · exact Nat.le_refl _
      · exact this
def rdCnt (P : Bool) (m : Nat) (s : RSt) : Nat × RSt := rdX P (if P then tCnt m else tCntD m) 0 s
theorem goodCnt (P : Bool) (m : Nat) : Good (rdCnt P m) (ofT (tCnt m)) := by
  cases P
  · have := goodX false (tCntD m) 0; rw [ofT_cntD] at this; exact this
  · exact goodX true (tCnt m) 0
theorem t32_len (b : List UInt8) : (t32 b).2.1.length ≤ b.length := spB_len b 4
theorem t64_len (b : List UInt8) : (t64 b).2.1.length ≤ b.length := spB_len b 8
theorem tH_len (b : List UInt8) : (tH b).2.1.length ≤ b.length := spB_len b 32
theorem tScr_len (b : List UInt8) : (tScr b).2.1.length ≤ b.length := (lim_len _ _).2
theorem tkF_len {most : Int} : ∀ (n : Nat) (acc : List (List UInt8)) (b : List UInt8), (tkF most n acc b).2.1.length ≤ b.length
  | 0, acc, b => Nat.le_refl _
  | n + 1, acc, b => by
    rw [tkF_succ]
    split
    · simp
    · have := tkF_len n (acc ++ [(lim b most).1]) (lim b most).2.1 (most := most)
      have := (lim_len b most).2
      omega
theorem lst_len (b : List UInt8) (many most : Int) : (lst b many most).2.1.length ≤ b.length := by
  unfold lst
  split
  · simp
  · have := tkF_len (bnd b many).1 [] (bnd b many).2.1 (most := most)
    have := bnd_len b many
    omega
theorem tWit_len (b : List UInt8) : (tWit b).2.1.length ≤ b.length := lst_len _ _ _
theorem tCnt_len (P : Bool) (m : Nat) (b : List UInt8) : ((if P then tCnt m else tCntD m) b).2.1.length ≤ b.length := by
  cases P
  · show (tCntD m b).2.1.length ≤ _
    have := sz_len b
    unfold tCntD; repeat' split
    all_goals exact this
  · exact bnd_len _ _
theorem cnt_len {P : Bool} {m : Nat} {s : RSt} : (rdCnt P m s).2.b.length ≤ s.b.length := rdX_len (tCnt_len P m)
theorem cnt_most (P : Bool) (m : Nat) (s : RSt) : (rdCnt P m s).1 ≤ m := by
  cases P
  · show (rdD (tCntD m) 0 s).1 ≤ m
    unfold rdD; split
    · exact Nat.zero_le _
    · show (tCntD m s.b).1 ≤ m
      unfold tCntD; repeat' split
      all_goals first | exact Nat.zero_le _ | (dsimp only; omega)
  · show (rd (tCnt m) 0 s).1 ≤ m
    unfold rd; repeat' split
    all_goals first | exact Nat.zero_le _ | skip
    rename_i h1 h2
    have := (bnd_only (b := s.b) (most := m) (Classical.not_not.1 h2)).2
    show (bnd s.b m).1 ≤ m
    omega

def bIn (a : H32 × UInt32 × UInt32) : TIn := ⟨a.1, a.2.1, a.2.2, []⟩
def rdIn (P : Bool) (s : RSt) : TIn × RSt :=
  (⟨(rdX P tH zH s).1, (rdX P t32 0 (rdX P tH zH s).2).1, (rdX P t32 0 (rdX P t32 0 (rdX P tH zH s).2).2).1, []⟩, (rdX P t32 0 (rdX P t32 0 (rdX P tH zH s).2).2).2)
def rdOut (P : Bool) (s : RSt) : TOut × RSt := (⟨(rdX P t64 0 s).1, (rdX P tScr [] (rdX P t64 0 s).2).1⟩, (rdX P tScr [] (rdX P t64 0 s).2).2)
def rdWit (P : Bool) (s : RSt) : List (List UInt8) × RSt := rdX P tWit [] s
/-- The inputs with their witnesses. -/
def wits : List TIn → List (List (List UInt8)) → List TIn
  | x :: l, w :: k => ⟨x.prev, x.idx, x.seq, w⟩ :: wits l k
  | l, _ => l
def rdTx (P : Bool) (s : RSt) : TTx × RSt :=
  let v := rdX P t32 0 s
  let n := rdCnt P 20 v.2
  let is := rdN (rdIn P) n.1 n.2
  let m := rdCnt P 20 is.2
  let os := rdN (rdOut P) m.1 m.2
  let k := rdX P t32 0 os.2
  let ws := rdN (rdWit P) is.1.length k.2
  (⟨v.1, wits is.1 ws.1, os.1, k.1⟩, ws.2)

def pIn : Rdg TIn := pbind (ofT tH) fun h => pbind (ofT t32) fun i => pbind (ofT t32) fun q => ppure ⟨h, i, q, []⟩
def pOut : Rdg TOut := pbind (ofT t64) fun v => pbind (ofT tScr) fun x => ppure ⟨v, x⟩
def pTx : Rdg TTx := pbind (ofT t32) fun v => pbind (ofT (tCnt 20)) fun n => pbind (pN pIn n) fun is => pbind (ofT (tCnt 20)) fun m => pbind (pN pOut m) fun os => pbind (ofT t32) fun k => pbind (pN (ofT tWit) is.length) fun ws => ppure ⟨v, wits is ws, os, k⟩

theorem goodIn (P : Bool) : Good (rdIn P) pIn :=
  (goodX P tH zH).bind (g := fun h s => (TIn.mk h (rdX P t32 0 s).1 (rdX P t32 0 (rdX P t32 0 s).2).1 [], (rdX P t32 0 (rdX P t32 0 s).2).2)) fun h =>
    (goodX P t32 0).bind (g := fun i s => (TIn.mk h i (rdX P t32 0 s).1 [], (rdX P t32 0 s).2)) fun i =>
      (goodX P t32 0).bind (g := fun q s => (TIn.mk h i q [], s)) fun q => Good.pure _
theorem goodOut (P : Bool) : Good (rdOut P) pOut :=
  (goodX P t64 0).bind (g := fun v s => (TOut.mk v (rdX P tScr [] s).1, (rdX P tScr [] s).2)) fun v =>
    (goodX P tScr []).bind (g := fun x s => (TOut.mk v x, s)) fun x => Good.pure _
theorem goodTx (P : Bool) : Good (rdTx P) pTx :=
  (goodX P t32 0).bind (g := fun v s =>
    let n := rdCnt P 20 s
    let is := rdN (rdIn P) n.1 n.2
    let m := rdCnt P 20 is.2
    let os := rdN (rdOut P) m.1 m.2
    let k := rdX P t32 0 os.2
    let ws := rdN (rdWit P) is.1.length k.2
    (TTx.mk v (wits is.1 ws.1) os.1 k.1, ws.2)) fun v =>
  (goodCnt P 20).bind (g := fun n s =>
    let is := rdN (rdIn P) n s
    let m := rdCnt P 20 is.2
    let os := rdN (rdOut P) m.1 m.2
    let k := rdX P t32 0 os.2
    let ws := rdN (rdWit P) is.1.length k.2
    (TTx.mk v (wits is.1 ws.1) os.1 k.1, ws.2)) fun n =>
  ((goodIn P).rep n).bind (g := fun is s =>
    let m := rdCnt P 20 s
    let os := rdN (rdOut P) m.1 m.2
    let k := rdX P t32 0 os.2
    let ws := rdN (rdWit P) is.length k.2
    (TTx.mk v (wits is ws.1) os.1 k.1, ws.2)) fun is =>
  (goodCnt P 20).bind (g := fun m s =>
    let os := rdN (rdOut P) m s
    let k := rdX P t32 0 os.2
    let ws := rdN (rdWit P) is.length k.2
    (TTx.mk v (wits is ws.1) os.1 k.1, ws.2)) fun m =>
  ((goodOut P).rep m).bind (g := fun os s =>
    let k := rdX P t32 0 s
    let ws := rdN (rdWit P) is.length k.2
    (TTx.mk v (wits is ws.1) os k.1, ws.2)) fun os =>
  (goodX P t32 0).bind (g := fun k s =>
    let ws := rdN (rdWit P) is.length s
    (TTx.mk v (wits is ws.1) os k, ws.2)) fun k =>
  ((goodX P tWit []).rep is.length).bind (g := fun ws s => (TTx.mk v (wits is ws) os k, s)) fun ws => Good.pure _

/-! ### There and back. -/
def pPair {β : Type} (p : Rdg α) (q : α → Rdg β) : Rdg (α × β) := pbind p fun x => pbind (q x) fun y => ppure (x, y)
theorem pbind_assoc {β γ : Type} (p : Rdg α) (q : α → Rdg β) (r : β → Rdg γ) : pbind (pbind p q) r = pbind p fun x => pbind (q x) r := by
  funext b
  unfold pbind
  cases p b <;> rfl
theorem pbind_pure {β : Type} (x : α) (q : α → Rdg β) : pbind (ppure x) q = q x := rfl
theorem wits_split : ∀ (l : List TIn), (∀ x ∈ l, x.wit = x.wit) → wits (l.map fun x => ⟨x.prev, x.idx, x.seq, []⟩) (l.map TIn.wit) = l
  | [], _ => rfl
  | x :: l, h => by simp only [List.map_cons, wits]; rw [wits_split l fun _ _ => rfl]
theorem wits_map : ∀ (l : List TIn) (k : List (List (List UInt8))), l.length = k.length → (∀ x ∈ l, x.wit = []) → ((wits l k).map fun x : TIn => (⟨x.prev, x.idx, x.seq, []⟩ : TIn)) = l ∧ (wits l k).map TIn.wit = k
  | [], [], _, _ => ⟨rfl, rfl⟩
  | [], _ :: _, h, _ => by simp at h
  | _ :: _, [], h, _ => by simp at h
  | x :: l, w :: k, h, hw => by
    obtain ⟨h1, h2⟩ := wits_map l k (by simpa using h) fun y hy => hw y (by simp [hy])
    have h3 := hw x (by simp)
    obtain ⟨a, b, c, d⟩ := x
    dsimp only at h3
    subst h3
    simp only [wits, List.map_cons, h1, h2]
    exact ⟨trivial, trivial⟩
theorem wits_len : ∀ (l : List TIn) (k : List (List (List UInt8))), (wits l k).length = l.length
  | [], _ => by simp [wits]
  | _ :: _, [] => by simp [wits]
  | x :: l, w :: k => by simp [wits, wits_len l k]

abbrev TxTup := UInt32 × Nat × List TIn × Nat × List TOut × UInt32 × List (List (List UInt8))
theorem cIn : Cod pIn tInB (fun x => x.wit = []) := by
  have := (Cod.pair cH fun _ _ => Cod.pair codN32 fun _ _ => codN32).map (fun z => (⟨z.1, z.2.1, z.2.2, []⟩ : TIn)) (fun x => (x.prev, x.idx, x.seq)) (fun x => x.wit = [])
    (fun z _ => ⟨rfl, rfl⟩) (fun x h => ⟨⟨trivial, trivial, trivial⟩, by obtain ⟨a, b, c, d⟩ := x; dsimp only at h; subst h; rfl⟩)
  refine this.congr (fun b => ?_) (fun x => ?_) (fun x => Iff.rfl)
  · simp only [pIn, pbind_assoc, pbind_pure]
  · simp only [tInB, List.append_assoc]
theorem cOut : Cod pOut tOutB (fun x => scrOk x = true) := by
  have := (Cod.pair codN64 fun _ _ => cScr).map (fun z => (⟨z.1, z.2⟩ : TOut)) (fun x => (x.val, x.scr)) (fun x => scrOk x = true)
    (fun z h => ⟨rfl, by simpa [scrOk] using h.2⟩) (fun x h => ⟨⟨trivial, by simpa [scrOk] using h⟩, rfl⟩)
  refine this.congr (fun b => ?_) (fun x => ?_) (fun x => Iff.rfl)
  · simp only [pOut, pbind_assoc, pbind_pure]
  · simp only [tOutB]
theorem cTx : Cod pTx wholeB (fun t => countsB t = true) := by
  have := (Cod.pair codN32 fun v _ => Cod.pair (cCnt 20 (by omega)) fun n _ => Cod.pair (cIn.rep n) fun is _ => Cod.pair (cCnt 20 (by omega)) fun m _ => Cod.pair (cOut.rep m) fun os _ => Cod.pair codN32 fun k _ => cWit.rep is.length).map
    (fun z => (⟨z.1, wits z.2.2.1 z.2.2.2.2.2.2, z.2.2.2.2.1, z.2.2.2.2.2.1⟩ : TTx))
    (fun t => (t.ver, t.ins.length, t.ins.map (fun x => ⟨x.prev, x.idx, x.seq, []⟩), t.outs.length, t.outs, t.lock, t.ins.map TIn.wit)) (fun t => countsB t = true) ?_ ?_
  · refine this.congr (fun b => ?_) (fun t => ?_) (fun x => Iff.rfl)
    · simp only [pTx, pbind_assoc, pbind_pure]
    · have e1 : cat tInB (t.ins.map (fun x => (⟨x.prev, x.idx, x.seq, []⟩ : TIn))) = cat tInB t.ins := by
        unfold cat; rw [List.map_map]; rfl
      have e2 : cat (fun x : List (List UInt8) => sizeB x.length ++ flat x) (t.ins.map TIn.wit) = cat witB t.ins := by
        unfold cat; rw [List.map_map]; rfl
      dsimp only
      rw [e1, e2]
      simp only [wholeB, bareB, List.append_assoc]
  · rintro ⟨v, n, is, m, os, k, ws⟩ ⟨_, h1, ⟨h2, h3⟩, h4, ⟨h5, h6⟩, _, h7, h8⟩
    dsimp only at h1 h2 h3 h4 h5 h6 h7 h8 ⊢
    obtain ⟨e1, e2⟩ := wits_map is ws h7.symm h3
    refine ⟨by rw [wits_len, e1, e2, h2, h5], ?_⟩
    have : ∀ x ∈ wits is ws, x.wit.length ≤ 30 ∧ ∀ y ∈ x.wit, y.length ≤ 1000 := fun x hx => h8 x.wit (by rw [← e2]; exact List.mem_map_of_mem hx)
    simp only [countsB, wits_len, Bool.and_eq_true, decide_eq_true_eq, List.all_eq_true, witOk]
    exact ⟨⟨⟨by omega, by omega⟩, h6⟩, this⟩
  · intro t h
    simp only [countsB, Bool.and_eq_true, decide_eq_true_eq, List.all_eq_true, witOk] at h
    obtain ⟨⟨⟨h1, h2⟩, h3⟩, h4⟩ := h
    refine ⟨⟨trivial, h1, ⟨by simp, by simp⟩, h2, ⟨rfl, h3⟩, trivial, by simp, ?_⟩, ?_⟩
    · intro w hw
      obtain ⟨x, hx, rfl⟩ := List.mem_map.1 hw
      exact h4 x hx
    · rw [wits_split _ fun _ _ => rfl]

/-! ### Taking a transaction. -/
def takTx (b : List UInt8) : Res TTx := match pTx b with
  | .ok t r => if b.length - r.length ≤ 12000 then .ok t r else .err 4
  | .err e => .err e
def decTx (b : List UInt8) : Res TTx := match takTx b with
  | .ok t r => if r = [] then .ok t [] else .err 3
  | .err e => .err e
theorem takTx_put {t : TTx} (r : List UInt8) (h : fitsB t = true) : takTx (wholeB t ++ r) = .ok t r := by
  simp only [fitsB, Bool.and_eq_true, decide_eq_true_eq] at h
  unfold takTx
  rw [cTx.put t r h.1]
  dsimp only
  rw [if_pos (by simp; omega)]
theorem takTx_only {b r : List UInt8} {t : TTx} (h : takTx b = .ok t r) : fitsB t = true ∧ wholeB t ++ r = b := by
  unfold takTx at h
  split at h
  · rename_i t' r' h1
    split at h
    · rename_i h2
      cases h
      obtain ⟨k1, k2⟩ := cTx.only _ _ _ h1
      refine ⟨?_, k2⟩
      simp only [fitsB, Bool.and_eq_true, decide_eq_true_eq]
      refine ⟨k1, ?_⟩
      rw [← k2] at h2
      simp at h2; omega
    · cases h
  · cases h
theorem takTx_cut {t : TTx} {k : Nat} (h : fitsB t = true) (hk : k < (wholeB t).length) : takTx ((wholeB t).take k) = .err 2 := by
  simp only [fitsB, Bool.and_eq_true, decide_eq_true_eq] at h
  unfold takTx
  rw [cTx.cut t k h.1 hk]
theorem takTx_err {b : List UInt8} {e : Int} (h : takTx b = .err e) : e ≠ 0 := by
  unfold takTx at h
  split at h
  · split at h
    · cases h
    · cases h; decide
  · rename_i e' h1
    cases h
    exact ((goodTx true).err b _ h1).1
theorem decTx_ok {b r : List UInt8} {t : TTx} (h : decTx b = .ok t r) : fitsB t = true ∧ wholeB t = b ∧ r = [] := by
  unfold decTx at h
  split at h
  · rename_i t' r' h1
    split at h
    · rename_i hr
      cases h
      obtain ⟨k1, k2⟩ := takTx_only h1
      subst hr
      exact ⟨k1, by simpa using k2, rfl⟩
    · cases h
  · cases h
theorem decTx_put {t : TTx} (h : fitsB t = true) : decTx (wholeB t) = .ok t [] := by
  have := takTx_put [] h
  rw [List.append_nil] at this
  unfold decTx
  rw [this]
  dsimp only
  rw [if_pos rfl]
theorem decTx_more {t : TTx} {x : UInt8} {r : List UInt8} (h : fitsB t = true) : decTx (wholeB t ++ x :: r) = .err 3 := by
  unfold decTx
  rw [takTx_put _ h]
  dsimp only
  rw [if_neg (by simp)]
theorem decTx_err {b : List UInt8} {e : Int} (h : decTx b = .err e) : e ≠ 0 := by
  unfold decTx at h
  split at h
  · split at h
    · cases h
    · cases h; decide
  · rename_i e' h1
    cases h
    exact takTx_err h1
theorem fits_chk {t : TTx} (h : fitsB t = true) : chkE t = 0 := if_pos h
theorem nfits_chk {t : TTx} (h : fitsB t = false) : chkE t = 4 := if_neg (by simp [h])

end Go.Fw

end

section
/- Lists gone through one by one: all, the first, alike. Plain laws. -/
namespace Go.Fw
open Go
set_option linter.unusedVariables false
set_option linter.unusedSimpArgs false
variable {α : Type}

theorem all_take (p : α → Bool) (d : α) (l : List α) (k : Nat) (h : k < l.length) : (l.take (k + 1)).all p = ((l.take k).all p && p (l.getD k d)) := by
  rw [take_getDx d l k h]; simp
theorem all_getD (p : α → Bool) (d : α) (l : List α) (k : Nat) (h : k < l.length) (hp : p (l.getD k d) = false) : l.all p = false := by
  have hm : l.getD k d ∈ l := by simp [h]
  cases e : l.all p with
  | false => rfl
  | true =>
    rw [List.all_eq_true] at e
    have h9 := e _ hm
    rw [hp] at h9; cases h9
theorem drop_getD (d : α) (l : List α) (k : Nat) (h : k < l.length) : l.drop k = l.getD k d :: l.drop (k + 1) := by
  rw [List.drop_eq_getElem_cons h]; simp [h]

/-- The place of the first one; -1: there is none. -/
def fstI (p : α → Bool) : List α → Nat → Int
  | [], _ => -1
  | x :: l, k => if p x = true then (k : Int) else fstI p l (k + 1)
theorem fstI_any (p : α → Bool) : ∀ (l : List α) (k : Nat), decide (0 ≤ fstI p l k) = l.any p
  | [], k => rfl
  | x :: l, k => by
    unfold fstI
    rw [List.any_cons]
    cases p x
    · simp only [Bool.false_eq_true, if_false, Bool.false_or]; exact fstI_any p l (k + 1)
    · simp only [if_true, Bool.true_or]; simp
theorem fstI_yes (p : α → Bool) (d : α) (l : List α) (k : Nat) (h : k < l.length) (hp : p (l.getD k d) = true) : fstI p (l.drop k) k = (k : Int) := by
  rw [drop_getD d l k h, fstI, if_pos hp]
theorem fstI_no (p : α → Bool) (d : α) (l : List α) (k : Nat) (h : k < l.length) (hp : p (l.getD k d) = false) : fstI p (l.drop k) k = fstI p (l.drop (k + 1)) (k + 1) := by
  rw [drop_getD d l k h, fstI, if_neg (by rw [hp]; exact Bool.false_ne_true)]
theorem fstI_end (p : α → Bool) (l : List α) : fstI p (l.drop l.length) l.length = -1 := by rw [List.drop_length]; rfl

theorem getD_ne (d : α) {l m : List α} (k : Nat) (h : l.getD k d ≠ m.getD k d) : l ≠ m := fun e => h (by rw [e])
theorem take_eq_succ (d : α) {l m : List α} {k : Nat} (h1 : k < l.length) (h2 : k < m.length) (h : l.take k = m.take k) (e : l.getD k d = m.getD k d) : l.take (k + 1) = m.take (k + 1) := by
  rw [take_getDx d l k h1, take_getDx d m k h2, h, e]
theorem take_eq_all {l m : List α} (hl : l.length = m.length) (h : l.take l.length = m.take l.length) : l = m := by
  rw [List.take_length, hl, List.take_length] at h; exact h

def longB (x : List UInt8) : Bool := decide (1000 < (x.length : Int))
theorem scrOk_long (x : TOut) : scrOk x = !longB x.scr := by
  unfold scrOk longB
  by_cases h : x.scr.length ≤ 1000
  · have : ¬ (1000 < (x.scr.length : Int)) := by omega
    simp [h, this]
  · have : (1000 < (x.scr.length : Int)) := by omega
    simp [h, this]
theorem witOk_long (x : TIn) : witOk x = (!(decide (30 < (x.wit.length : Int)) || x.wit.any longB)) := by
  unfold witOk
  have e1 : decide (x.wit.length ≤ 30) = !decide (30 < (x.wit.length : Int)) := by
    by_cases h : x.wit.length ≤ 30
    · have : ¬ (30 < (x.wit.length : Int)) := by omega
      simp [h, this]
    · have : (30 < (x.wit.length : Int)) := by omega
      simp [h, this]
  have e2 : (x.wit.all fun y => decide (y.length ≤ 1000)) = !x.wit.any longB := by
    rw [List.not_any_eq_all_not]
    congr 1
    funext y
    exact scrOk_long ⟨0, y⟩
  rw [e1, e2, Bool.not_or]
theorem countsB_eq (t : TTx) : countsB t = (decide (t.ins.length ≤ 20) && decide (t.outs.length ≤ 20) && t.outs.all scrOk && t.ins.all witOk) := rfl

theorem wits_nil (l : List TIn) : wits l [] = l := by cases l <;> rfl
theorem wits_at : ∀ (l : List TIn) (k : List (List (List UInt8))), k.length < l.length → (wits l k).getD k.length dIn = l.getD k.length dIn
  | [], _, h => by simp at h
  | x :: l, [], h => by rw [wits_nil]
  | x :: l, w :: k, h => by
    simp only [wits, List.length_cons, List.getD_cons_succ]
    exact wits_at l k (by simpa using h)
theorem wits_snoc : ∀ (l : List TIn) (k : List (List (List UInt8))) (w : List (List UInt8)), k.length < l.length → (wits l k).set k.length ⟨(l.getD k.length dIn).prev, (l.getD k.length dIn).idx, (l.getD k.length dIn).seq, w⟩ = wits l (k ++ [w])
  | [], _, _, h => by simp at h
  | x :: l, [], w, h => by rw [wits_nil]; simp [wits, wits_nil]
  | x :: l, v :: k, w, h => by
    simp only [wits, List.length_cons, List.getD_cons_succ, List.set_cons_succ, List.cons_append]
    rw [wits_snoc l k w (by simpa using h)]
theorem wits_set (l : List TIn) (k : List (List (List UInt8))) (w : List (List UInt8)) (i : Nat) (hi : k.length = i) (h : i < l.length) :
    ((wits l k).map inT).getD i default = inT ⟨(l.getD i dIn).prev, (l.getD i dIn).idx, (l.getD i dIn).seq, (l.getD i dIn).wit⟩ ∧
    ((wits l k).map inT).set i (inT ⟨(l.getD i dIn).prev, (l.getD i dIn).idx, (l.getD i dIn).seq, w⟩) = (wits l (k ++ [w])).map inT := by
  subst hi
  refine ⟨?_, ?_⟩
  · rw [in_getD _ _ (by rw [wits_len]; exact h), wits_at l k h]
  · rw [← List.map_set, wits_snoc l k w h]

def scrS (x : TOut) : Bool := decide (x.scr.length ≤ 600)
def witS (x : TIn) : Bool := decide (x.wit.length ≤ 6) && x.wit.all fun y => decide (y.length ≤ 600)
theorem smallT_eq (t : TTx) : smallT t = (decide (t.ins.length ≤ 6) && decide (t.outs.length ≤ 6) && t.outs.all scrS && t.ins.all witS) := rfl
theorem small_counts {t : TTx} (h : smallT t = true) : countsB t = true := by
  obtain ⟨h1, h2, h3, h4⟩ := smallT_ok h
  simp only [countsB, Bool.and_eq_true, decide_eq_true_eq, List.all_eq_true, scrOk, witOk]
  exact ⟨⟨⟨by omega, by omega⟩, fun x hx => by have := h3 x hx; omega⟩, fun x hx => ⟨by have := (h4 x hx).1; omega, fun y hy => by have := (h4 x hx).2 y hy; omega⟩⟩
theorem all_get {α : Type} (p : α → Bool) (d : α) (l : List α) (k : Nat) (h : k < l.length) (hl : l.all p = true) : p (l.getD k d) = true := by
  rw [List.all_eq_true] at hl
  exact hl _ (by simp [h])

end Go.Fw

end

section
/- Any order of a region: the rule, also where two operations write no slot. -/
namespace Go.Fw
set_option linter.unusedVariables false
set_option linter.unusedSimpArgs false
open Go

def depOk2 (ops : List Oper) : Bool :=
  (List.range ops.length).all fun j => match ops[j]? with
    | none => true
    | some o => (aft o).all (fun i => decide (i < j)) &&
      (List.range ops.length).all fun i => match ops[i]? with
        | none => true
        | some p => (decide (i = j) || decide (p.dst ≠ o.dst) || p.dst.isNone) &&
          (match p.dst with
            | none => true
            | some d => !((o.looksAt ops.toArray).contains d) || (decide (i < j) && (aft o).contains i) || (decide (j < i) && (aft p).contains j))

theorem depOk2_ok {ops : List Oper} (h : depOk2 ops = true) : DepOk ops := by
  simp only [depOk2, List.all_eq_true, List.mem_range] at h
  have get : ∀ (j : Nat) (o : Oper), ops[j]? = some o → j < ops.length := fun j o hj => (List.getElem?_eq_some_iff.1 hj).1
  refine ⟨fun j o i hj hi => ?_, fun i j p o d hi hj hp ho => ?_, fun i j p o d hi hj hp hd => ?_⟩
  · have := h j (get j o hj)
    rw [hj] at this
    simp only [Bool.and_eq_true, List.all_eq_true] at this
    simpa using this.1 i hi
  · have := h j (get j o hj)
    rw [hj] at this
    simp only [Bool.and_eq_true, List.all_eq_true, List.mem_range] at this
    have := this.2 i (get i p hi)
    rw [hi] at this
    simp only [Bool.and_eq_true, Bool.or_eq_true, decide_eq_true_eq] at this
    rcases this.1 with (h1 | h1) | h1
    · exact h1
    · exact (h1 (by rw [hp, ho])).elim
    · rw [hp] at h1; simp at h1
  · have := h j (get j o hj)
    rw [hj] at this
    simp only [Bool.and_eq_true, List.all_eq_true, List.mem_range] at this
    have := this.2 i (get i p hi)
    rw [hi] at this
    simp only [Bool.and_eq_true, hp] at this
    have h2 := this.2
    have hc : (o.looksAt ops.toArray).contains d = true := by simpa using hd
    rw [hc] at h2
    simp at h2
    rcases h2 with h2 | h2
    · exact .inl h2
    · exact .inr h2

def dOk2 (ops : List Oper) (fs : List Info) : Bool :=
  depOk2 ops && (fs.length == ops.length) && ((List.range ops.length).all fun j => match ops[j]?, fs[j]? with
    | some o, some f => f.looks.all (fun t => (o.looksAt ops.toArray).contains t) &&
      f.anc.all (fun a => (aft o).contains a || (aft o).any fun b => match fs[b]? with | some g => g.anc.contains a | none => false) &&
      (f.cls != 2 || (List.range ops.length).all fun k => (k == j) || match fs[k]? with
        | some g => (g.cls == 0) || (if k < j then f.anc.contains k else g.anc.contains j)
        | none => true) && decide (f.cls ≤ 2)
    | _, _ => false) && fs.all fun f => (f.cls != 0) || f.st.all fun i => fs.all fun g => (g.cls != 2) || g.st.contains i

theorem dOk2_ok {ops : List Oper} {fs : List Info} (h : dOk2 ops fs = true) : DOk ops fs := by
  unfold dOk2 at h
  rw [Bool.and_eq_true] at h
  obtain ⟨h, h5⟩ := h
  simp only [Bool.and_eq_true, beq_iff_eq, List.all_eq_true, List.mem_range] at h
  obtain ⟨⟨h1, h2⟩, h3⟩ := h
  have get : ∀ (j : Nat) (f : Info), fs[j]? = some f → j < ops.length := fun j f hj => by have := (List.getElem?_eq_some_iff.1 hj).1; omega
  have each : ∀ (j : Nat) (o : Oper) (f : Info), ops[j]? = some o → fs[j]? = some f → (((∀ t ∈ f.looks, (o.looksAt ops.toArray).contains t = true) ∧ (∀ a ∈ f.anc, ((aft o).contains a || (aft o).any fun b => match fs[b]? with | some g => g.anc.contains a | none => false) = true)) ∧
      (f.cls != 2 || (List.range ops.length).all fun k => (k == j) || match fs[k]? with
        | some g => (g.cls == 0) || (if k < j then f.anc.contains k else g.anc.contains j)
        | none => true) = true) ∧ f.cls ≤ 2 := by
    intro j o f ho hf
    have := h3 j (get j f hf)
    rw [ho, hf] at this
    simp only [Bool.and_eq_true, List.all_eq_true, decide_eq_true_eq] at this
    exact this
  refine ⟨depOk2_ok h1, h2, fun j o f ho hf t ht => ?_, fun j o f ho hf a ha => ?_, fun j f hf hc k g hg hg0 hkj => ?_, fun j f hj => ?_, fun j f hf hc i hi k g hg hgc => ?_⟩
  · have := (each j o f ho hf).1.1.1 t ht
    simpa using this
  · have := (each j o f ho hf).1.1.2 a ha
    simp only [Bool.or_eq_true, List.any_eq_true] at this
    rcases this with h | ⟨b, hb, h⟩
    · exact .inl (by simpa using h)
    · right
      cases hg : fs[b]? with
      | none => rw [hg] at h; simp at h
      | some g => rw [hg] at h; exact ⟨b, hb, g, hg, by simpa using h⟩
  · have hlt := get j f hf
    have := (each j _ f (List.getElem?_eq_getElem hlt) hf).1.2
    simp only [Bool.or_eq_true, bne_iff_ne, ne_eq, List.all_eq_true, List.mem_range, beq_iff_eq] at this
    rcases this with h | h
    · exact (h hc).elim
    · have h4 := h k (get k g hg)
      rcases h4 with h4 | h4
      · exact (hkj h4).elim
      · rw [hg] at h4
        simp only [Bool.or_eq_true, beq_iff_eq] at h4
        rcases h4 with h4 | h4
        · exact (hg0 h4).elim
        · split at h4
          · rename_i hlt'; exact .inl ⟨hlt', by simpa using h4⟩
          · exact .inr ⟨by omega, by simpa using h4⟩
  · have hlt := get j f hj
    exact (each j _ f (List.getElem?_eq_getElem hlt) hj).2
  · have h6 := List.all_eq_true.1 h5 f (List.mem_of_getElem? hf)
    rw [hc] at h6
    simp only [bne_self_eq_false, Bool.false_or] at h6
    have h7 := List.all_eq_true.1 (List.all_eq_true.1 h6 i hi) g (List.mem_of_getElem? hg)
    rw [hgc] at h7
    simpa using h7

section
variable {P : Program} {E : Env} {q : List TypeId} {gl : GCalls} {N : Nat} {ops : List Oper} {fs : List Info} {s0 sN : Slots} {H0 HN : List Blk}
theorem AWP.gdraw2 {kp : Nat} (hX : XOk P E q) (hcl : GClOk P gl) (keep : List Nat) (hmix : P.follows .mixedOrders = true) {id : Nat} {l : List Oper} (fs : List Info) (hdep : dOk2 l fs = true) {Q : Exit → AS → Prop} {S S' : AS}
    (h : drunP E q gl N keep l fs S = some S') (hQ : Q .normal S') : AWP kp P N (.region id l.toArray true) Q S := by
  unfold drunP at h
  split at h
  case h_2 => cases h
  rename_i S1 hq
  cases h
  have hd := dOk2_ok hdep
  obtain ⟨T⟩ := dt_of hd.len (sN := S1.s) (HN := S1.H) hq
  intro c hc m w a hi hs
  refine wp_region_any hmix ?_
  have hcount : countF (Array.replicate l.toArray.size false) = l.toArray.size := by simp [countF]
  have hfalse : ∀ k, (Array.replicate l.toArray.size false).getD k false = false := by
    intro k
    rw [Array.getD_eq_getD_getElem?, Array.getElem?_replicate]
    split <;> rfl
  obtain ⟨τ, t1, t2, t3, t4⟩ := next_turn fs l.length 0 (by omega)
  have hstill : ∀ k g, 0 ≤ k → k < τ → fs[k]? = some g → g.cls ≤ 1 := fun k g h1 h2 h3 => by
    have := hd.top k g h3; have := t3 k g h1 h2 h3; omega
  obtain ⟨R, hR⟩ := T.prefix_ hd 0 τ t2 t1 hstill
  have h00 : T.hp 0 = S.H := T.zero.2
  rw [h00] at hR
  obtain ⟨m2, e2, i2⟩ := hi.drawn.pad R.length
  have hck : c.k ≤ S.H.length := by
    rcases Nat.eq_zero_or_pos c.k with h0 | h0
    · omega
    · have := (hi.keep (c.k - 1) (by omega)).1; rw [hi.len] at this; omega
  refine d_order hX hcl hck T hd (fun t k hk => ?_) (fun m' w' a' h1 h2 => ⟨m', ⟨prune keep S1.s, S1.H⟩, h1, h2.prune keep, hQ⟩) _ _ a _ m2 0 τ _ (by simp) hcount ?_ i2 ?_ hs.1 hs.2.1 ?_ ?_
  · have := (hs.2.2 t).idxs_lt k hk
    rw [hi.len] at this; exact this
  · intro j o hj hl i _
    rw [hfalse] at hl; cases hl
  · refine ⟨t1, t2, fun k g _ _ hk => by omega, fun k g _ _ _ => hfalse k, hstill, t4, by rw [hR]; simp, fun i hi' => ?_, fun k i hk1 hk2 hi1 hi2 => ?_, fun i B hi' hB k hk => ?_⟩
    · rw [h00] at hi'
      rw [hR, List.getElem?_append_left hi', List.getElem?_append_left hi']
    · have g1 := T.mono hd 0 k (by omega) (by omega)
      have g2 := T.mono hd (k + 1) τ (by omega) t2
      rw [h00] at g1
      have g3 : (T.hp τ).length = S.H.length + R.length := by rw [hR]; simp
      rw [if_neg (by rw [hfalse]; simp), List.getElem?_append_right (by omega), List.getElem?_replicate, if_pos (by omega)]
    · rw [h00] at hB ⊢
      have := hi.blk_lt hB k hk
      rw [hi.len] at this; exact this
  · intro i o d hj hl _
    rw [hfalse] at hl; cases hl
  · intro t _
    exact (hs.2.2 t).mono e2

end
end Go.Fw

end

section
/- A transaction as an argument. Plain. -/
namespace Go.Fw
open Go
set_option linter.unusedVariables false
set_option linter.unusedSimpArgs false

abbrev shIn : Sh := .st [.st [.ba 32, .int .u32], .int .u32, .sq 1 .by]
abbrev shOut : Sh := .st [.int .u64, .by]
abbrev shTx : Sh := .st [.int .u32, .sq 35 shIn, .sq 2 shOut, .int .u32]

theorem list_of {α : Type} {f : α → T} {P : T → Prop} (hf : ∀ x, P x → x.wf → ∃ a, x = f a) : ∀ xs : List T, (∀ x ∈ xs, P x) → T.wfL xs → ∃ l : List α, xs = l.map f
  | [], _, _ => ⟨[], rfl⟩
  | x :: xs, h, hw => by
    obtain ⟨hw1, hw2⟩ := (by simpa only [T.wfL] using hw : x.wf ∧ T.wfL xs)
    obtain ⟨a, rfl⟩ := hf x (h x (by simp)) hw1
    obtain ⟨l, rfl⟩ := list_of hf xs (fun y hy => h y (by simp [hy])) hw2
    exact ⟨a :: l, rfl⟩
theorem by_of (x : T) (h : Sh.by.has x) (hw : x.wf) : ∃ a, x = .by a := by
  cases x <;> simp only [Sh.has] at h
  exact ⟨_, rfl⟩
theorem u32_shp {x : T} (h : (Sh.int .u32).has x) (hw : x.wf) : ∃ a : UInt32, x = .int .u32 (a.toNat : Int) := by
  cases x <;> simp only [Sh.has] at h
  rename_i k v
  subst h
  have hv := (inKb_iff .u32 v).2 (by simpa only [T.wf] using hw)
  have h1 : 0 ≤ v ∧ v < 4294967296 := by simp only [inKb, Bool.and_eq_true, decide_eq_true_eq] at hv; omega
  refine ⟨UInt32.ofNat v.toNat, ?_⟩
  rw [UInt32.toNat_ofNat']
  congr 1; omega
theorem u64_shp {x : T} (h : (Sh.int .u64).has x) (hw : x.wf) : ∃ a : UInt64, x = .int .u64 (a.toNat : Int) := by
  cases x <;> simp only [Sh.has] at h
  rename_i k v
  subst h
  have hv := (inKb_iff .u64 v).2 (by simpa only [T.wf] using hw)
  have h1 : 0 ≤ v ∧ v < 18446744073709551616 := by simp only [inKb, Bool.and_eq_true, decide_eq_true_eq] at hv; omega
  refine ⟨UInt64.ofNat v.toNat, ?_⟩
  rw [UInt64.toNat_ofNat']
  congr 1; omega
theorem h32_of {x : T} (h : (Sh.ba 32).has x) : ∃ a : H32, x = .ba 32 a.1 := by
  cases x <;> simp only [Sh.has] at h
  obtain ⟨rfl, h2⟩ := h
  exact ⟨⟨_, h2⟩, rfl⟩
theorem hasL1 {a : Sh} {l : List Sh} {xs : List T} (h : Sh.hasL (a :: l) xs) : ∃ x ys, xs = x :: ys ∧ a.has x ∧ Sh.hasL l ys := by
  cases xs <;> simp only [Sh.hasL] at h
  exact ⟨_, _, rfl, h.1, h.2⟩
theorem hasL0 {xs : List T} (h : Sh.hasL [] xs) : xs = [] := by
  cases xs <;> simp only [Sh.hasL] at h
  rfl
theorem wfL1 {x : T} {ys : List T} (h : T.wfL (x :: ys)) : x.wf ∧ T.wfL ys := by simpa only [T.wfL] using h
theorem in_of (x : T) (h : shIn.has x) (hw : x.wf) : ∃ a, x = inT a := by
  cases x <;> simp only [Sh.has] at h
  simp only [T.wf] at hw
  obtain ⟨r, ys, rfl, h1, h2⟩ := hasL1 h
  obtain ⟨q, ys, rfl, h3, h4⟩ := hasL1 h2
  obtain ⟨w, ys, rfl, h5, h6⟩ := hasL1 h4
  obtain rfl := hasL0 h6
  obtain ⟨w1, hw⟩ := wfL1 hw
  obtain ⟨w2, hw⟩ := wfL1 hw
  obtain ⟨w3, hw⟩ := wfL1 hw
  cases r <;> simp only [Sh.has] at h1
  simp only [T.wf] at w1
  obtain ⟨hh, ys, rfl, g1, g2⟩ := hasL1 h1
  obtain ⟨i, ys, rfl, g3, g4⟩ := hasL1 g2
  obtain rfl := hasL0 g4
  obtain ⟨w4, w1⟩ := wfL1 w1
  obtain ⟨w5, w1⟩ := wfL1 w1
  obtain ⟨a, rfl⟩ := h32_of g1
  obtain ⟨b, rfl⟩ := u32_shp g3 w5
  obtain ⟨c, rfl⟩ := u32_shp h3 w2
  cases w <;> simp only [Sh.has] at h5
  obtain ⟨rfl, h5⟩ := h5
  simp only [T.wf] at w3
  obtain ⟨l, rfl⟩ := list_of by_of _ h5 w3.2.2.2
  exact ⟨⟨a, b, c, l⟩, rfl⟩
theorem out_of (x : T) (h : shOut.has x) (hw : x.wf) : ∃ a, x = outT a := by
  cases x <;> simp only [Sh.has] at h
  simp only [T.wf] at hw
  obtain ⟨v, ys, rfl, h1, h2⟩ := hasL1 h
  obtain ⟨s, ys, rfl, h3, h4⟩ := hasL1 h2
  obtain rfl := hasL0 h4
  obtain ⟨w1, hw⟩ := wfL1 hw
  obtain ⟨w2, hw⟩ := wfL1 hw
  obtain ⟨a, rfl⟩ := u64_shp h1 w1
  obtain ⟨b, rfl⟩ := by_of s h3 w2
  exact ⟨⟨a, b⟩, rfl⟩
theorem tx_of {x : T} (h : shTx.has x) (hw : x.wf) : ∃ a, x = txT a := by
  cases x <;> simp only [Sh.has] at h
  simp only [T.wf] at hw
  obtain ⟨v, ys, rfl, h1, h2⟩ := hasL1 h
  obtain ⟨is, ys, rfl, h3, h4⟩ := hasL1 h2
  obtain ⟨os, ys, rfl, h5, h6⟩ := hasL1 h4
  obtain ⟨k, ys, rfl, h7, h8⟩ := hasL1 h6
  obtain rfl := hasL0 h8
  obtain ⟨w1, hw⟩ := wfL1 hw
  obtain ⟨w2, hw⟩ := wfL1 hw
  obtain ⟨w3, hw⟩ := wfL1 hw
  obtain ⟨w4, hw⟩ := wfL1 hw
  obtain ⟨a, rfl⟩ := u32_shp h1 w1
  obtain ⟨b, rfl⟩ := u32_shp h7 w4
  cases is <;> simp only [Sh.has] at h3
  obtain ⟨rfl, h3⟩ := h3
  simp only [T.wf] at w2
  obtain ⟨l, rfl⟩ := list_of in_of _ h3 w2.2.2.2
  cases os <;> simp only [Sh.has] at h5
  obtain ⟨rfl, h5⟩ := h5
  simp only [T.wf] at w3
  obtain ⟨m, rfl⟩ := list_of out_of _ h5 w3.2.2.2
  exact ⟨⟨a, l, m, b⟩, rfl⟩

end Go.Fw

end

section
/- Ends of bytes that are lent: taken apart where they lie. -/
namespace Go.Fw
open Go
set_option linter.unusedVariables false
set_option linter.unusedSimpArgs false

/-- An end of bytes. -/
def Sfx (b r : List UInt8) : Prop := r = b.drop (b.length - r.length) ∧ r.length ≤ b.length
theorem Sfx.self (b : List UInt8) : Sfx b b := ⟨by simp, Nat.le_refl _⟩
theorem Sfx.drop (b : List UInt8) (k : Nat) : Sfx b (b.drop k) := by
  refine ⟨?_, by simp⟩
  rw [List.length_drop]
  by_cases h : k ≤ b.length
  · rw [show b.length - (b.length - k) = k by omega]
  · rw [List.drop_eq_nil_of_le (by omega), List.drop_eq_nil_of_le (by omega)]
theorem Sfx.trans {b x y : List UInt8} (h : Sfx b x) (k : Sfx x y) : Sfx b y := by
  obtain ⟨h1, h2⟩ := h
  obtain ⟨k1, k2⟩ := k
  rw [k1, h1, List.drop_drop]
  exact Sfx.drop b _
theorem Sfx.nil (b : List UInt8) : Sfx b [] := ⟨by simp, by simp⟩

/-- What is left out, if there is an error. -/
def eAV (e : Int) (v : AV) : AV := if e = 0 then v else .t (.by [])
theorem eAV_0 (v : AV) : eAV 0 v = v := if_pos rfl
theorem eAV_1 {e : Int} (h : e ≠ 0) (v : AV) : eAV e v = .t (.by []) := if_neg h
/-- Such an end, in the block that is lent. -/
def rAV (b r : List UInt8) : AV := .sub 0 [] 1 0 (b.length - r.length) r.length

theorem sp_0 {x : List UInt8} {n : Int} (h : spE x n = 0) : 0 ≤ n ∧ n ≤ (x.length : Int) ∧ spA x n = x.take n.toNat ∧ spB x n = x.drop n.toNat := by
  unfold spE at h
  split at h
  · cases h
  · rename_i h1
    split at h
    · cases h
    · rename_i h2
      unfold spA spB
      rw [if_neg h1, if_neg h2, if_neg h1, if_neg h2]
      exact ⟨by omega, by omega, rfl, rfl⟩
theorem spB_sfx {b x : List UInt8} (h : Sfx b x) (n : Int) : Sfx b (spB x n) := by
  by_cases he : spE x n = 0
  · rw [(sp_0 he).2.2.2]; exact h.trans (Sfx.drop x _)
  · rw [(sp_bad he).2]; exact Sfx.nil b
theorem rdR_sfx {b x : List UInt8} (h : Sfx b x) (n : Int) (k : Nat) : Sfx b (rdR x n k).2.1 := by
  unfold rdR
  split
  · exact Sfx.nil b
  · split
    · exact Sfx.nil b
    · exact spB_sfx h n
theorem sz_sfx {b x : List UInt8} (h : Sfx b x) : Sfx b (sz x).2.1 := by
  have h1 := spB_sfx h 1
  unfold sz
  repeat' split
  · exact Sfx.nil b
  · exact rdR_sfx h1 _ _
  · exact rdR_sfx h1 _ _
  · exact rdR_sfx h1 _ _
  · exact h1
theorem bnd_sfx {b x : List UInt8} (h : Sfx b x) (most : Int) : Sfx b (bnd x most).2.1 := by
  unfold bnd
  repeat' split
  · exact Sfx.nil b
  · exact Sfx.nil b
  · exact sz_sfx h
theorem lim_sfx {b x : List UInt8} (h : Sfx b x) (most : Int) : Sfx b (lim x most).2.1 := by
  unfold lim
  split
  · exact Sfx.nil b
  · exact spB_sfx (bnd_sfx h most) (bnd x most).1
/-- Where taken bytes lie. -/
theorem spA_at {b x : List UInt8} (h : Sfx b x) {n : Int} (he : spE x n = 0) : (b.drop (b.length - x.length)).take (spA x n).length = spA x n ∧ b.length - x.length + (spA x n).length = b.length - (spB x n).length ∧ (spA x n).length = n.toNat ∧ (spB x n).length = x.length - n.toNat := by
  obtain ⟨h1, h2, h3, h4⟩ := sp_0 he
  obtain ⟨g1, g2⟩ := h
  rw [← g1, h3, h4]
  refine ⟨?_, ?_, ?_, ?_⟩
  · rw [List.length_take, Nat.min_eq_left (by omega)]
  · rw [List.length_take, List.length_drop]; omega
  · rw [List.length_take]; omega
  · rw [List.length_drop]
theorem lim_at {b x : List UInt8} (h : Sfx b x) {most : Int} (he : (lim x most).2.2 = 0) : (b.drop (b.length - (bnd x most).2.1.length)).take (lim x most).1.length = (lim x most).1 ∧ b.length - (bnd x most).2.1.length + (lim x most).1.length ≤ b.length := by
  have hb := bnd_sfx h most
  unfold lim at he ⊢
  split at he
  · rename_i hn; exact absurd he hn
  · rename_i hn
    rw [if_neg hn]
    obtain ⟨h1, h2, _, _⟩ := spA_at (n := (bnd x most).1) hb he
    refine ⟨h1, ?_⟩
    show b.length - (bnd x most).2.1.length + (spA (bnd x most).2.1 (bnd x most).1).length ≤ b.length
    rw [h2]
    omega
theorem getD_at {b x : List UInt8} (h : Sfx b x) {k : Nat} (hk : k < x.length) : b.getD (b.length - x.length + k) 0 = x.getD k 0 := by
  obtain ⟨h1, h2⟩ := h
  have : x.getD k 0 = (b.drop (b.length - x.length)).getD k 0 := by rw [← h1]
  rw [this]
  simp [List.getD_eq_getElem?_getD]

/-- So many bytes, and what is left. -/
def spR (lo len : Nat) (n : Int) : AV := if n < 0 then .tup [.t (.by []), .t (.by []), .t (.int .i64 1)] else if (len : Int) < n then .tup [.t (.by []), .t (.by []), .t (.int .i64 2)] else .tup [.sub 0 [] 1 0 lo n.toNat, .sub 0 [] 1 0 (lo + n.toNat) (len - n.toNat), .t (.int .i64 0)]
theorem spR_eq {b x : List UInt8} (h : Sfx b x) (n : Int) : spR (b.length - x.length) x.length n = .tup [eAV (spE x n) (.sub 0 [] 1 0 (b.length - x.length) (spA x n).length), eAV (spE x n) (.sub 0 [] 1 0 (b.length - (spB x n).length) (spB x n).length), .t (.int .i64 (spE x n))] := by
  unfold spR
  split
  · rename_i h1
    have : spE x n = 1 := by unfold spE; rw [if_pos h1]
    rw [this]; rfl
  · rename_i h1
    split
    · rename_i h2
      have : spE x n = 2 := by unfold spE; rw [if_neg h1, if_pos h2]
      rw [this]; rfl
    · rename_i h2
      have : spE x n = 0 := by unfold spE; rw [if_neg h1, if_neg h2]
      obtain ⟨g1, g2, g3, g4⟩ := spA_at h this
      rw [this, eAV_0, eAV_0, g4, g3]
      have e : b.length - x.length + n.toNat = b.length - (x.length - n.toNat) := by rw [← g4, ← g2, g3]
      rw [e]
/-- A place of an end, as a place of the whole. -/
theorem Sfx.of {b : List UInt8} {lo len : Nat} (h : lo + len = b.length) : ∃ x, Sfx b x ∧ lo = b.length - x.length ∧ len = x.length := ⟨b.drop lo, Sfx.drop b lo, by rw [List.length_drop]; omega, by rw [List.length_drop]; omega⟩

end Go.Fw

end

section
/- A region in two parts, the state told anew between them. -/
namespace Go.Fw
set_option linter.unusedVariables false
set_option linter.unusedSimpArgs false
open Go

theorem AWP.gsplit {kp : Nat} {P : Program} {E : Env} {q : List TypeId} (hX : XOk P E q) {gl : GCalls} (hcl : GClOk P gl) (keep : List Nat) {N id : Nat} {l1 l2 : List Oper} {Q : Exit → AS → Prop} {S S1 S2 S3 : AS}
    (h1 : gops E q gl N (l1 ++ l2) l1 S = some S1) (hw : Weak kp N S1 S2) (h2 : gops E q gl N (l1 ++ l2) l2 S2 = some S3)
    (hQ : Q .normal ⟨prune keep S3.s, S3.H⟩) : AWP kp P N (.region id (l1 ++ l2).toArray false) Q S := by
  intro c hc m w a hi hs
  refine wp_region_list ?_
  have e1 : (l1 ++ l2).toArray.toList = l1 ++ l2 := by simp
  rw [e1]
  refine gops_then hX hcl l2 l1 S S1 m w a (by rw [e1]; exact h1) hi hs fun m' w' a' i1 r1 => ?_
  obtain ⟨m2, i2, r2⟩ := hw c hc m' w' a' i1 r1
  exact gops_ok hX hcl l2 S2 S3 m2 w' a' (by rw [e1]; exact h2) i2 r2 fun m3 w3 a3 i3 r3 => ⟨m3, ⟨prune keep S3.s, S3.H⟩, i3, r3.prune keep, hQ⟩

end Go.Fw

end

section
/- A range over a function: regions within a round, and behind one. -/
namespace Go.Fw
set_option linter.unusedVariables false
set_option linter.unusedSimpArgs false
open Go Go.RowKit

/-- No fence but for the kind of the frame. -/
abbrev wideAt (ρ : Option Nat) : Fence := { Fence.wide with round := ρ }
/-- An activation with deferred calls more. -/
def Act.more (a : Act) (D : List Deferred) : Act := { a with defers := a.defers ++ D }
theorem more_nil (a : Act) : Act.more a [] = a := by cases a; simp [Act.more]
theorem more_put (a : Act) (D : List Deferred) (d : Option Tmp) (v : Value) : (Act.more a D).put d v = Act.more (a.put d v) D := by cases d <;> rfl
theorem more_eval (a : Act) (D : List Deferred) : (Act.more a D).eval = a.eval := by funext x; cases x <;> rfl

theorem callsIn_at {ρ : Option Nat} {n : Nat} {P : Program} {f : FuncId} {args : Array Value} {w : World} {R : Ending → World → Prop} (h : Calls P f args w R) : CallsIn (wideAt ρ) n P f args w R :=
  show CallsIn Fence.wide n P f args w R from callsIn_wide.2 h
theorem rowsIn_at {ρ : Option Nat} {n : Nat} {P : Program} {row : String} {args : Array Value} {w : World} {R : Value → World → Prop} (h : Rows P row args w R) : RowsIn (wideAt ρ) n P row args w R :=
  show RowsIn Fence.wide n P row args w R from fun c cs _ => let ⟨v, w', r, s⟩ := h c cs; ⟨v, w', r, stepsIn_wide.2 s⟩

/-- An operation that goes on in one way only, under any fence. -/
theorem upon_in {ρ : Option Nat} {n : Nat} {P : Program} {o : Oper} {a : Act} {D : List Deferred} {next next' : Act → World → Prop} {Q Q' : Exit → Act → World → Prop} {r : Result Next}
    (hn : ∀ a1 w, (∃ v, a1.tmps = (a.put o.dst v).tmps) → next a1 w → next' (Act.more a1 D) w) (hQ : ∀ e a w, e ≠ .normal → ¬ Q e a w) (h : o.upon P a next Q r) : o.uponIn (wideAt ρ) n P (Act.more a D) next' Q' r := by
  have hlo : ¬ LetsOut Q := fun ⟨a, w, h⟩ => hQ _ _ _ (by simp) h
  unfold Oper.upon at h
  unfold Oper.uponIn
  split at h
  · rename_i v w'
    show next' ((Act.more a D).put o.dst v) w'
    rw [more_put]
    exact hn _ _ ⟨v, rfl⟩ h
  · rename_i w'
    show next' ((Act.more a D).put o.dst undef) w'
    rw [more_put]
    exact hn _ _ ⟨undef, rfl⟩ h
  · rename_i d w'
    have := hn _ _ ⟨undef, by cases o.dst <;> rfl⟩ h
    show next' ({ (Act.more a D) with defers := d :: (Act.more a D).defers }.put o.dst undef) w'
    have e : ({ (Act.more a D) with defers := d :: (Act.more a D).defers } : Act) = Act.more { a with defers := d :: a.defers } D := rfl
    rw [e, more_put]
    exact this
  · rename_i f args w'
    refine ⟨fun hd => by simp [Fence.wide] at hd, callsIn_at (h.mono fun e w'' he => ?_)⟩
    cases e with
    | returned v =>
      show next' ((Act.more a D).put o.dst v) w''
      rw [more_put]
      exact hn _ _ ⟨v, rfl⟩ he
    | panicked ch => exact (hQ _ _ _ (by simp) he).elim
    | outgrown => exact (hlo he).elim
  · rename_i row args w'
    refine ⟨fun hd => by simp [Fence.wide] at hd, rowsIn_at (h.mono fun v w'' he => ?_)⟩
    show next' ((Act.more a D).put o.dst v) w''
    rw [more_put]
    exact hn _ _ ⟨v, rfl⟩ he
  · exact (hQ _ _ _ (by simp) h).elim
  · exact h.elim

def preK (ρ : Option Nat) (n : Nat) (P : Program) (ops : Array Oper) (Q : Exit → Act → World → Prop) (D : List Deferred) (rest : List Oper) (T : Nat → Prop) (t0 : Array Value) : Exit → Act → World → Prop
  | .normal, a, w => (∀ i, T i → a.tmps.getD i undef = t0.getD i undef) → wpListIn (wideAt ρ) n P ops Q rest (Act.more a D) w
  | _, _, _ => False
theorem preK_no {ρ : Option Nat} {n : Nat} {P : Program} {ops : Array Oper} {Q : Exit → Act → World → Prop} {D : List Deferred} {rest : List Oper} {T : Nat → Prop} {t0 : Array Value} (e : Exit) (a : Act) (w : World) (he : e ≠ .normal) : ¬ preK ρ n P ops Q D rest T t0 e a w := by
  cases e <;> first | exact (he rfl).elim | exact fun h => h

def noDefer (l : List Oper) : Bool := l.all fun o => match o.op with | .defer _ => false | _ => true

theorem put_tmp (a : Act) (d : Option Tmp) (v : Value) (i : Nat) (h : d ≠ some i) : (a.put d v).tmps.getD i undef = a.tmps.getD i undef := by
  cases d with
  | none => rfl
  | some k =>
    show (a.tmps.setIfInBounds k v).getD i undef = _
    have hk : k ≠ i := fun e => h (by rw [e])
    simp [Array.getD_eq_getD_getElem?, Array.getElem?_setIfInBounds_ne hk]

/-- A region's beginning, proved for any plain frame, holds under the fence, too; temporaries that it does not write stay. -/
theorem wpListIn_pre {ρ : Option Nat} {n : Nat} {P : Program} {ops : Array Oper} {Q : Exit → Act → World → Prop} {D : List Deferred} {rest : List Oper} {T : Nat → Prop} {t0 : Array Value} :
    ∀ (pre : List Oper) (a : Act) (w : World), noDefer pre = true → (∀ i, T i → ∀ o ∈ pre, o.dst ≠ some i) → (∀ i, T i → a.tmps.getD i undef = t0.getD i undef) →
      wpList P ops (preK ρ n P ops Q D rest T t0) pre a w → wpListIn (wideAt ρ) n P ops Q (pre ++ rest) (Act.more a D) w
  | [], a, w, _, _, ht, h => h ht
  | o :: pre, a, w, hd, hT, ht, h => by
    have hd2 : noDefer pre = true := by
      unfold noDefer at hd ⊢
      simp only [List.all_cons, Bool.and_eq_true] at hd
      exact hd.2
    have hdo : ∀ c, o.op ≠ .defer c := by
      intro c hc
      unfold noDefer at hd
      simp [hc] at hd
    have ht2 : ∀ a1 : Act, (∃ v, a1.tmps = (a.put o.dst v).tmps) → ∀ i, T i → a1.tmps.getD i undef = t0.getD i undef := by
      rintro a1 ⟨v, hv⟩ i hi
      rw [hv, put_tmp a o.dst v i (hT i hi o (by simp))]
      exact ht i hi
    have hnx : ∀ a1 w1, (∃ v, a1.tmps = (a.put o.dst v).tmps) → wpList P ops (preK ρ n P ops Q D rest T t0) pre a1 w1 → wpListIn (wideAt ρ) n P ops Q (pre ++ rest) (Act.more a1 D) w1 :=
      fun a1 w1 hv h1 => wpListIn_pre pre a1 w1 hd2 (fun i hi o ho => hT i hi o (by simp [ho])) (ht2 a1 hv) h1
    rw [List.cons_append]
    unfold wpListIn
    unfold wpList at h
    have hy : yielded ops (Act.more a D).tmps = yielded ops a.tmps := rfl
    rw [hy]
    by_cases hw : Region.wanted o (yielded ops a.tmps) = true
    · rw [if_pos hw] at h ⊢
      refine ⟨fun f _ => trivial, ?_⟩
      rcases h with h | ⟨_, ⟨a1, w1, h1⟩⟩
      · rw [Oper.semAt_eq _ _ _ hdo, more_eval]
        exact upon_in hnx preK_no h
      · exact h1.elim
    · rw [if_neg hw] at h ⊢
      refine ⟨fun f _ => trivial, ?_⟩
      rw [more_put]
      exact hnx _ _ ⟨undef, rfl⟩ h

/-! ### The abstract machine under the fence. -/
def AWF (ρ : Option Nat) (D : List Deferred) (kp : Nat) (P : Program) (N : Nat) (code : Code) (Q : Exit → AS → Prop) (S : AS) : Prop :=
  ∀ (n : Nat) (c : Ctx), c.k = kp → ∀ (m : Mem) (w : World) (a : Act), Inv c m w S.H → RelS m N a S.s → code.wpIn (wideAt ρ) n P (fun e a' w' => ∃ a0, a' = Act.more a0 D ∧ APost c N Q e a0 w') (Act.more a D) w

section
variable {ρ : Option Nat} {D : List Deferred} {kp : Nat} {P : Program} {N : Nat} {Q : Exit → AS → Prop} {S : AS}

def seqF (ρ : Option Nat) (D : List Deferred) (kp : Nat) (P : Program) (N : Nat) (y : Code) (Q : Exit → AS → Prop) : Exit → AS → Prop
  | .normal, S => AWF ρ D kp P N y Q S
  | e, S => Q e S
theorem AWF.seq {x y : Code} (h : AWF ρ D kp P N x (seqF ρ D kp P N y Q) S) : AWF ρ D kp P N (.seq x y) Q S := fun n c hc m w a hi hs =>
  wpIn_seq (wpIn_mono (h n c hc m w a hi hs) fun e a' w' ⟨a0, ha, m1, S1, h1, h2, h3⟩ => by
    subst ha
    cases e with
    | normal => exact h3 n c hc m1 w' a0 h1 h2
    | _ => exact ⟨a0, rfl, m1, S1, h1, h2, h3⟩)
theorem AWF.block {id : Nat} {x : Code} (h : AWF ρ D kp P N x (blockQ id Q) S) : AWF ρ D kp P N (.block id x) Q S := fun n c hc m w a hi hs =>
  wpIn_block (wpIn_mono (h n c hc m w a hi hs) fun e a' w' ⟨a0, ha, m1, S1, h1, h2, h3⟩ => by
    subst ha
    cases e with
    | exit id' =>
      simp only [Exit.inBlock, blockQ] at h3 ⊢
      split
      · rename_i e; rw [if_pos e] at h3; exact ⟨a0, rfl, m1, S1, h1, h2, h3⟩
      · rename_i e; rw [if_neg e] at h3; exact ⟨a0, rfl, m1, S1, h1, h2, h3⟩
    | _ => exact ⟨a0, rfl, m1, S1, h1, h2, h3⟩)
theorem AWF.exit {id : Nat} (h : Q (.exit id) S) : AWF ρ D kp P N (.exit id) Q S := fun n c hc m w a hi hs => wpIn_exit ⟨a, rfl, m, S, hi, hs, h⟩
theorem AWF.ret (h : Q .ret S) : AWF ρ D kp P N .ret Q S := fun n c hc m w a hi hs => wpIn_ret ⟨a, rfl, m, S, hi, hs, h⟩
theorem AWF.skip (h : Q .normal S) : AWF ρ D kp P N .skip Q S := fun n c hc m w a hi hs => wpIn_skip ⟨a, rfl, m, S, hi, hs, h⟩
theorem AWF.condT {cd : Operand} {x y : Code} {b : Bool} (hc : ev S.s cd = .t (.bool b)) (hb : b = true) (ht : AWF ρ D kp P N x Q S) : AWF ρ D kp P N (.cond cd x y) Q S := fun n c hk m w a hi hs =>
  wpIn_cond_true (by rw [more_eval]; have := hs.ev cd; rw [hc] at this; rw [← hb]; exact this.bool_inv) (ht n c hk m w a hi hs)
theorem AWF.condF {cd : Operand} {x y : Code} {b : Bool} (hc : ev S.s cd = .t (.bool b)) (hb : b = false) (ht : AWF ρ D kp P N y Q S) : AWF ρ D kp P N (.cond cd x y) Q S := fun n c hk m w a hi hs =>
  wpIn_cond_false (by rw [more_eval]; have := hs.ev cd; rw [hc] at this; rw [← hb]; exact this.bool_inv) (ht n c hk m w a hi hs)
theorem AWF.weak {code : Code} {S' : AS} (hw : Weak kp N S S') (h : AWF ρ D kp P N code Q S') : AWF ρ D kp P N code Q S := fun n c hc m w a hi hs =>
  let ⟨m', h1, h2⟩ := hw c hc m w a hi hs; h n c hc m' w a h1 h2
theorem AWF.greg {E : Env} {q : List TypeId} (hX : XOk P E q) {gl : GCalls} (hcl : GClOk P gl) (keep : List Nat) {id : Nat} {l : List Oper} {S' : AS} (hd : noDefer l = true)
    (h : gopsP E q gl N keep l S = some S') (hQ : Q .normal S') : AWF ρ D kp P N (.region id l.toArray false) Q S := by
  unfold gopsP at h
  split at h
  · rename_i S1 h1
    cases h
    intro n c hc m w a hi hs
    refine wpIn_region_list ?_
    have e1 : l.toArray.toList = l ++ [] := by simp
    rw [e1]
    refine wpListIn_pre (T := fun _ => False) (t0 := #[]) l a w hd (fun i hi => hi.elim) (fun i hi => hi.elim) ?_
    exact gops_ok hX hcl _ S S1 m w a (by simpa using h1) hi hs fun m' w' a' h1 h2 _ => ⟨a', rfl, m', ⟨Fw.prune keep S1.s, S1.H⟩, h1, h2.prune keep, hQ⟩
  · cases h
end

theorem AWF.run0 {ρ : Option Nat} {kp : Nat} {P : Program} {N : Nat} {Q : Exit → AS → Prop} {S : AS} {code : Code} (h : AWF ρ [] kp P N code Q S) {n : Nat} {c : Ctx} (hc : c.k = kp) {m : Mem} {w : World} {a : Act} (hi : Inv c m w S.H) (hs : RelS m N a S.s) :
    code.wpIn (wideAt ρ) n P (APost c N Q) a w := by
  have := h n c hc m w a hi hs
  rw [more_nil] at this
  exact wpIn_mono this fun e a' w' ⟨a0, ha, h1⟩ => by rw [more_nil] at ha; rw [ha]; exact h1

/-! ### A part of the walk, as a call: its own context, its first blocks kept. -/
def ctxK (w : World) (m : Mem) (HB : List Blk) (k : Nat) : Ctx := ⟨w, lent m HB, m.M, k, m.η⟩

theorem inv_ctxK {c : Ctx} {m : Mem} {w : World} {HB : List Blk} {k : Nat} (h : Inv c m w HB) (hk : k ≤ HB.length) : Inv (ctxK w m HB k) m w HB where
  len := h.len
  imm := h.imm
  le := .refl _
  new := fun b o hb => .inl hb
  ok := h.ok
  own := fun i B b h1 h2 h3 => .inr ⟨i, B, h1, h2, h3⟩
  disj := h.disj
  os := rfl
  tape := rfl
  output := rfl
  size := Nat.le_refl _
  frame := fun b _ _ => rfl
  keep := fun i hi => ⟨by rw [h.len]; exact Nat.lt_of_lt_of_le hi hk, rfl⟩

theorem inv_comp {c : Ctx} {m m' : Mem} {w w' : World} {HB H' : List Blk} {k : Nat} (h : Inv c m w HB) (hc : c.k ≤ k) (h' : Inv (ctxK w m HB k) m' w' H') : Inv c m' w' H' where
  len := h'.len
  imm := h'.imm
  le := h.le.trans h'.le
  new := fun b o hb => by
    rcases h'.new b o hb with h1 | ⟨h1 | ⟨i, B, h1, h2, h3⟩, hp⟩
    · exact h.new b o h1
    · exact .inr ⟨.inl (Nat.le_trans h.size h1), hp⟩
    · exact .inr ⟨h.own i B b h1 h2 h3, hp⟩
  ok := h'.ok
  own := fun i B b h1 h2 h3 => by
    rcases h'.own i B b h1 h2 h3 with h4 | ⟨i, B, h1, h2, h3⟩
    · exact .inl (Nat.le_trans h.size h4)
    · exact h.own i B b h1 h2 h3
  disj := h'.disj
  os := h'.os.trans h.os
  tape := h'.tape.trans h.tape
  output := h'.output.trans h.output
  size := Nat.le_trans h.size h'.size
  frame := fun b hb ho => by
    refine (h'.frame b (Nat.lt_of_lt_of_le hb h.size) fun ⟨i, B, h1, h2, h3⟩ => ?_).trans (h.frame b hb ho)
    rcases h.own i B b h1 h2 h3 with h4 | h4
    · omega
    · exact ho h4
  keep := fun i hi => by
    obtain ⟨h1, h2⟩ := h'.keep i (Nat.lt_of_lt_of_le hi hc)
    exact ⟨h1, h2.trans (h.keep i hi).2⟩

/-- What is no cells lies as it lay. -/
theorem kept_obj {c : Ctx} {m m' : Mem} {w w' : World} {HB H' : List Blk} {k b : Nat} {o : Obj} (h : Inv c m w HB) (h' : Inv (ctxK w m HB k) m' w' H') (hb : w.heap[b]? = some o) (ho : o.isCells = false) (hM : m.M b = none) :
    w'.heap[b]? = some o ∧ m'.M b = none := by
  have hlt := lt_of_heap hb
  have hno : ¬ lent m HB b := fun ⟨i, B, h1, h2, h3⟩ => by
    have hok := h.ok i B h1
    generalize m.η i = hd at *
    cases B with
    | «by» l =>
      rcases hok with ⟨rfl, _⟩ | ⟨b', cap, cur, e, rfl, hh, _⟩
      · simp [blk] at h3
      · simp [blk] at h3; subst h3; rw [hh] at hb; cases hb; cases ho
    | sq sz xs =>
      rcases hok with ⟨_, ⟨rfl, _⟩ | ⟨b', cap, cur, e, rfl, hh, _⟩⟩
      · simp [blk] at h3
      · simp [blk] at h3; subst h3; rw [hh] at hb; cases hb; cases ho
    | bx v =>
      obtain ⟨b', cur, e, rfl, hh, _⟩ := hok
      simp [blk] at h3; subst h3; rw [hh] at hb; cases hb; cases ho
    | fz x => cases h2
    | fb x => cases h2
    | no => cases h2
  refine ⟨(h'.frame b hlt hno).trans hb, ?_⟩
  cases hx : m'.M b with
  | none => rfl
  | some y =>
    rcases h'.new b y hx with h1 | ⟨h1 | h1, hp⟩
    · have : m.M b = some y := h1
      rw [hM] at this; cases this
    · exact absurd h1 (by show ¬ w.heap.size ≤ b; omega)
    · exact (hno h1).elim

/-- A block that is no cells is laid, or turned. -/
theorem inv_alloc {c : Ctx} {m : Mem} {w : World} {H : List Blk} (h : Inv c m w H) (o : Obj) : Inv c m (w.alloc o) H := by
  have hold : ∀ b x, w.heap[b]? = some x → (w.alloc o).heap[b]? = some x := fun b x hb => (Below.heap_alloc w o b (lt_of_heap hb)).trans hb
  exact {
    len := h.len
    imm := fun b x hb => hold b x (h.imm b x hb)
    le := h.le
    new := h.new
    ok := fun i B hi => (h.ok i B hi).move (.refl m) (fun b hl hb => ((h.ok i B hi).at hl hb).1) (fun b hl hb => by
      obtain ⟨_, hlt⟩ := (h.ok i B hi).at hl hb
      exact Below.heap_alloc w o b hlt)
    own := h.own
    disj := h.disj
    os := h.os
    tape := h.tape
    output := h.output
    size := Nat.le_trans h.size (by rw [World.size_alloc]; exact Nat.le_succ _)
    frame := fun b hb ho => (Below.heap_alloc w o b (Nat.lt_of_lt_of_le hb h.size)).trans (h.frame b hb ho)
    keep := h.keep }
theorem inv_putObj {c : Ctx} {m : Mem} {w : World} {H : List Blk} (h : Inv c m w H) {r : Nat} {o : Obj} (o' : Obj) (hr : w.heap[r]? = some o) (ho : o.isCells = false) (hM : m.M r = none) (hc : c.w0.heap.size ≤ r) : Inv c m (w.putObj r o') H := by
  have hne : ∀ i B b, H[i]? = some B → B.live = true → blk (m.η i) = some b → b ≠ r := by
    intro i B b hi hl hb e
    subst e
    have hok := h.ok i B hi
    generalize m.η i = hd at *
    cases B with
    | «by» l =>
      rcases hok with ⟨rfl, _⟩ | ⟨b', cap, cur, e, rfl, hh, _⟩
      · simp [blk] at hb
      · simp [blk] at hb; subst hb; rw [hh] at hr; cases hr; cases ho
    | sq sz xs =>
      rcases hok with ⟨_, ⟨rfl, _⟩ | ⟨b', cap, cur, e, rfl, hh, _⟩⟩
      · simp [blk] at hb
      · simp [blk] at hb; subst hb; rw [hh] at hr; cases hr; cases ho
    | bx v =>
      obtain ⟨b', cur, e, rfl, hh, _⟩ := hok
      simp [blk] at hb; subst hb; rw [hh] at hr; cases hr; cases ho
    | fz x => cases hl
    | fb x => cases hl
    | no => cases hl
  exact {
    len := h.len
    imm := fun b x hb => (World.putObj_heap_other (fun e => by subst e; rw [hM] at hb; cases hb)).trans (h.imm b x hb)
    le := h.le
    new := h.new
    ok := fun i B hi => (h.ok i B hi).move (.refl m) (fun b hl hb => ((h.ok i B hi).at hl hb).1) (fun b hl hb => World.putObj_heap_other (hne i B b hi hl hb))
    own := h.own
    disj := h.disj
    os := h.os
    tape := h.tape
    output := h.output
    size := Nat.le_trans h.size (by rw [World.putObj_size]; exact Nat.le_refl _)
    frame := fun b hb hO => (World.putObj_heap_other (by omega)).trans (h.frame b hb hO)
    keep := h.keep }

end Go.Fw

end

section
/- A range over a function: the function that holds one; the loop's record beside the abstract memory. -/
namespace Go.Fw
set_option linter.unusedVariables false
set_option linter.unusedSimpArgs false
open Go Go.RowKit

/-- What a contract asks of a function's end. -/
def Rg (c : Ctx) (H : List Blk) (r : AV) : Ending → World → Prop := fun e w' => ∃ m' v, e = .returned v ∧ MLe c.M0 m'.M ∧ Inv c m' w' H ∧ RelA m' r v

def AWM (kp : Nat) (P : Program) (N : Nat) (code : Code) (K : Ctx → Exit → Act → World → Prop) (S : AS) : Prop :=
  ∀ (c : Ctx), c.k = kp → ∀ (m : Mem) (w : World) (a : Act), Inv c m w S.H → RelS m N a S.s → code.wpIn Fence.wide 0 P (K c) a w

section
variable {kp : Nat} {P : Program} {N : Nat} {K : Ctx → Exit → Act → World → Prop} {S : AS}

def seqM (kp : Nat) (P : Program) (N : Nat) (y : Code) (K : Ctx → Exit → Act → World → Prop) : Exit → AS → Prop
  | .normal, S => AWM kp P N y K S
  | e, S => ∀ (c : Ctx), c.k = kp → ∀ (m : Mem) (w : World) (a : Act), Inv c m w S.H → RelS m N a S.s → K c e a w
theorem AWM.seq {x y : Code} (h : AWP kp P N x (seqM kp P N y K) S) : AWM kp P N (.seq x y) K S := fun c hc m w a hi hs =>
  wpIn_seq (wpIn_mono (wpIn_wide.2 (h c hc m w a hi hs)) fun e a' w' ⟨m1, S1, h1, h2, h3⟩ => by
    cases e with
    | normal => exact h3 c hc m1 w' a' h1 h2
    | _ => exact h3 c hc m1 w' a' h1 h2)
/-- A part that is walked by itself, in the midst. -/
def seqZ (kp : Nat) (P : Program) (N : Nat) (z y : Code) (K : Ctx → Exit → Act → World → Prop) : Exit → AS → Prop
  | .normal, S => ∀ (c : Ctx), c.k = kp → ∀ (m : Mem) (w : World) (a : Act), Inv c m w S.H → RelS m N a S.s → z.wpIn Fence.wide 0 P (Exit.then (y.wpIn Fence.wide 0 P (K c)) (K c)) a w
  | e, S => ∀ (c : Ctx), c.k = kp → ∀ (m : Mem) (w : World) (a : Act), Inv c m w S.H → RelS m N a S.s → K c e a w
theorem AWM.seq2 {x z y : Code} (h : AWP kp P N x (seqZ kp P N z y K) S) : AWM kp P N (.seq (.seq x z) y) K S := fun c hc m w a hi hs =>
  wpIn_seq (wpIn_seq (wpIn_mono (wpIn_wide.2 (h c hc m w a hi hs)) fun e a' w' ⟨m1, S1, h1, h2, h3⟩ => by
    cases e with
    | normal => exact h3 c hc m1 w' a' h1 h2
    | _ => exact h3 c hc m1 w' a' h1 h2))
theorem AWM.weak {code : Code} {S' : AS} (hw : Weak kp N S S') (h : AWM kp P N code K S') : AWM kp P N code K S := fun c hc m w a hi hs =>
  let ⟨m', h1, h2⟩ := hw c hc m w a hi hs; h c hc m' w a h1 h2
end

/-- The end's value, out of an abstract state. -/
theorem leave_ok {P : Program} {E : Env} (hE : EnvOk P E) {fn : Func} {rs : List RS} (hres : fn.results.toList = rs.map RS.var) {c : Ctx} {m : Mem} {w : World} {a : Act} {N : Nat} {S : AS} {H : List Blk} {r : AV} {e : Exit}
    (hi : Inv c m w S.H) (hs : RelS m N a S.s) (hq : cretQ E rs c.k H r e S) : ∃ v, (results fn a.tmps).run P w = .ok v w ∧ Rg c H r (.returned v) w := by
  obtain ⟨_, fz, ids, hnd, hcr⟩ := hq
  obtain ⟨rv, hrv, hH, hr⟩ : ∃ rv, resVals E (freezeOnes S.H fz) S.s rs = some rv ∧ renH ids (freezeOnes S.H fz) = H ∧ (one rv).ren ids = r := by
    unfold cres at hcr
    split at hcr
    · rename_i rv hrv; cases hcr; exact ⟨rv, hrv, rfl, rfl⟩
    · cases hcr
  obtain ⟨m', e1, h1'⟩ := freezeOnes_ok fz m S.H hi
  have h2' := hs.mono e1
  obtain ⟨u, hresrun, hvals⟩ := results_run hE h1' h2' hres hrv
  have h4 := h1'.ren ids hnd.1 hnd.get
  exact ⟨_, hresrun, _, _, rfl, h4.le, by rw [← hH]; exact h4, by rw [← hr]; exact hvals.ren ids⟩

/-- A return ahead of the loop. -/
theorem ret_early {P : Program} {E : Env} (hE : EnvOk P E) {fn : Func} {rs : List RS} (hres : fn.results.toList = rs.map RS.var) {kp N : Nat} {y : Code} {S : AS} {H : List Blk} {r : AV} (hq : cretQ E rs kp H r .ret S) :
    seqM kp P N y (fun c => bodyPostM Fence.wide 0 P fn (Rg c H r)) .ret S := by
  intro c hc m w a hi hs
  show LeavesInM Fence.wide 0 P fn a.tmps (Rg c H r) a.defers .returning w
  rw [hs.1]
  exact leave_ok hE hres hi hs (by rw [hc]; exact hq)

/-- A return behind the loop: the mark is taken over. -/
theorem ret_mark {P : Program} {E : Env} (hE : EnvOk P E) {fn : Func} {rs : List RS} (hres : fn.results.toList = rs.map RS.var) {c : Ctx} {m : Mem} {w : World} {a : Act} {N D : Nat} {S : AS} {H : List Blk} {r : AV}
    (hi : Inv c m w S.H) (hs : RelS m N a S.s) (hq : cretQ E rs c.k H r .ret S) (hD : w.heap[D]? = some (.deferred (some []))) (hM : m.M D = none) (hc : c.w0.heap.size ≤ D) :
    bodyPostM Fence.wide 0 P fn (Rg c H r) .ret (Act.more a [{ target := .collected D, args := #[] }]) w := by
  show LeavesInM Fence.wide 0 P fn a.tmps (Rg c H r) (a.defers ++ [{ target := .collected D, args := #[] }]) .returning w
  rw [hs.1, List.nil_append]
  refine ⟨by simp, .inl ⟨D, w.putObj D (.deferred none), rfl, run_takeDeferred hD, ?_⟩⟩
  exact leave_ok hE hres (inv_putObj hi (.deferred none) hD rfl hM hc) hs hq

/-- A contract out of such a walk. -/
theorem gconcM {P : Program} {E : Env} (hE : EnvOk P E) {f : FuncId} {fn : Func} {code : Code} {N np : Nat} {rs : List RS} (hfn : P.funcs[f]? = some fn) (hb : fn.body = some code) (hN : fn.ntmps = N)
    (hname : (fn.name == "runtime.NumGoroutine") = false) (hres : fn.results.toList = rs.map RS.var) (hnp : np ≤ N) (G : GFun) (hG : ∀ HB xs, xs.length ≠ np → G HB xs = none)
    (main : ∀ HB xs H r, G HB xs = some (H, r) → (∀ x ∈ xs, x.wf) → (∃ c m w, Inv c m w HB) → AWM HB.length P N code (fun c => bodyPostM Fence.wide 0 P fn (Rg c H r)) ⟨gentry 0 xs, HB⟩) : GCon P f G := by
  refine ⟨⟨fn, hfn, hname, by rw [hb]; rfl⟩, fun HB xs H r hGx m w vs hinv hlen hrel => ?_⟩
  have hxs : xs.length = np := by
    rcases Nat.decEq xs.length np with h | h
    · rw [hG HB xs h] at hGx; cases hGx
    · exact h
  refine (callsIn_wide (n := 0)).1 (callsIn_of_wp_marks hfn hb trivial ?_)
  have hwf : ∀ x ∈ xs, x.wf := fun x hx => by
    obtain ⟨i, hi⟩ := List.getElem?_of_mem hx
    obtain ⟨u, _, hu⟩ := hrel i x hi
    exact hu.wf
  have hentry : ∀ (xs : List AV) (k i : Nat), lk i (gentry k xs) = (if h : k ≤ i ∧ i - k < xs.length then (xs[i - k]'h.2) else .any) := by
    intro xs
    induction xs with
    | nil => intro k i; simp [gentry, lk]
    | cons x xs ih =>
      intro k i
      simp only [gentry, lk]
      split
      · rename_i e; subst e; simp
      · rename_i e
        rw [ih (k + 1) i]
        by_cases hk : k + 1 ≤ i ∧ i - (k + 1) < xs.length
        · rw [dif_pos hk, dif_pos ⟨by omega, by simp; omega⟩]
          have : i - k = (i - (k + 1)) + 1 := by omega
          simp only [this, List.getElem_cons_succ]
        · rw [dif_neg hk, dif_neg (by simp; omega)]
  have rel0 : RelS m N { tmps := vs.toArray ++ Array.replicate (fn.ntmps - vs.toArray.size) undef, defers := [] } (gentry 0 xs) := by
    refine ⟨rfl, by simp; omega, fun i => ?_⟩
    rw [hentry xs 0 i]
    split
    · rename_i h
      simp only [Nat.sub_zero] at h ⊢
      obtain ⟨u, h1, h2⟩ := hrel i _ (List.getElem?_eq_getElem h.2)
      have hlt := (List.getElem?_eq_some_iff.1 h1).1
      have : (vs.toArray ++ Array.replicate (fn.ntmps - vs.toArray.size) undef).getD i undef = u := by
        rw [Array.getD_eq_getD_getElem?, Array.getElem?_append_left (by simpa using hlt)]
        simp [h1]
      rw [this]; exact h2
    · exact .any
  exact main HB xs H r hGx hwf ⟨_, _, _, hinv⟩ (ctxL w m HB) rfl m w _ hinv rel0

/-! ### The loop's record beside the abstract memory. -/

/-- The abstract memory, its first k' blocks those of m0; the record l, the block D. -/
structure Jk (c : Ctx) (m0 : Mem) (k l D : Nat) (rec : Loop) (H : List Blk) (m : Mem) (W : World) : Prop where
  inv : Inv c m W H
  M : MLe m0.M m.M
  η : ∀ i, i < k → i < m.n ∧ m.η i = m0.η i
  rl : W.heap[l]? = some (.loop rec)
  dl : W.heap[D]? = some (.deferred (some []))
  Ml : m.M l = none
  MD : m.M D = none

theorem Jk.next {c : Ctx} {m0 m m' : Mem} {k l D : Nat} {rec : Loop} {H H' : List Blk} {W W' : World} (h : Jk c m0 k l D rec H m W) (hc : c.k ≤ k) (h' : Inv (ctxK W m H k) m' W' H') : Jk c m0 k l D rec H' m' W' := by
  obtain ⟨r1, r2⟩ := kept_obj h.inv h' h.rl rfl h.Ml
  obtain ⟨d1, d2⟩ := kept_obj h.inv h' h.dl rfl h.MD
  exact ⟨inv_comp h.inv hc h', h.M.trans h'.le, fun i hi => ⟨(h'.keep i hi).1, (h'.keep i hi).2.trans (h.η i hi).2⟩, r1, d1, r2, d2⟩
theorem Jk.put {c : Ctx} {m0 m : Mem} {k l D : Nat} {rec : Loop} {H : List Blk} {W : World} (h : Jk c m0 k l D rec H m W) (hl : c.w0.heap.size ≤ l) (hD : l ≠ D) (rec' : Loop) : Jk c m0 k l D rec' H m (W.putObj l (.loop rec')) :=
  ⟨inv_putObj h.inv _ h.rl rfl h.Ml hl, h.M, h.η, World.putObj_heap_same (lt_of_heap h.rl), (World.putObj_heap_other (Ne.symm hD)).trans h.dl, h.Ml, h.MD⟩

/-- Values that two memories with the same first blocks tell alike. -/
def lowV (k : Nat) : AV → Prop
  | .any => True
  | .t (.int _ _) => True
  | .t (.bool _) => True
  | .ptr i _ _ => i < k
  | _ => False
theorem RelA.low {m m' : Mem} {k : Nat} (hη : ∀ i, i < k → i < m'.n ∧ m'.η i = m.η i) {x : AV} {v : Value} (hx : lowV k x) (h : RelA m x v) : RelA m' x v := by
  cases x with
  | any => exact .any
  | t y =>
    cases y with
    | int kk n => have := h.int_inv; rw [this.1]; exact .t (.int this.2)
    | bool b => have := h.bool_inv; rw [this]; exact .t .bool
    | _ => exact hx.elim
  | ptr i off p =>
    obtain ⟨b, rfl, h1, h2⟩ := h.ptr_inv
    obtain ⟨h3, h4⟩ := hη i hx
    exact .ptr h3 (by rw [h4]; exact h2)
  | _ => exact hx.elim
theorem RelS.low {m m' : Mem} {k N : Nat} {a : Act} {s : Slots} (hη : ∀ i, i < k → i < m'.n ∧ m'.η i = m.η i) (hs : ∀ i, lowV k (lk i s)) (h : RelS m N a s) : RelS m' N a s :=
  ⟨h.1, h.2.1, fun i => RelA.low hη (hs i) (h.2.2 i)⟩

/-- A region under no round, and a temporary that it does not write. -/
theorem reg_step {E : Env} {q : List TypeId} {P : Program} (hX : XOk P E q) {gl : GCalls} (hcl : GClOk P gl) {N id : Nat} {l : List Oper} {S S1 : AS} (hd : noDefer l = true) (h : gops E q gl N l l S = some S1) {c : Ctx} {m : Mem} {w : World} {a : Act}
    (hi : Inv c m w S.H) (hs : RelS m N a S.s) (T : Nat → Prop) (hT : ∀ i, T i → ∀ o ∈ l, o.dst ≠ some i) {Q : Exit → Act → World → Prop} {n : Nat} (hK : ∀ m' w' a', Inv c m' w' S1.H → RelS m' N a' S1.s → (∀ i, T i → a'.tmps.getD i undef = a.tmps.getD i undef) → Q .normal a' w') :
    (Code.region id l.toArray false).wpIn Fence.wide n P Q a w := by
  refine wpIn_region_list ?_
  have e1 : l.toArray.toList = l ++ [] := by simp
  rw [e1]
  have := wpListIn_pre (ρ := none) (n := n) (P := P) (ops := l.toArray) (Q := Q) (D := []) (rest := []) (T := T) (t0 := a.tmps) l a w hd hT (fun i _ => rfl)
    (gops_ok hX hcl _ S S1 m w a (by simpa using h) hi hs fun m' w' a' h1 h2 h3 => by rw [more_nil]; exact hK m' w' a' h1 h2 h3)
  rwa [more_nil] at this

/-- The beginning of a region's operations. -/
theorem reg_pre {E : Env} {q : List TypeId} {P : Program} (hX : XOk P E q) {gl : GCalls} (hcl : GClOk P gl) {N : Nat} {ops pre rest : List Oper} {S S1 : AS} (hd : noDefer pre = true) (h : gops E q gl N ops pre S = some S1) {c : Ctx} {m : Mem} {w : World} {a : Act}
    (hi : Inv c m w S.H) (hs : RelS m N a S.s) (T : Nat → Prop) (hT : ∀ i, T i → ∀ o ∈ pre, o.dst ≠ some i) {Q : Exit → Act → World → Prop} {n : Nat} (hK : ∀ m' w' a', Inv c m' w' S1.H → RelS m' N a' S1.s → (∀ i, T i → a'.tmps.getD i undef = a.tmps.getD i undef) → wpListIn Fence.wide n P ops.toArray Q rest a' w') :
    wpListIn Fence.wide n P ops.toArray Q (pre ++ rest) a w := by
  have := wpListIn_pre (ρ := none) (n := n) (P := P) (ops := ops.toArray) (Q := Q) (D := []) (rest := rest) (T := T) (t0 := a.tmps) pre a w hd hT (fun i _ => rfl)
    (gops_ok hX hcl _ S S1 m w a (by simpa using h) hi hs fun m' w' a' h1 h2 h3 => by rw [more_nil]; exact hK m' w' a' h1 h2 h3)
  rwa [more_nil] at this

end Go.Fw

end

section
/- Rows in rows, in memory of their own: blocks that the abstract memory does not mention. -/
namespace Go.Fw
set_option linter.unusedVariables false
set_option linter.unusedSimpArgs false
open Go Go.RowKit

/-- A block that is not mentioned lies as it lay. -/
theorem kept_unm {m m' : Mem} {w w' : World} {HB H' : List Blk} {k b : Nat} {o : Obj} (h' : Inv (ctxK w m HB k) m' w' H') (hb : w.heap[b]? = some o) (hM : m.M b = none) (hno : ¬ lent m HB b) :
    w'.heap[b]? = some o ∧ m'.M b = none ∧ ¬ lent m' H' b := by
  have hlt := lt_of_heap hb
  refine ⟨(h'.frame b hlt hno).trans hb, ?_, fun ⟨i, B, h1, h2, h3⟩ => ?_⟩
  · cases hx : m'.M b with
    | none => rfl
    | some y =>
      rcases h'.new b y hx with h1 | ⟨h1 | h1, hp⟩
      · have : m.M b = some y := h1
        rw [hM] at this; cases this
      · exact absurd h1 (by show ¬ w.heap.size ≤ b; omega)
      · exact (hno h1).elim
  · rcases h'.own i B b h1 h2 h3 with h4 | h4
    · exact absurd h4 (by show ¬ w.heap.size ≤ b; omega)
    · exact hno h4

/-- A row's header whose block, if it is looked at, was made since, is not read only, and is not mentioned. -/
def FS (m : Mem) (H : List Blk) (w : World) (n1 : Nat) (u : Value) : Prop :=
  ∃ a len cap, u = .slice a len cap ∧ len ≤ maxLen ∧ (len = 0 ∨ ∃ b cs e, a = some ⟨b, 0, none⟩ ∧ n1 ≤ b ∧ w.heap[b]? = some (.cells cs e (0, 0)) ∧ len ≤ cs.size ∧ m.M b = none ∧ ¬ lent m H b)
theorem FS.one {m : Mem} {H : List Blk} {w : World} {n1 : Nat} {u : Value} (h : FS m H w n1 u) : u.oneCell' = true := by
  obtain ⟨a, len, cap, rfl, _⟩ := h
  rfl
theorem FS.next {m m' : Mem} {w w' : World} {HB H' : List Blk} {k n1 : Nat} {u : Value} (h : FS m HB w n1 u) (h' : Inv (ctxK w m HB k) m' w' H') : FS m' H' w' n1 u := by
  obtain ⟨a, len, cap, hu, hm, h0 | ⟨b, cs, e, ha, hn, hb, hl, hM, hno⟩⟩ := h
  · exact ⟨a, len, cap, hu, hm, .inl h0⟩
  · obtain ⟨g1, g2, g3⟩ := kept_unm h' hb hM hno
    exact ⟨a, len, cap, hu, hm, .inr ⟨b, cs, e, ha, hn, g1, hl, g2, g3⟩⟩
/-- Fewer blocks are mentioned. -/
theorem FS.weak {m m' : Mem} {w : World} {H H' : List Blk} {n1 : Nat} {u : Value} (h : FS m H w n1 u) (hM : ∀ b, m.M b = none → m'.M b = none) (hl : ∀ b, lent m' H' b → lent m H b) : FS m' H' w n1 u := by
  obtain ⟨a, len, cap, hu, hm, h0 | ⟨b, cs, e, ha, hn, hb, hlen, hMb, hno⟩⟩ := h
  · exact ⟨a, len, cap, hu, hm, .inl h0⟩
  · exact ⟨a, len, cap, hu, hm, .inr ⟨b, cs, e, ha, hn, hb, hlen, hM b hMb, fun h => hno (hl b h)⟩⟩

/-- A block is no longer mentioned. -/
theorem inv_drop {c : Ctx} {m : Mem} {w : World} {H : List Blk} (h : Inv c m w H) (i : Nat) : Inv c m w (H.set i .no) := by
  have get : ∀ j B, (H.set i .no)[j]? = some B → B = .no ∨ (H[j]? = some B ∧ j ≠ i) := by
    intro j B hj
    by_cases e : j = i
    · subst e
      rw [List.getElem?_set_self'] at hj
      cases hx : H[j]? with
      | none => rw [hx] at hj; simp at hj
      | some y => rw [hx] at hj; simp at hj; exact .inl hj.symm
    · rw [List.getElem?_set_ne (Ne.symm e)] at hj
      exact .inr ⟨hj, e⟩
  exact {
    len := by rw [List.length_set]; exact h.len
    imm := h.imm
    le := h.le
    new := h.new
    ok := fun j B hj => by
      rcases get j B hj with rfl | ⟨g, _⟩
      · trivial
      · exact h.ok j B g
    own := fun j B b hj hl hb => by
      rcases get j B hj with rfl | ⟨g, _⟩
      · cases hl
      · exact h.own j B b g hl hb
    disj := fun j k B B' b hj hk hl hl' hb hb' => by
      rcases get j B hj with rfl | ⟨g, _⟩
      · cases hl
      · rcases get k B' hk with rfl | ⟨g', _⟩
        · cases hl'
        · exact h.disj j k B B' b g g' hl hl' hb hb'
    os := h.os
    tape := h.tape
    output := h.output
    size := h.size
    frame := h.frame
    keep := h.keep }
theorem lent_drop {m : Mem} {H : List Blk} {i b : Nat} (h : lent m (H.set i .no) b) : lent m H b := by
  obtain ⟨j, B, h1, h2, h3⟩ := h
  by_cases e : j = i
  · subst e
    rw [List.getElem?_set_self'] at h1
    cases hx : H[j]? with
    | none => rw [hx] at h1; simp at h1
    | some y => rw [hx] at h1; simp at h1; subst h1; cases h2
  · rw [List.getElem?_set_ne (Ne.symm e)] at h1
    exact ⟨j, B, h1, h2, h3⟩
/-- What a row of bytes of the call's own becomes when it is no longer mentioned. -/
theorem fs_of_own {c : Ctx} {m : Mem} {w : World} {H : List Blk} (h : Inv c m w H) {i : Nat} {l : List UInt8} (hi : H[i]? = some (.by l)) (hl : l.length ≤ maxLen) {n1 : Nat} (hn : ∀ b, blk (m.η i) = some b → n1 ≤ b) : FS m (H.set i .no) w n1 (m.η i) := by
  have hb := h.ok i _ hi
  rcases hb with ⟨h1, h2⟩ | ⟨b, cap, cur, e, h1, h2, h3, h4, h5, h6, h7⟩
  · exact ⟨none, 0, 0, h1, Nat.zero_le _, .inl rfl⟩
  · have hbk : blk (m.η i) = some b := by rw [h1]; rfl
    refine ⟨some ⟨b, 0, none⟩, l.length, cap, h1, hl, .inr ⟨b, cur, e, rfl, hn b hbk, h2, by omega, h6, fun hlt => ?_⟩⟩
    obtain ⟨j, B, g1, g2, g3⟩ := hlt
    by_cases e : j = i
    · subst e
      rw [List.getElem?_set_self', hi] at g1
      simp at g1
      subst g1
      cases g2
    · rw [List.getElem?_set_ne (Ne.symm e)] at g1
      exact e (h.disj j i B _ b g1 hi g2 rfl g3 hbk)

/-- A call, out of a walk with an end of its own. -/
theorem calls_awm {P : Program} {f : FuncId} {fn : Func} {code : Code} {N np : Nat} (hfn : P.funcs[f]? = some fn) (hb : fn.body = some code) (hN : fn.ntmps = N) (hnp : np ≤ N) {HB : List Blk} {xs : List AV} (hxs : xs.length = np) {m : Mem} {w : World} {vs : List Value}
    (hinv : Inv (ctxL w m HB) m w HB) (hlen : vs.length = xs.length) (hrel : ∀ (i : Nat) (x : AV), xs[i]? = some x → ∃ u, vs[i]? = some u ∧ RelA m x u) {R : Ctx → Ending → World → Prop}
    (main : AWM HB.length P N code (fun c => bodyPost P fn (R c)) ⟨gentry 0 xs, HB⟩) : Calls P f vs.toArray w (R (ctxL w m HB)) := by
  refine (callsIn_wide (n := 0)).1 (callsIn_of_wp hfn hb trivial ?_)
  have hentry : ∀ (xs : List AV) (k i : Nat), lk i (gentry k xs) = (if h : k ≤ i ∧ i - k < xs.length then (xs[i - k]'h.2) else .any) := by
    intro xs
    induction xs with
    | nil => intro k i; simp [gentry, lk]
    | cons x xs ih =>
      intro k i
      simp only [gentry, lk]
      split
      · rename_i e; subst e; simp
      · rename_i e
        rw [ih (k + 1) i]
        by_cases hk : k + 1 ≤ i ∧ i - (k + 1) < xs.length
        · rw [dif_pos hk, dif_pos ⟨by omega, by simp; omega⟩]
          have : i - k = (i - (k + 1)) + 1 := by omega
          simp only [this, List.getElem_cons_succ]
        · rw [dif_neg hk, dif_neg (by simp; omega)]
  have rel0 : RelS m N { tmps := vs.toArray ++ Array.replicate (fn.ntmps - vs.toArray.size) undef, defers := [] } (gentry 0 xs) := by
    refine ⟨rfl, by simp; omega, fun i => ?_⟩
    rw [hentry xs 0 i]
    split
    · rename_i h
      simp only [Nat.sub_zero] at h ⊢
      obtain ⟨u, h1, h2⟩ := hrel i _ (List.getElem?_eq_getElem h.2)
      have hlt := (List.getElem?_eq_some_iff.1 h1).1
      have : (vs.toArray ++ Array.replicate (fn.ntmps - vs.toArray.size) undef).getD i undef = u := by
        rw [Array.getD_eq_getD_getElem?, Array.getElem?_append_left (by simpa using hlt)]
        simp [h1]
      rw [this]; exact h2
    · exact .any
  exact main (ctxL w m HB) rfl m w _ hinv rel0

end Go.Fw

end

section
/- Blocks that the abstract memory does not mention are overwritten. -/
namespace Go.Fw
set_option linter.unusedVariables false
set_option linter.unusedSimpArgs false
open Go Go.RowKit

/-- A block that is not mentioned is turned. -/
theorem inv_turnUn {c : Ctx} {m : Mem} {w w2 : World} {H : List Blk} (h : Inv c m w H) {r : Nat} (hM : m.M r = none) (hno : ¬ lent m H r) (hc : c.w0.heap.size ≤ r)
    (ho : ∀ x, x ≠ r → w2.heap[x]? = w.heap[x]?) (hs : w2.heap.size = w.heap.size) (h1 : w2.os = w.os) (h2 : w2.tape = w.tape) (h3 : w2.output = w.output) : Inv c m w2 H := by
  have hne : ∀ i B b, H[i]? = some B → B.live = true → blk (m.η i) = some b → b ≠ r := by
    intro i B b hi hl hb e
    subst e
    exact hno ⟨i, B, hi, hl, hb⟩
  exact {
    len := h.len
    imm := fun b x hb => (ho b (fun e => by subst e; rw [hM] at hb; cases hb)).trans (h.imm b x hb)
    le := h.le
    new := h.new
    ok := fun i B hi => (h.ok i B hi).move (.refl m) (fun b hl hb => ((h.ok i B hi).at hl hb).1) (fun b hl hb => ho b (hne i B b hi hl hb))
    own := h.own
    disj := h.disj
    os := h1.trans h.os
    tape := h2.trans h.tape
    output := h3.trans h.output
    size := Nat.le_trans h.size (Nat.le_of_eq hs.symm)
    frame := fun b hb hO => (ho b (by omega)).trans (h.frame b hb hO)
    keep := h.keep }
/-- Its cells are other cells, as many. -/
theorem FS.turn {m : Mem} {H : List Blk} {w w2 : World} {n1 r : Nat} {u : Value} {cs cs' : Array Value} {e : TypeId} (h : FS m H w n1 u) (hr : w.heap[r]? = some (.cells cs e (0, 0))) (hr2 : w2.heap[r]? = some (.cells cs' e (0, 0))) (hz : cs'.size = cs.size)
    (ho : ∀ x, x ≠ r → w2.heap[x]? = w.heap[x]?) : FS m H w2 n1 u := by
  obtain ⟨a, len, cap, hu, hm, h0 | ⟨b, cs1, e1, ha, hn, hb, hl, hM, hno⟩⟩ := h
  · exact ⟨a, len, cap, hu, hm, .inl h0⟩
  · by_cases hbr : b = r
    · subst hbr
      rw [hr] at hb
      cases hb
      exact ⟨a, len, cap, hu, hm, .inr ⟨b, cs', e, ha, hn, hr2, by omega, hM, hno⟩⟩
    · exact ⟨a, len, cap, hu, hm, .inr ⟨b, cs1, e1, ha, hn, (ho b hbr).trans hb, hl, hM, hno⟩⟩

/-- A contract of told content, out of a walk with a part walked by itself. -/
theorem aconcM {P : Program} {E : Env} (hE : EnvOk P E) {f : FuncId} {fn : Func} {code : Code} {N np : Nat} {rs : List RS} (hfn : P.funcs[f]? = some fn) (hb : fn.body = some code) (hN : fn.ntmps = N)
    (hname : (fn.name == "runtime.NumGoroutine") = false) (hres : fn.results.toList = rs.map RS.var) (hnp : np ≤ N) (F : Fun) (hF : ∀ ts, ts.length ≠ np → F ts = none)
    (main : ∀ ts H r, F ts = some (H, r) → (∀ t ∈ ts, t.wf) → AWM 0 P N code (fun c => bodyPostM Fence.wide 0 P fn (Rg c H r)) ⟨entry 0 ts, []⟩) : ACon P f F := by
  refine ACon.of_g (gconcM hE hfn hb hN hname hres hnp (treeG F) (fun HB xs hl => ?_) fun HB xs H r hG hwf hex => ?_)
  · unfold treeG
    split
    · split
      · rename_i ts hts
        have := allT_ok xs ts hts
        subst this
        exact hF ts (by simpa using hl)
      · rfl
    · rfl
  · unfold treeG at hG
    split at hG
    · split at hG
      · rename_i ts hts
        have := allT_ok xs ts hts
        subst this
        rw [gentry_map]
        exact main ts H r hG (fun t ht => by have := hwf (.t t) (List.mem_map_of_mem ht); simpa only [AV.wf] using this)
      · cases hG
    · cases hG

/-- Ways that come together ahead of a part walked by itself. -/
def cutMQ (kp : Nat) (P : Program) (N : Nat) (y : Code) (K : Ctx → Exit → Act → World → Prop) (S' : AS) : Exit → AS → Prop
  | .normal, S => Weak kp N S S'
  | e, S => seqM kp P N y K e S
theorem AWM.cut {kp : Nat} {P : Program} {N : Nat} {x y : Code} {K : Ctx → Exit → Act → World → Prop} {S : AS} (S' : AS) (h : AWP kp P N x (cutMQ kp P N y K S') S) (k : AWM kp P N y K S') : AWM kp P N (.seq x y) K S :=
  AWM.seq (h.mono fun e S hq => by
    cases e with
    | normal => exact AWM.weak hq k
    | _ => exact hq)

end Go.Fw

end

section
/- A row that is known by its header alone: its length, a place in it, a store into it. -/
namespace Go.Fw
set_option linter.unusedVariables false
set_option linter.unusedSimpArgs false
open Go Go.RowKit

theorem wl_len {F : Fence} {n : Nat} {P : Program} {E : Env} (hE : EnvOk P E) {w : World} {ops : Array Oper} {rest : List Oper} {o : Oper} {a : Act} {Q : Exit → Act → World → Prop} (hg : o.guard = none)
    {x : Operand} {t e : TypeId} (hop : o.op = Op.call { callee := Callee.builtin Builtin.len, args := #[x], argTypes := #[t] }) (ht : (E t).ty = .sl e) {ad : Option Addr} {len cap : Nat} (hx : a.eval x = .slice ad len cap)
    (hK : wpListIn F n P ops Q rest (a.put o.dst (.int .i64 len)) w) : wpListIn F n P ops Q (o :: rest) a w := by
  have d := (hE.ty ht (by simp)).1
  simp only [DescOk] at d
  refine wpListIn_plain hg fun K hK' => ?_
  unfold Oper.wpIn
  refine ⟨?_, ?_⟩
  · simp [Oper.about, hop, resolve, Target.leads, Sem.run_pure]
  · rw [Oper.semAt_eq _ _ _ (by rw [hop]; intro c hc'; cases hc')]
    simp [execOp, hop, resolve, invoke, builtin, hx, Builtin.len_, run_underlying d, goInt, Result.andThen]
    exact hK' _ _ hK

theorem wl_index {F : Fence} {n : Nat} {P : Program} {E : Env} (hE : EnvOk P E) {w : World} {ops : Array Oper} {rest : List Oper} {o : Oper} {a : Act} {Q : Exit → Act → World → Prop} (hg : o.guard = none)
    {x i : Operand} {t e : TypeId} (hop : o.op = Op.indexAddr t x i) (ht : (E t).ty = .sl e) (hs : (E e).size = 1) {b len cap : Nat} {k : IntKind} {j : Int} (hx : a.eval x = .slice (some ⟨b, 0, none⟩) len cap) (hi : a.eval i = .int k j) (h0 : 0 ≤ j) (hj : j < len)
    (hK : wpListIn F n P ops Q rest (a.put o.dst (.pointer (some ⟨b, j.toNat, none⟩))) w) : wpListIn F n P ops Q (o :: rest) a w := by
  have d := (hE.ty ht (by simp)).1
  simp only [DescOk] at d
  have hrun := run_indexAt_sl d (hE.size hs (by omega)) (w := w) (b := b) (o := 0) (n := len) (cap := cap) (k := k) h0 hj
  rw [hs] at hrun
  simp only [Nat.zero_add, Nat.mul_one] at hrun
  refine wpListIn_plain hg fun K hK' => ?_
  unfold Oper.wpIn
  refine ⟨?_, ?_⟩
  · simp [Oper.about, hop]
  · rw [Oper.semAt_eq _ _ _ (by rw [hop]; intro c hc'; cases hc')]
    simp [execOp, hop, hx, hi, hrun, Result.andThen]
    exact hK' _ _ hK

theorem wl_store {F : Fence} {n : Nat} {P : Program} {E : Env} (hE : EnvOk P E) {w : World} {ops : Array Oper} {rest : List Oper} {o : Oper} {a : Act} {Q : Exit → Act → World → Prop} (hg : o.guard = none)
    {x y : Operand} {t : TypeId} (hop : o.op = Op.store t x y) (hs : (E t).size = 1) {b j : Nat} {cs : Array Value} {ty : TypeId} {k : IntKind} {z : Int} (hx : a.eval x = .pointer (some ⟨b, j, none⟩)) (hy : a.eval y = .int k z) {fr : Nat × Nat} (hb : w.heap[b]? = some (.cells cs ty fr)) (hpl : plainO (.cells cs ty fr)) (hj : j < cs.size)
    (hK : ∀ w2, w2.heap[b]? = some (.cells (cs.setIfInBounds j (.int k z)) ty fr) → (∀ x, x ≠ b → w2.heap[x]? = w.heap[x]?) → w2.heap.size = w.heap.size → w2.os = w.os → w2.tape = w.tape → w2.output = w.output → wpListIn F n P ops Q rest (a.put o.dst undef) w2) : wpListIn F n P ops Q (o :: rest) a w := by
  have he := hE.size hs (by omega)
  have hfro : w.frozen? ⟨b, j, none⟩ = false := by
    simp only [World.frozen?, hb]
    rcases hpl with h | h
    · subst h; simp
    · simp; omega
  have hcell : w.cell? ⟨b, j, none⟩ = some cs[j] := by simp [World.cell?, hb, hj]
  have hst : (storeCells ⟨b, j, none⟩ [.int k z] 0).run P w = .ok () (w.setRow b (cs.setIfInBounds j (.int k z))) := by
    have hadd : (⟨b, j, none⟩ : Addr).add 0 = ⟨b, j, none⟩ := by unfold Addr.add; split <;> simp_all
    simp only [storeCells, Sem.run_bind, hadd, run_store P w ⟨b, j, none⟩ (.int k z) _ (by simp [Value.oneCell']), hcell]
    simp [hfro, setCell_eq_setRow w b j cs ty fr _ hb]
  refine wpListIn_plain hg fun K hK' => ?_
  unfold Oper.wpIn
  refine ⟨?_, ?_⟩
  · simp [Oper.about, hop]
  · rw [Oper.semAt_eq _ _ _ (by rw [hop]; intro c hc'; cases hc')]
    simp [execOp, hop, hx, hy, Instr.storeAt, Instr.sureAddr, storeVar, he.sizeOf, hs, Value.cells, hst, Result.andThen]
    exact hK' _ _ (hK (w.setRow b _) (setRow_heap w b cs _ ty _ hb) (fun x hx => setRow_other w b x _ hx) (by simp [World.setRow]) rfl rfl rfl)

end Go.Fw

end

section
/- A call that is lent one row of bytes and gets nothing else to look at: what it tells lies in memory made since. -/
namespace Go.Fw
set_option linter.unusedVariables false
set_option linter.unusedSimpArgs false
open Go Go.RowKit

/-- Two memories read only. -/
def Mem.with (m : Mem) (M' : Nat → Option Obj) : Mem := ⟨fun b => match m.M b with | some o => some o | none => M' b, m.η, m.n⟩
theorem Mem.with_le (m : Mem) (M' : Nat → Option Obj) : MLe m.M (m.with M').M := fun b o h => by simp [Mem.with, h]
theorem Mem.with_or {m : Mem} {M' : Nat → Option Obj} {b : Nat} {o : Obj} (h : (m.with M').M b = some o) : m.M b = some o ∨ (m.M b = none ∧ M' b = some o) := by
  simp only [Mem.with] at h
  split at h
  · exact .inl (by simp_all)
  · exact .inr ⟨by assumption, h⟩
theorem Mem.with_none {m : Mem} {M' : Nat → Option Obj} {b : Nat} (h : m.M b = none) (h' : M' b = none) : (m.with M').M b = none := by simp [Mem.with, h, h']
theorem Ext.with (m : Mem) (M' : Nat → Option Obj) : Ext m (m.with M') := ⟨m.with_le M', Nat.le_refl _, fun _ _ => rfl⟩

/-- The memory of such a call. -/
def mem1 (hd : Value) : Mem := ⟨fun _ => none, fun _ => hd, 1⟩

theorem inv_mem1 {c : Ctx} {m : Mem} {w : World} {H : List Blk} (h : Inv c m w H) {j : Nat} {l : List UInt8} (hj : H[j]? = some (.by l)) : Inv (ctxL w (mem1 (m.η j)) [.by l]) (mem1 (m.η j)) w [.by l] where
  len := rfl
  imm := fun b o hb => by cases hb
  le := .refl _
  new := fun b o hb => by cases hb
  ok := fun i B hi => by
    have hlt := (List.getElem?_eq_some_iff.1 hi).1
    obtain rfl : i = 0 := by simpa using hlt
    cases hi
    rcases h.ok j _ hj with h1 | ⟨b, cap, cur, e, h1, h2, h3, h4, h5, h6, h7⟩
    · exact .inl h1
    · exact .inr ⟨b, cap, cur, e, h1, h2, h3, h4, h5, rfl, h7⟩
  own := fun i B b h1 h2 h3 => .inr ⟨i, B, h1, h2, h3⟩
  disj := fun i j B B' b h1 h2 _ _ _ _ => by
    have := (List.getElem?_eq_some_iff.1 h1).1
    have := (List.getElem?_eq_some_iff.1 h2).1
    simp at *; omega
  os := rfl
  tape := rfl
  output := rfl
  size := Nat.le_refl _
  frame := fun b _ _ => rfl
  keep := fun i hi => ⟨hi, rfl⟩

theorem lent_mem1 {c : Ctx} {m : Mem} {w : World} {H : List Blk} (h : Inv c m w H) {j : Nat} {l : List UInt8} (hj : H[j]? = some (.by l)) {b : Nat} (hb : lent (mem1 (m.η j)) [.by l] b) : blk (m.η j) = some b ∧ lent m H b ∧ m.M b = none := by
  obtain ⟨i, B, h1, h2, h3⟩ := hb
  have h3' : blk (m.η j) = some b := h3
  exact ⟨h3', ⟨j, _, hj, rfl, h3'⟩, ((h.ok j _ hj).at rfl h3').1⟩

theorem inv_fresh {c : Ctx} {m m' : Mem} {w w' : World} {H : List Blk} (h : Inv c m w H) {k j : Nat} (hk : k ≤ H.length) {l : List UInt8} (hj : H[j]? = some (.by l)) (h' : Inv (ctxL w (mem1 (m.η j)) [.by l]) m' w' [.by l]) :
    (∀ b o, m'.M b = some o → w.heap.size ≤ b ∧ plainO o) ∧ Inv (ctxK w m H k) (m.with m'.M) w' H := by
  have hk0 : m'.η 0 = m.η j := (h'.keep 0 (by show 0 < 1; omega)).2
  have hdom : ∀ b o, m'.M b = some o → w.heap.size ≤ b := fun b o hb => by
    rcases h'.new b o hb with h1 | ⟨h1 | h1, hp⟩
    · cases h1
    · exact h1
    · obtain ⟨g1, _, _⟩ := lent_mem1 h hj h1
      have := ((h'.ok 0 _ rfl).at rfl (by rw [hk0]; exact g1)).1
      rw [hb] at this; cases this
  have hfr : ∀ b, b < w.heap.size → blk (m.η j) ≠ some b → w'.heap[b]? = w.heap[b]? := fun b hb hn => h'.frame b hb fun hl => hn (lent_mem1 h hj hl).1
  have hnone : ∀ b, b < w.heap.size → m'.M b = none := fun b hb => by
    cases hx : m'.M b with
    | none => rfl
    | some o => have := hdom b o hx; omega
  refine ⟨fun b o hb => ⟨hdom b o hb, by
    rcases h'.new b o hb with h2 | ⟨_, hp⟩
    · cases h2
    · exact hp⟩, ?_⟩
  exact {
    len := h.len
    imm := fun b o hb => by
      rcases Mem.with_or hb with h1 | ⟨_, h1⟩
      · have h2 := h.imm b o h1
        rw [hfr b (lt_of_heap h2) fun hn => by have := ((h.ok j _ hj).at rfl hn).1; rw [h1] at this; cases this]
        exact h2
      · exact h'.imm b o h1
    le := m.with_le _
    new := fun b o hb => by
      rcases Mem.with_or hb with h1 | ⟨_, h1⟩
      · exact .inl h1
      · refine .inr ⟨.inl (hdom b o h1), ?_⟩
        rcases h'.new b o h1 with h2 | ⟨_, hp⟩
        · cases h2
        · exact hp
    ok := fun i B hi => by
      by_cases e : i = j
      · subst e
        rw [hj] at hi; cases hi
        have g := h'.ok 0 _ rfl
        rw [hk0] at g
        rcases g with h1 | ⟨b, cap, cur, e, h1, h2, h3, h4, h5, h6, h7⟩
        · exact .inl h1
        · exact .inr ⟨b, cap, cur, e, h1, h2, h3, h4, h5, Mem.with_none ((h.ok i _ hj).at rfl (by rw [h1]; rfl)).1 h6, h7⟩
      · refine (h.ok i B hi).move (Ext.with m _) (fun b hl hb => ?_) (fun b hl hb => ?_)
        · obtain ⟨g1, g2⟩ := (h.ok i B hi).at hl hb
          exact Mem.with_none g1 (hnone b g2)
        · exact hfr b ((h.ok i B hi).at hl hb).2 fun hn => e (h.disj i j B _ b hi hj hl rfl hb hn)
    own := fun i B b h1 h2 h3 => .inr ⟨i, B, h1, h2, h3⟩
    disj := h.disj
    os := h'.os
    tape := h'.tape
    output := h'.output
    size := h'.size
    frame := fun b hb hO => h'.frame b hb fun hl => hO (lent_mem1 h hj hl).2.1
    keep := fun i hi => ⟨by rw [show (m.with m'.M).n = m.n from rfl, h.len]; exact Nat.lt_of_lt_of_le hi hk, rfl⟩ }

/-- The call. -/
theorem GCon.fresh {P : Program} {f : FuncId} {G : GFun} (hG : GCon P f G) {l : List UInt8} {xs : List AV} {rs : List T} (hr : G [.by l] xs = some ([.by l], .tup (rs.map .t))) {c : Ctx} {m : Mem} {w : World} {H : List Blk} (h : Inv c m w H) {k j : Nat} (hk : k ≤ H.length)
    (hj : H[j]? = some (.by l)) {vs : List Value} (hlen : vs.length = xs.length) (hrel : ∀ (i : Nat) (x : AV), xs[i]? = some x → ∃ u, vs[i]? = some u ∧ RelA (mem1 (m.η j)) x u) :
    Calls P f vs.toArray w (fun e w' => ∃ (M' : Nat → Option Obj) (us : Array Value), e = .returned (.tuple us) ∧ us.size = rs.length ∧ (∀ i t, rs[i]? = some t → RelT M' t (us.getD i undef)) ∧ (∀ b o, M' b = some o → w.heap.size ≤ b ∧ plainO o) ∧ Inv (ctxK w m H k) (m.with M') w' H ∧ MLe M' (m.with M').M) := by
  refine (hG.2 _ _ _ _ hr (mem1 (m.η j)) w vs (inv_mem1 h hj) hlen hrel).mono fun e w' ⟨m', v, he, hle, h', hv⟩ => ?_
  obtain ⟨h1, h2⟩ := inv_fresh h hk hj h'
  generalize hx : AV.tup (rs.map AV.t) = x at hv
  cases hv <;> cases hx
  rename_i us hs hu
  refine ⟨m'.M, us, he, by simpa using hs, fun i t ht => ?_, h1, h2, fun b o hb => ?_⟩
  · exact (hu i (.t t) (by simp [ht])).t_inv
  · have h3 := (h1 b o hb).1
    cases hx : m.M b with
    | some o' => have := lt_of_heap (h.imm b o' hx); omega
    | none => simp [Mem.with, hx, hb]

/-- A walk in the midst, by itself. -/
theorem wpIn_frame {k : Nat} {P : Program} {N : Nat} {code : Code} {Q : Exit → AS → Prop} {s : Slots} {H : List Blk} (h : AWP k P N code Q ⟨s, H⟩) (hk : k ≤ H.length) {c : Ctx} {m : Mem} {w : World} {a : Act} (hi : Inv c m w H) (hs : RelS m N a s) :
    code.wpIn Fence.wide 0 P (fun e a' w' => ∃ m1 S1, Inv (ctxK w m H k) m1 w' S1.H ∧ RelS m1 N a' S1.s ∧ Q e S1) a w := wpIn_wide.2 (h (ctxK w m H k) rfl m w a (inv_ctxK hi hk) hs)

end Go.Fw

end

section
/- Rows of bytes that were told, in memory made since: they are overwritten, one byte after the other. -/
namespace Go.Fw
set_option linter.unusedVariables false
set_option linter.unusedSimpArgs false
open Go Go.RowKit

/-! ### A row that is lent as a whole, as a part of itself. -/
def ownSub (G : GFun) : GFun
  | [.by b], .own 0 :: r => G [.by b] (.sub 0 [] 1 0 0 b.length :: r)
  | _, _ => none
theorem RelA.own_sub {c : Ctx} {m : Mem} {w : World} {H : List Blk} (h : Inv c m w H) {i : Nat} {b : List UInt8} (hi : H[i]? = some (.by b)) : RelA m (.sub i [] 1 0 0 b.length) (m.η i) := by
  have hn : i < m.n := by rw [h.len]; exact (List.getElem?_eq_some_iff.1 hi).1
  rcases h.ok i _ hi with ⟨h1, h2⟩ | ⟨bb, cap, cur, e, h1, h2, h3, h4, h5, h6, h7⟩
  · rw [h1, h2]
    exact .sub hn (Nat.le_refl _) (Nat.zero_le _) (.inl ⟨rfl, rfl, rfl⟩)
  · rw [h1]
    exact .sub hn h4 h5 (.inr ⟨bb, 0, by rw [h1]; rfl, rfl, fun _ => rfl⟩)
theorem GCon.ownSub {P : Program} {f : FuncId} {G : GFun} (h : GCon P f G) : GCon P f (ownSub G) := by
  refine ⟨h.1, fun HB xs H' r hG m w vs hi hl hr => ?_⟩
  unfold Fw.ownSub at hG
  split at hG
  · rename_i b r'
    refine h.2 _ _ _ _ hG m w vs hi (by simpa using hl) fun i x hx => ?_
    match i, hx with
    | 0, hx =>
      cases hx
      obtain ⟨u, hu, hru⟩ := hr 0 _ rfl
      have := hru.own_inv.1
      subst this
      exact ⟨_, hu, RelA.own_sub hi rfl⟩
    | i + 1, hx => exact hr (i + 1) x hx
  · cases hG

/-! ### Memory read only, told anew. -/
theorem inv_reset {c : Ctx} {m : Mem} {w : World} {b0 : List UInt8} (h : Inv c m w [.by b0]) {M2 : Nat → Option Obj} (himm : ∀ b o, M2 b = some o → w.heap[b]? = some o) (hle : MLe c.M0 M2)
    (hnew : ∀ b o, M2 b = some o → c.M0 b = some o ∨ ((c.w0.heap.size ≤ b ∨ c.O b) ∧ plainO o)) (hlive : ∀ b, blk (m.η 0) = some b → M2 b = none) : Inv c ⟨M2, m.η, m.n⟩ w [.by b0] where
  len := h.len
  imm := himm
  le := hle
  new := hnew
  ok := fun i B hi => by
    have hlt := (List.getElem?_eq_some_iff.1 hi).1
    obtain rfl : i = 0 := by simpa using hlt
    cases hi
    rcases h.ok 0 _ rfl with h1 | ⟨bb, cap, cur, e, h1, h2, h3, h4, h5, h6, h7⟩
    · exact .inl h1
    · exact .inr ⟨bb, cap, cur, e, h1, h2, h3, h4, h5, hlive bb (by rw [h1]; rfl), h7⟩
  own := h.own
  disj := h.disj
  os := h.os
  tape := h.tape
  output := h.output
  size := h.size
  frame := h.frame
  keep := h.keep

/-- One block of bytes, turned. -/
def setM (M : Nat → Option Obj) (b : Nat) (o : Obj) : Nat → Option Obj := fun x => if x = b then some o else M x
theorem setM_same (M : Nat → Option Obj) (b : Nat) (o : Obj) : setM M b o b = some o := if_pos rfl
theorem setM_ne {M : Nat → Option Obj} {b x : Nat} {o : Obj} (h : x ≠ b) : setM M b o x = M x := if_neg h

/-- Leaves that no store of a byte can turn. -/
def hard : T → Prop
  | .int k _ => k ≠ .u8
  | .op v => ∃ a n c, v = .slice a n c
  | _ => False
theorem hard_rel {M M' : Nat → Option Obj} {c : T} {u : Value} (h : RelT M c u) (hc : hard c) : RelT M' c u ∧ ∀ n, u ≠ .int .u8 n := by
  cases h <;> simp only [hard] at hc
  · rename_i k n hk
    exact ⟨.int hk, fun m hm => by cases hm; exact hc rfl⟩
  · rename_i hv
    obtain ⟨a, n, cc, rfl⟩ := hc
    exact ⟨.op hv, fun m hm => by cases hm⟩
theorem RelT.sq_inv {M : Nat → Option Obj} {sz : Nat} {xs : List T} {v : Value} (h : RelT M (.sq sz xs) v) : (xs = [] ∧ 0 < sz ∧ ∃ a, v = .slice a 0 0) ∨
    ∃ (b off cap : Nat) (cur : Array Value) (ty : TypeId) (fr : Nat × Nat) (g : Nat → Value), v = .slice (some ⟨b, off, none⟩) xs.length cap ∧ M b = some (.cells cur ty fr) ∧ T.wf (.sq sz xs) ∧ xs.length ≤ cap ∧ cap ≤ maxLen ∧ (∀ (i : Nat) (c : T), (T.cellsL xs)[i]? = some c → cur[off + i]? = some (g i)) ∧ (∀ (i : Nat) (c : T), (T.cellsL xs)[i]? = some c → RelT M c (g i)) := by
  cases h with
  | sqn h => exact .inl ⟨rfl, h, _, rfl⟩
  | sq hM hw hl hm g hc hr => exact .inr ⟨_, _, _, _, _, _, g, rfl, hM, hw, hl, hm, hc, hr⟩
theorem RelT.by_inv {M : Nat → Option Obj} {l : List UInt8} {v : Value} (h : RelT M (.by l) v) : (l = [] ∧ ∃ a, v = .slice a 0 0) ∨
    ∃ (b off cap : Nat) (cur : Array Value) (ty : TypeId) (fr : Nat × Nat), v = .slice (some ⟨b, off, none⟩) l.length cap ∧ M b = some (.cells cur ty fr) ∧ l.length ≤ cap ∧ cap ≤ maxLen ∧ (∀ (i : Nat) (c : UInt8), l[i]? = some c → cur[off + i]? = some (vu8 c)) := by
  cases h with
  | byn => exact .inl ⟨rfl, _, rfl⟩
  | «by» hM hl hm hc => exact .inr ⟨_, _, _, _, _, _, rfl, hM, hl, hm, hc⟩
theorem RelT.by_one {M : Nat → Option Obj} {l : List UInt8} {v : Value} (h : RelT M (.by l) v) : v.oneCell' = true := by
  rcases h.by_inv with ⟨_, a, rfl⟩ | ⟨b, off, cap, cur, ty, fr, rfl, _⟩ <;> rfl
theorem RelT.sq_one {M : Nat → Option Obj} {sz : Nat} {xs : List T} {v : Value} (h : RelT M (.sq sz xs) v) : v.oneCell' = true := by
  rcases h.sq_inv with ⟨_, _, a, rfl⟩ | ⟨b, off, cap, cur, ty, fr, g, rfl, _⟩ <;> rfl
/-- A row of such leaves, behind a store of a byte. -/
theorem row_set {M : Nat → Option Obj} {sz : Nat} {xs : List T} {v : Value} (h : RelT M (.sq sz xs) v) (hh : ∀ c ∈ T.cellsL xs, hard c) {b p : Nat} {cs : Array Value} {e : TypeId} {fr : Nat × Nat} (hb : M b = some (.cells cs e fr)) {n : Int} (hp : cs[p]? = some (.int .u8 n)) {z : Int} :
    RelT (setM M b (.cells (cs.setIfInBounds p (.int .u8 z)) e fr)) (.sq sz xs) v := by
  rcases h.sq_inv with ⟨rfl, h0, a, rfl⟩ | ⟨B, off, cap, cur, ty, fr', g, rfl, hM, hw, hl, hm, hc, hr⟩
  · exact .sqn h0
  · by_cases hB : B = b
    · subst hB
      rw [hb] at hM; cases hM
      refine .sq (setM_same _ _ _) hw hl hm g (fun i c hi => ?_) (fun i c hi => (hard_rel (hr i c hi) (hh c (List.mem_of_getElem? hi))).1)
      have h1 := hc i c hi
      have h2 := (hard_rel (M' := M) (hr i c hi) (hh c (List.mem_of_getElem? hi))).2
      rw [Array.getElem?_setIfInBounds]
      split
      · rename_i hpe
        subst hpe
        rw [h1] at hp
        exact absurd (Option.some.inj hp) (h2 n)
      · exact h1
    · exact .sq (by rw [setM_ne hB]; exact hM) hw hl hm g hc (fun i c hi => (hard_rel (hr i c hi) (hh c (List.mem_of_getElem? hi))).1)

/-- A row of bytes by its header, in memory made since, beside the base. -/
def Scr (c0 : Nat) (Mb M : Nat → Option Obj) (u : Value) : Prop :=
  ∃ a len cap, u = .slice a len cap ∧ len ≤ maxLen ∧ (len = 0 ∨ ∃ b off cs e fr, a = some ⟨b, off, none⟩ ∧ c0 ≤ b ∧ Mb b = none ∧ M b = some (.cells cs e fr) ∧ plainO (.cells cs e fr) ∧ off + len ≤ cs.size ∧ ∀ j, j < len → ∃ n, cs[off + j]? = some (.int .u8 n))
theorem Scr.mono {c0 : Nat} {Mb M M' : Nat → Option Obj} {u : Value} (h : Scr c0 Mb M u) (hM : MLe M M') : Scr c0 Mb M' u := by
  obtain ⟨a, len, cap, h1, h2, h3⟩ := h
  exact ⟨a, len, cap, h1, h2, h3.imp id fun ⟨b, off, cs, e, fr, g1, g2, g3, g4, g5, g6, g7⟩ => ⟨b, off, cs, e, fr, g1, g2, g3, hM _ _ g4, g5, g6, g7⟩⟩
theorem Scr.set {c0 : Nat} {Mb M : Nat → Option Obj} {u : Value} (h : Scr c0 Mb M u) {b p : Nat} {cs : Array Value} {e : TypeId} {fr : Nat × Nat} (hb : M b = some (.cells cs e fr)) {z : Int} : Scr c0 Mb (setM M b (.cells (cs.setIfInBounds p (.int .u8 z)) e fr)) u := by
  obtain ⟨a, len, cap, h1, h2, h3⟩ := h
  refine ⟨a, len, cap, h1, h2, h3.imp id fun ⟨b', off, cs', e', fr', g1, g2, g3, g4, g5, g6, g7⟩ => ?_⟩
  by_cases hB : b' = b
  · subst hB
    rw [hb] at g4; cases g4
    refine ⟨b', off, _, e, fr, g1, g2, g3, setM_same _ _ _, ?_, by simpa using g6, fun j hj => ?_⟩
    · simpa [plainO] using g5
    · obtain ⟨n, hn⟩ := g7 j hj
      rw [Array.getElem?_setIfInBounds]
      split
      · rename_i hpe
        have := (Array.getElem?_eq_some_iff.1 hn).1
        rw [if_pos (by omega)]
        exact ⟨z, rfl⟩
      · exact ⟨n, hn⟩
  · exact ⟨b', off, cs', e', fr', g1, g2, g3, by rw [setM_ne hB]; exact g4, g5, g6, g7⟩
theorem Scr.of {c0 : Nat} {Mb N M : Nat → Option Obj} {l : List UInt8} {u : Value} (h : RelT N (.by l) u) (hm : l.length ≤ maxLen) (hN : ∀ b o, N b = some o → c0 ≤ b ∧ Mb b = none ∧ plainO o) (hM : MLe N M) : Scr c0 Mb M u := by
  rcases h.by_inv with ⟨rfl, a, rfl⟩ | ⟨b, off, cap, cur, ty, fr, rfl, hb, hl, hcap, hc⟩
  · exact ⟨_, _, _, rfl, Nat.zero_le _, .inl rfl⟩
  · refine ⟨_, _, _, rfl, hm, ?_⟩
    cases l with
    | nil => exact .inl rfl
    | cons y l =>
      refine .inr ⟨b, off, cur, ty, fr, rfl, (hN _ _ hb).1, (hN _ _ hb).2.1, hM _ _ hb, (hN _ _ hb).2.2, ?_, fun j hj => ?_⟩
      · have h1 := hc ((y :: l).length - 1) _ (List.getElem?_eq_getElem (by simp))
        have := (Array.getElem?_eq_some_iff.1 h1).1
        simp only [List.length_cons] at this ⊢
        omega
      · exact ⟨_, hc j _ (List.getElem?_eq_getElem hj)⟩

/-- Rows of bytes, told by their headers. -/
theorem bys_op {N : Nat → Option Obj} {ls : List (List UInt8)} {v : Value} (h : RelT N (.sq 1 (ls.map .by)) v) : ∃ us : List Value, us.length = ls.length ∧ RelT N (.sq 1 (us.map .op)) v ∧ ∀ i u, us[i]? = some u → RelT N (.by (ls.getD i [])) u := by
  have hcl : ∀ ls : List (List UInt8), T.cellsL (ls.map .by) = ls.map .by := by
    intro ls
    induction ls with
    | nil => rfl
    | cons x ls ih => simp [T.cellsL, T.cells, ih]
  have hco : ∀ us : List Value, T.cellsL (us.map .op) = us.map .op := by
    intro us
    induction us with
    | nil => rfl
    | cons x us ih => simp [T.cellsL, T.cells, ih]
  rcases h.sq_inv with ⟨h1, h2, a, rfl⟩ | ⟨B, off, cap, cur, ty, fr, g, rfl, hM, hw, hl, hm, hc, hr⟩
  · have : ls = [] := by simpa using h1
    subst this
    exact ⟨[], rfl, .sqn h2, fun i u hu => by simp at hu⟩
  · rw [hcl] at hc hr
    have hg : ∀ i, i < ls.length → RelT N (.by (ls.getD i [])) (g i) := fun i hi => by
      refine hr i _ ?_
      rw [List.getElem?_map, List.getElem?_eq_getElem hi]
      simp [List.getD_eq_getElem?_getD, hi]
    have hone : ∀ i, i < ls.length → (g i).oneCell' = true := fun i hi => (hg i hi).by_one
    refine ⟨(List.range ls.length).map g, by simp, ?_, fun i u hu => ?_⟩
    · have hlen : ((List.range ls.length).map fun i => T.op (g i)).length = (ls.map T.by).length := by simp
      have hmm : ((List.range ls.length).map g).map T.op = (List.range ls.length).map fun i => T.op (g i) := by simp
      rw [hmm]
      have := RelT.sq (M := N) (sz := 1) (xs := (List.range ls.length).map fun i => T.op (g i)) (b := B) (off := off) (cap := cap) hM (by
        simp only [T.wf] at hw ⊢
        refine ⟨hw.1, by simpa using hw.2.1, fun x hx => ?_, ?_⟩
        · obtain ⟨i, _, rfl⟩ := List.mem_map.1 hx
          rfl
        · rw [T.wfL_iff]
          intro x hx
          obtain ⟨i, hi, rfl⟩ := List.mem_map.1 hx
          exact hone i (List.mem_range.1 hi)) (by simpa using hl) hm g (fun i c hi => ?_) (fun i c hi => ?_)
      · rw [hlen] at this
        exact this
      all_goals
        rw [← hmm, hco, List.getElem?_map, List.getElem?_map, Option.map_eq_some_iff] at hi
        obtain ⟨u, hu, rfl⟩ := hi
        rw [Option.map_eq_some_iff] at hu
        obtain ⟨j, hj, rfl⟩ := hu
        obtain ⟨hj1, hj2⟩ := List.getElem?_eq_some_iff.1 hj
        simp at hj1 hj2
        subst hj2
      · exact hc i (.by (ls.getD i [])) (by rw [List.getElem?_map, List.getElem?_eq_getElem hj1]; simp [List.getD_eq_getElem?_getD, hj1])
      · exact .op (hone i hj1)
    · rw [List.getElem?_map, Option.map_eq_some_iff] at hu
      obtain ⟨j, hj, rfl⟩ := hu
      obtain ⟨hj1, hj2⟩ := List.getElem?_eq_some_iff.1 hj
      simp at hj1 hj2
      subst hj2
      exact hg i hj1

theorem wl_indexO {F : Fence} {n : Nat} {P : Program} {E : Env} (hE : EnvOk P E) {w : World} {ops : Array Oper} {rest : List Oper} {o : Oper} {a : Act} {Q : Exit → Act → World → Prop} (hg : o.guard = none)
    {x i : Operand} {t e : TypeId} (hop : o.op = Op.indexAddr t x i) (ht : (E t).ty = .sl e) (hs : (E e).size = 1) {b off len cap : Nat} {k : IntKind} {j : Int} (hx : a.eval x = .slice (some ⟨b, off, none⟩) len cap) (hi : a.eval i = .int k j) (h0 : 0 ≤ j) (hj : j < len)
    (hK : wpListIn F n P ops Q rest (a.put o.dst (.pointer (some ⟨b, off + j.toNat, none⟩))) w) : wpListIn F n P ops Q (o :: rest) a w := by
  have d := (hE.ty ht (by simp)).1
  simp only [DescOk] at d
  have hrun := run_indexAt_sl d (hE.size hs (by omega)) (w := w) (b := b) (o := off) (n := len) (cap := cap) (k := k) h0 hj
  rw [hs] at hrun
  simp only [Nat.mul_one] at hrun
  refine wpListIn_plain hg fun K hK' => ?_
  unfold Oper.wpIn
  refine ⟨?_, ?_⟩
  · simp [Oper.about, hop]
  · rw [Oper.semAt_eq _ _ _ (by rw [hop]; intro c hc'; cases hc')]
    simp [execOp, hop, hx, hi, hrun, Result.andThen]
    exact hK' _ _ hK

theorem RelT.op_inv {M : Nat → Option Obj} {u v : Value} (h : RelT M (.op u) v) : v = u := by cases h; rfl
def sndC : Code → Code
  | .seq _ y => y
  | x => x
def fstC : Code → Code
  | .seq x _ => x
  | x => x
/-- How far a loop is from its end. -/
def cntS (n j : Nat) (a : Act) : Nat := match a.tmps.getD j undef with
  | .int _ z => n - z.toNat
  | _ => 0
theorem cntS_val {m : Mem} {a : Act} {s : Slots} {N n j : Nat} {z : Int} (h : RelS m N a s) (hz : lk j s = .t (.int .i64 z)) : cntS n j a = n - z.toNat := by
  have h3 := h.2.2 j
  rw [hz] at h3
  unfold cntS
  rw [h3.int_inv.1]
theorem AWM.retE {kp : Nat} {P : Program} {N : Nat} {y : Code} {K : Ctx → Exit → Act → World → Prop} {S : AS} (h : seqM kp P N y K .ret S) : AWM kp P N .ret K S := fun c hc m w a hi hs => wpIn_ret (h c hc m w a hi hs)
theorem AWM.app {kp : Nat} {P : Program} {N : Nat} {code : Code} {K : Ctx → Exit → Act → World → Prop} {S : AS} (h : AWM kp P N code K S) {c : Ctx} (hc : c.k = kp) {m : Mem} {w : World} {a : Act} (hi : Inv c m w S.H) (hs : RelS m N a S.s) : code.wpIn Fence.wide 0 P (K c) a w := h c hc m w a hi hs

end Go.Fw

end

section
/- The overwriting of rows that were told: one store. -/
namespace Go.Fw
set_option linter.unusedVariables false
set_option linter.unusedSimpArgs false
open Go Go.RowKit

/-- Values that a store of a byte leaves. -/
def softV : AV → Prop
  | .any => True
  | .t (.int _ _) => True
  | .t (.bool _) => True
  | .own _ => True
  | .t (.sq _ xs) => ∀ c ∈ T.cellsL xs, hard c
  | _ => False
theorem RelA.setM {m : Mem} {x : AV} {v : Value} (h : RelA m x v) (hx : softV x) {b p : Nat} {cs : Array Value} {e : TypeId} {fr : Nat × Nat} (hb : m.M b = some (.cells cs e fr)) {n : Int} (hp : cs[p]? = some (.int .u8 n)) {z : Int} :
    RelA ⟨Fw.setM m.M b (.cells (cs.setIfInBounds p (.int .u8 z)) e fr), m.η, m.n⟩ x v := by
  cases x with
  | any => exact .any
  | own i =>
    obtain ⟨rfl, hn⟩ := h.own_inv
    exact .own (m := ⟨_, m.η, m.n⟩) hn
  | t y =>
    cases y with
    | int k n => have := h.int_inv; rw [this.1]; exact .t (.int this.2)
    | bool b => have := h.bool_inv; rw [this]; exact .t .bool
    | sq sz xs => exact .t (row_set h.t_inv hx hb hp)
    | _ => exact hx.elim
  | _ => exact hx.elim
theorem RelS.setM {m : Mem} {N : Nat} {a : Act} {s : Slots} (h : RelS m N a s) (hx : ∀ i, softV (lk i s)) {b p : Nat} {cs : Array Value} {e : TypeId} {fr : Nat × Nat} (hb : m.M b = some (.cells cs e fr)) {n : Int} (hp : cs[p]? = some (.int .u8 n)) {z : Int} :
    RelS ⟨Fw.setM m.M b (.cells (cs.setIfInBounds p (.int .u8 z)) e fr), m.η, m.n⟩ N a s := ⟨h.1, h.2.1, fun i => (h.2.2 i).setM (hx i) hb hp⟩

theorem inv_setM {c : Ctx} {m : Mem} {w w2 : World} {b0 : List UInt8} (h : Inv c m w [.by b0]) {b p : Nat} {cs : Array Value} {e : TypeId} {fr : Nat × Nat} (hb : m.M b = some (.cells cs e fr)) (hc : c.w0.heap.size ≤ b) (h0 : c.M0 b = none) (hpl : plainO (.cells cs e fr)) {z : Int}
    (h2 : w2.heap[b]? = some (.cells (cs.setIfInBounds p (.int .u8 z)) e fr)) (ho : ∀ x, x ≠ b → w2.heap[x]? = w.heap[x]?) (hs : w2.heap.size = w.heap.size) (h3 : w2.os = w.os) (h4 : w2.tape = w.tape) (h5 : w2.output = w.output) :
    Inv c ⟨setM m.M b (.cells (cs.setIfInBounds p (.int .u8 z)) e fr), m.η, m.n⟩ w2 [.by b0] where
  len := h.len
  imm := fun x o hx => by
    by_cases hxb : x = b
    · subst hxb
      have : some _ = some o := (setM_same m.M x _).symm.trans hx
      cases this; exact h2
    · rw [ho x hxb]
      exact h.imm x o ((setM_ne hxb).symm.trans hx)
  le := fun x o hx => by
    have hxb : x ≠ b := fun e => by subst e; rw [h0] at hx; cases hx
    exact (setM_ne hxb).trans (h.le x o hx)
  new := fun x o hx => by
    by_cases hxb : x = b
    · subst hxb
      have : some _ = some o := (setM_same m.M x _).symm.trans hx
      cases this
      exact .inr ⟨.inl hc, by simpa [plainO] using hpl⟩
    · exact h.new x o ((setM_ne hxb).symm.trans hx)
  ok := fun i B hi => by
    have hlt := (List.getElem?_eq_some_iff.1 hi).1
    obtain rfl : i = 0 := by simpa using hlt
    cases hi
    rcases h.ok 0 _ rfl with h1 | ⟨bb, cap, cur, e', h1, g2, g3, g4, g5, g6, g7⟩
    · exact .inl h1
    · have hne : bb ≠ b := fun e => by subst e; rw [hb] at g6; cases g6
      exact .inr ⟨bb, cap, cur, e', h1, (ho bb hne).trans g2, g3, g4, g5, (setM_ne hne).trans g6, g7⟩
  own := h.own
  disj := h.disj
  os := h3.trans h.os
  tape := h4.trans h.tape
  output := h5.trans h.output
  size := by rw [hs]; exact h.size
  frame := fun x hx hO => by rw [ho x (by omega)]; exact h.frame x hx hO
  keep := h.keep

theorem cellsL_op (us : List Value) : T.cellsL (us.map .op) = us.map .op := by
  induction us with
  | nil => rfl
  | cons x us ih => simp [T.cellsL, T.cells, ih]
theorem hard_op {c0 : Nat} {Mb M : Nat → Option Obj} {us : List Value} (h : ∀ u ∈ us, Scr c0 Mb M u) : ∀ c ∈ T.cellsL (us.map .op), hard c := by
  rw [cellsL_op]
  intro c hc
  obtain ⟨u, hu, rfl⟩ := List.mem_map.1 hc
  obtain ⟨a, len, cap, rfl, _⟩ := h u hu
  exact ⟨a, len, cap, rfl⟩
theorem op_getD (us : List Value) {i : Nat} (h : i < us.length) : (us.map T.op).getD i default = .op (us.getD i undef) := by
  simp [List.getD_eq_getElem?_getD, h]
theorem mem_getD {us : List Value} {i : Nat} (h : i < us.length) : us.getD i undef ∈ us := by
  rw [List.getD_eq_getElem?_getD, List.getElem?_eq_getElem h]
  exact List.getElem_mem _

end Go.Fw

end

section
/- A transaction that was told: its scripts by their headers; the memory read only told anew. -/
namespace Go.Fw
set_option linter.unusedVariables false
set_option linter.unusedSimpArgs false
open Go Go.RowKit

/-- No block is mentioned any more. -/
theorem inv_nil {c : Ctx} {m : Mem} {w : World} {H : List Blk} (h : Inv c m w H) (hk : c.k = 0) : Inv c ⟨m.M, m.η, 0⟩ w [] where
  len := rfl
  imm := h.imm
  le := h.le
  new := h.new
  ok := fun i B hi => by simp at hi
  own := fun i B b hi => by simp at hi
  disj := fun i j B B' b hi => by simp at hi
  os := h.os
  tape := h.tape
  output := h.output
  size := h.size
  frame := h.frame
  keep := fun i hi => by omega

theorem inv_setM0 {c : Ctx} {m : Mem} {w w2 : World} (h : Inv c m w []) {b p : Nat} {cs : Array Value} {e : TypeId} {fr : Nat × Nat} (hb : m.M b = some (.cells cs e fr)) (hc : c.w0.heap.size ≤ b) (h0 : c.M0 b = none) (hpl : plainO (.cells cs e fr)) {z : Int}
    (h2 : w2.heap[b]? = some (.cells (cs.setIfInBounds p (.int .u8 z)) e fr)) (ho : ∀ x, x ≠ b → w2.heap[x]? = w.heap[x]?) (hs : w2.heap.size = w.heap.size) (h3 : w2.os = w.os) (h4 : w2.tape = w.tape) (h5 : w2.output = w.output) :
    Inv c ⟨setM m.M b (.cells (cs.setIfInBounds p (.int .u8 z)) e fr), m.η, m.n⟩ w2 [] where
  len := h.len
  imm := fun x o hx => by
    by_cases hxb : x = b
    · subst hxb
      have : some _ = some o := (setM_same m.M x _).symm.trans hx
      cases this; exact h2
    · rw [ho x hxb]
      exact h.imm x o ((setM_ne hxb).symm.trans hx)
  le := fun x o hx => by
    have hxb : x ≠ b := fun e => by subst e; rw [h0] at hx; cases hx
    exact (setM_ne hxb).trans (h.le x o hx)
  new := fun x o hx => by
    by_cases hxb : x = b
    · subst hxb
      have : some _ = some o := (setM_same m.M x _).symm.trans hx
      cases this
      exact .inr ⟨.inl hc, by simpa [plainO] using hpl⟩
    · exact h.new x o ((setM_ne hxb).symm.trans hx)
  ok := fun i B hi => by simp at hi
  own := fun i B b hi => by simp at hi
  disj := fun i j B B' b hi => by simp at hi
  os := h3.trans h.os
  tape := h4.trans h.tape
  output := h5.trans h.output
  size := by rw [hs]; exact h.size
  frame := fun x hx hO => by rw [ho x (by omega)]; exact h.frame x hx hO
  keep := h.keep

/-- A block that is read only is told as something else. -/
theorem inv_retell {c : Ctx} {m : Mem} {w : World} {H : List Blk} (h : Inv c m w H) (i : Nat) {Z : Blk} (hZ : Z.live = false) (hok : BlkOk m w Z (m.η i)) : Inv c m w (H.set i Z) := by
  have get : ∀ j B, (H.set i Z)[j]? = some B → (j = i ∧ B = Z) ∨ (H[j]? = some B ∧ j ≠ i) := by
    intro j B hj
    by_cases e : j = i
    · subst e
      rw [List.getElem?_set_self'] at hj
      cases hx : H[j]? with
      | none => rw [hx] at hj; simp at hj
      | some y => rw [hx] at hj; simp at hj; exact .inl ⟨rfl, hj.symm⟩
    · rw [List.getElem?_set_ne (Ne.symm e)] at hj
      exact .inr ⟨hj, e⟩
  exact {
    len := by rw [List.length_set]; exact h.len
    imm := h.imm
    le := h.le
    new := h.new
    ok := fun j B hj => by
      rcases get j B hj with ⟨rfl, rfl⟩ | ⟨g, _⟩
      · exact hok
      · exact h.ok j B g
    own := fun j B b hj hl hb => by
      rcases get j B hj with ⟨rfl, rfl⟩ | ⟨g, _⟩
      · rw [hZ] at hl; cases hl
      · exact h.own j B b g hl hb
    disj := fun j k B B' b hj hk hl hl' hb hb' => by
      rcases get j B hj with ⟨rfl, rfl⟩ | ⟨g, _⟩
      · rw [hZ] at hl; cases hl
      · rcases get k B' hk with ⟨rfl, rfl⟩ | ⟨g', _⟩
        · rw [hZ] at hl'; cases hl'
        · exact h.disj j k B B' b g g' hl hl' hb hb'
    os := h.os
    tape := h.tape
    output := h.output
    size := h.size
    frame := h.frame
    keep := h.keep }

/-- A transaction by its rows' headers. -/
def txO (t : TTx) (h1 h2 : Value) : T := .st [.int .u32 (t.ver.toNat : Int), .op h1, .op h2, .int .u32 (t.lock.toNat : Int)]
theorem tx_op {N : Nat → Option Obj} {t : TTx} {v : Value} (h : RelT N (txT t) v) : ∃ h1 h2, (∀ M, RelT M (txO t h1 h2) v) ∧ RelT N (.sq 35 (t.ins.map inT)) h1 ∧ RelT N (.sq 2 (t.outs.map outT)) h2 := by
  unfold txT at h
  generalize hx : T.st [.int .u32 (t.ver.toNat : Int), .sq 35 (t.ins.map inT), .sq 2 (t.outs.map outT), .int .u32 (t.lock.toNat : Int)] = x at h
  cases h
  case st xs arr hw ha hr =>
    injection hx with hx
    subst hx
    have r0 := hr 0 _ rfl
    have r1 := hr 1 _ rfl
    have r2 := hr 2 _ rfl
    have r3 := hr 3 _ rfl
    have e1 := r1.sq_one
    have e2 := r2.sq_one
    refine ⟨arr.getD 1 undef, arr.getD 2 undef, fun M => ?_, r1, r2⟩
    have hw' := hw
    simp only [T.wf, T.wfL] at hw'
    refine .st ?_ (by simpa [T.sizeL, T.size] using ha) fun i c hi => ?_
    · simp only [T.wf, T.wfL]
      exact ⟨hw'.1, e1, e2, hw'.2.2.2.1, trivial⟩
    · match i, hi with
      | 0, hi => cases hi; generalize arr.getD 0 undef = u at *; cases r0; rename_i q; exact .int q
      | 1, hi => cases hi; exact .op e1
      | 2, hi => cases hi; exact .op e2
      | 3, hi => cases hi; generalize arr.getD 3 undef = u at *; cases r3; rename_i q; exact .int q
      | i + 4, hi => simp [T.cellsL, T.cells] at hi
  all_goals cases hx

/-- Outputs by their scripts' headers. -/
def outO (x : TOut) (u : Value) : T := .st [.int .u64 (x.val.toNat : Int), .op u]
def outsO (l : List TOut) (us : List Value) : List T := List.zipWith outO l us
theorem outsO_len {l : List TOut} {us : List Value} (h : us.length = l.length) : (outsO l us).length = l.length := by unfold outsO; rw [List.length_zipWith]; omega
theorem outsO_get {l : List TOut} {us : List Value} (h : us.length = l.length) {i : Nat} (hi : i < l.length) : (outsO l us).getD i default = outO (l.getD i dOut) (us.getD i undef) := by
  unfold outsO
  simp [List.getD_eq_getElem?_getD, hi, h]
theorem cells_outs : ∀ (l : List TOut) (j : Nat), j < l.length → (T.cellsL (l.map outT))[2 * j]? = some (.int .u64 ((l.getD j dOut).val.toNat : Int)) ∧ (T.cellsL (l.map outT))[2 * j + 1]? = some (.by (l.getD j dOut).scr)
  | [], j, h => by simp at h
  | x :: l, 0, h => ⟨rfl, rfl⟩
  | x :: l, j + 1, h => by
    obtain ⟨h1, h2⟩ := cells_outs l j (by simpa using h)
    have e : T.cellsL ((x :: l).map outT) = [.int .u64 (x.val.toNat : Int), .by x.scr] ++ T.cellsL (l.map outT) := rfl
    rw [e, show 2 * (j + 1) = 2 * j + 2 by omega]
    exact ⟨by simpa using h1, by simpa using h2⟩
theorem cells_outsO : ∀ (l : List TOut) (us : List Value) (i : Nat) (c : T), us.length = l.length → (T.cellsL (outsO l us))[i]? = some c → ∃ j, j < l.length ∧ ((i = 2 * j ∧ c = .int .u64 ((l.getD j dOut).val.toNat : Int)) ∨ (i = 2 * j + 1 ∧ c = .op (us.getD j undef)))
  | [], us, i, c, h, hc => by
    have : outsO [] us = [] := by simp [outsO]
    rw [this] at hc
    simp [T.cellsL] at hc
  | x :: l, [], i, c, h, hc => by simp at h
  | x :: l, u :: us, i, c, h, hc => by
    have e : T.cellsL (outsO (x :: l) (u :: us)) = [.int .u64 (x.val.toNat : Int), .op u] ++ T.cellsL (outsO l us) := rfl
    rw [e] at hc
    match i, hc with
    | 0, hc => cases hc; exact ⟨0, by simp, .inl ⟨rfl, rfl⟩⟩
    | 1, hc => cases hc; exact ⟨0, by simp, .inr ⟨rfl, rfl⟩⟩
    | i + 2, hc =>
      obtain ⟨j, hj, h1⟩ := cells_outsO l us i c (by simpa using h) (by simpa using hc)
      refine ⟨j + 1, by simpa using hj, h1.imp (fun ⟨a, b⟩ => ⟨by omega, by simpa using b⟩) (fun ⟨a, b⟩ => ⟨by omega, by simpa using b⟩)⟩
theorem outs_op {N : Nat → Option Obj} {l : List TOut} {v : Value} (h : RelT N (.sq 2 (l.map outT)) v) : ∃ us : List Value, us.length = l.length ∧ RelT N (.sq 2 (outsO l us)) v ∧ ∀ i u, us[i]? = some u → RelT N (.by (l.getD i dOut).scr) u := by
  rcases h.sq_inv with ⟨h1, h2, a, rfl⟩ | ⟨B, off, cap, cur, ty, fr, g, rfl, hM, hw, hl, hm, hc, hr⟩
  · have : l = [] := by simpa using h1
    subst this
    exact ⟨[], rfl, .sqn h2, fun i u hu => by simp at hu⟩
  · have hg : ∀ j, j < l.length → RelT N (.by (l.getD j dOut).scr) (g (2 * j + 1)) := fun j hj => hr _ _ (cells_outs l j hj).2
    obtain ⟨us, hus⟩ : ∃ us, us = (List.range l.length).map fun j => g (2 * j + 1) := ⟨_, rfl⟩
    have hul : us.length = l.length := by rw [hus]; simp
    have hug : ∀ j, j < l.length → us.getD j undef = g (2 * j + 1) := fun j hj => by rw [hus]; simp [List.getD_eq_getElem?_getD, hj]
    refine ⟨us, hul, ?_, fun i u hu => ?_⟩
    · have hlen := outsO_len hul
      have hcell : ∀ (i : Nat) (c : T), (T.cellsL (outsO l us))[i]? = some c → cur[off + i]? = some (g i) ∧ RelT N c (g i) := fun i c hi => by
        obtain ⟨j, hj, ⟨rfl, rfl⟩ | ⟨rfl, rfl⟩⟩ := cells_outsO l us i c hul hi
        · exact ⟨hc _ _ (cells_outs l j hj).1, hr _ _ (cells_outs l j hj).1⟩
        · exact ⟨hc _ _ (cells_outs l j hj).2, by rw [hug j hj]; exact .op (hg j hj).by_one⟩
      have hwf : T.wf (.sq 2 (outsO l us)) := by
        simp only [T.wf, List.length_map] at hw ⊢
        refine ⟨hw.1, by omega, fun x hx => ?_, ?_⟩
        · obtain ⟨i, hi⟩ := List.getElem?_of_mem hx
          unfold outsO at hi
          rw [List.getElem?_zipWith] at hi
          split at hi
          · cases hi; rfl
          · cases hi
        · rw [T.wfL_iff]
          intro x hx
          obtain ⟨i, hi⟩ := List.getElem?_of_mem hx
          have hil : i < (outsO l us).length := (List.getElem?_eq_some_iff.1 hi).1
          have := outsO_get hul (i := i) (by omega)
          rw [List.getD_eq_getElem?_getD, hi] at this
          simp only [Option.getD_some] at this
          rw [this]
          have h1 := (hr _ _ (cells_outs l i (by omega)).1).wf
          simp only [outO, T.wf, T.wfL] at h1 ⊢
          refine ⟨h1, ?_, trivial⟩
          rw [hug i (by omega)]
          exact (hg i (by omega)).by_one
      have := RelT.sq (M := N) (b := B) (off := off) (cap := cap) hM hwf (by rw [hlen]; simpa using hl) hm g (fun i c hi => (hcell i c hi).1) (fun i c hi => (hcell i c hi).2)
      rw [hlen] at this
      simpa using this
    · have hi : i < us.length := (List.getElem?_eq_some_iff.1 hu).1
      have := hug i (by omega)
      rw [List.getD_eq_getElem?_getD, hu] at this
      simp only [Option.getD_some] at this
      rw [this]
      exact hg i (by omega)
theorem hard_outs {c0 : Nat} {Mb M : Nat → Option Obj} {l : List TOut} {us : List Value} (hl : us.length = l.length) (h : ∀ u ∈ us, Scr c0 Mb M u) : ∀ c ∈ T.cellsL (outsO l us), hard c := by
  intro c hc
  obtain ⟨i, hi⟩ := List.getElem?_of_mem hc
  obtain ⟨j, hj, ⟨_, rfl⟩ | ⟨_, rfl⟩⟩ := cells_outsO l us i c hl hi
  · show IntKind.u64 ≠ .u8
    decide
  · obtain ⟨a, len, cap, h1, _⟩ := h _ (mem_getD (us := us) (i := j) (by omega))
    exact ⟨a, len, cap, h1⟩

/-- What lies beside some memory. -/
def beside (N M : Nat → Option Obj) : Nat → Option Obj := fun x => match N x with
  | some _ => none
  | none => M x
theorem beside_le (N M : Nat → Option Obj) : MLe (beside N M) M := fun x o h => by
  unfold beside at h
  split at h
  · cases h
  · exact h
theorem beside_none {N M : Nat → Option Obj} {x : Nat} {o : Obj} (h : N x = some o) : beside N M x = none := by unfold beside; rw [h]
theorem beside_some {N M : Nat → Option Obj} {x : Nat} (h : N x = none) : beside N M x = M x := by unfold beside; rw [h]

end Go.Fw

end
