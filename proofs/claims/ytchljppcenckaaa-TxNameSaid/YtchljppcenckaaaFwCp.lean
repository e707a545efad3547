/- The abstract machine, and the contracts of the code: part 45. -/
import Derived.Test.YtchljppcenckaaaFwT

section
/- Numbers, sizes, strings and lists as bytes: plain laws. -/
namespace Go.Fw
open Go
set_option linter.unusedVariables false
set_option linter.unusedSimpArgs false

/-- A number, shifted right by so many bytes. -/
def shrB : Nat → Int → Int
  | 0, x => x
  | k + 1, x => (shrB k x).fdiv 256

/-- The lowest so many bytes of a number. -/
def le : Nat → Int → List UInt8
  | 0, _ => []
  | k + 1, x => le k x ++ [UInt8.ofNat (IntKind.u8.wrap (shrB k x)).toNat]

theorem le_len (k : Nat) (x : Int) : (le k x).length = k := by
  induction k with
  | zero => rfl
  | succ k ih => simp [le, ih]

theorem shrB_range (k : Nat) (x : Int) (h0 : 0 ≤ x) (h1 : x ≤ 18446744073709551615) : 0 ≤ shrB k x ∧ shrB k x ≤ 18446744073709551615 := by
  induction k with
  | zero => exact ⟨h0, h1⟩
  | succ k ih =>
    simp only [shrB]
    rw [Int.fdiv_eq_ediv_of_nonneg _ (by omega)]
    omega

theorem inK_u8 {n : Int} (h : inK .u8 n) : 0 ≤ n ∧ n ≤ 255 := by simpa [inK, IntKind.min, IntKind.max, IntKind.signed, IntKind.bits] using h

theorem inK_u16 {n : Int} (h : inK .u16 n) : 0 ≤ n ∧ n ≤ 65535 := by simpa [inK, IntKind.min, IntKind.max, IntKind.signed, IntKind.bits] using h

theorem inK_u32 {n : Int} (h : inK .u32 n) : 0 ≤ n ∧ n ≤ 4294967295 := by simpa [inK, IntKind.min, IntKind.max, IntKind.signed, IntKind.bits] using h

theorem inK_u64 {n : Int} (h : inK .u64 n) : 0 ≤ n ∧ n ≤ 18446744073709551615 := by simpa [inK, IntKind.min, IntKind.max, IntKind.signed, IntKind.bits] using h

theorem inK_i64 {n : Int} (h : inK .i64 n) : -9223372036854775808 ≤ n ∧ n ≤ 9223372036854775807 := by simpa [inK, IntKind.min, IntKind.max, IntKind.signed, IntKind.bits] using h

theorem wrap_u8 {n : Int} (h1 : 0 ≤ n) (h2 : n ≤ 255) : IntKind.u8.wrap n = n := by simp only [IntKind.wrap, IntKind.signed, IntKind.bits]; simp; omega

theorem wrap_u16 {n : Int} (h1 : 0 ≤ n) (h2 : n ≤ 65535) : IntKind.u16.wrap n = n := by simp only [IntKind.wrap, IntKind.signed, IntKind.bits]; simp; omega

theorem wrap_u32 {n : Int} (h1 : 0 ≤ n) (h2 : n ≤ 4294967295) : IntKind.u32.wrap n = n := by simp only [IntKind.wrap, IntKind.signed, IntKind.bits]; simp; omega

/-- A size, as bytes. -/
def sizeB (n : Int) : List UInt8 :=
  if n < 253 then le 1 n else if n < 65536 then le 1 253 ++ le 2 n else if n < 4294967296 then le 1 254 ++ le 4 n else le 1 255 ++ le 8 n

theorem sizeB_len (n : Int) : (sizeB n).length ≤ 9 := by
  unfold sizeB
  split
  · simp [le_len]
  · split
    · simp [le_len]
    · split <;> simp [le_len]

/-- The strings of a list, each behind its size. -/
def flat : List (List UInt8) → List UInt8
  | [] => []
  | x :: l => sizeB x.length ++ x ++ flat l

theorem flat_snoc (l : List (List UInt8)) (x : List UInt8) : flat (l ++ [x]) = flat l ++ (sizeB x.length ++ x) := by
  induction l with
  | nil => simp [flat]
  | cons y l ih => simp [flat, ih]

def strs (l : List (List UInt8)) : T := .sq 1 (l.map .by)

def asBys : List T → Option (List (List UInt8))
  | [] => some []
  | .by l :: r => match asBys r with
    | some ls => some (l :: ls)
    | none => none
  | _ => none

theorem asBys_map (l : List (List UInt8)) : asBys (l.map .by) = some l := by
  induction l with
  | nil => rfl
  | cons x l ih => simp [asBys, ih]

theorem asBys_inv {xs : List T} {l : List (List UInt8)} (h : asBys xs = some l) : xs = l.map .by := by
  induction xs generalizing l with
  | nil => cases h; rfl
  | cons x xs ih =>
    unfold asBys at h
    split at h
    · rename_i heq; cases heq
    · rename_i y r heq
      cases heq
      split at h
      · rename_i ls hls; cases h; simp [ih hls]
      · cases h
    · cases h

theorem flat_take_len (l : List (List UInt8)) (k : Nat) : (flat (l.take k)).length ≤ (flat l).length := by
  induction l generalizing k with
  | nil => simp [flat]
  | cons x l ih =>
    cases k with
    | zero => simp [flat]
    | succ k => simp only [List.take_succ_cons, flat, List.length_append]; have := ih k; omega

theorem take_getD (l : List (List UInt8)) (k : Nat) (h : k < l.length) : l.take (k + 1) = l.take k ++ [l.getD k []] := by
  rw [List.take_succ_eq_append_getElem h]; simp [h]

theorem flat_take (l : List (List UInt8)) (k : Nat) (h : k < l.length) : flat (l.take (k + 1)) = flat (l.take k) ++ (sizeB (l.getD k []).length ++ l.getD k []) := by
  rw [take_getD l k h, flat_snoc]

theorem map_getD (l : List (List UInt8)) (k : Nat) (h : k < l.length) : (l.map T.by).getD k default = .by (l.getD k []) := by simp [h]

theorem flat_get_len (l : List (List UInt8)) (k : Nat) (h : k < l.length) : (flat (l.take k)).length + (l.getD k []).length ≤ (flat l).length := by
  have h1 := flat_take_len l (k + 1)
  rw [flat_take l k h] at h1
  simp only [List.length_append] at h1
  omega

theorem len_le_flat (l : List (List UInt8)) : l.length ≤ (flat l).length := by
  induction l with
  | nil => simp
  | cons x l ih =>
    have : 1 ≤ (sizeB x.length).length := by
      unfold sizeB
      split
      · simp [le_len]
      · split
        · simp [le_len]
        · split <;> simp [le_len]
    simp only [List.length_cons, flat, List.length_append]; omega

theorem tdiv_256 {n : Int} (h : 0 ≤ n) : n.tdiv 256 = n.fdiv 256 := by
  rw [Int.tdiv_eq_ediv_of_nonneg h, Int.fdiv_eq_ediv_of_nonneg _ (by omega)]

/-- How a cut ends, what it takes, what it leaves. -/
def spE (b : List UInt8) (n : Int) : Int := if n < 0 then 1 else if (b.length : Int) < n then 2 else 0

def spA (b : List UInt8) (n : Int) : List UInt8 := if n < 0 then [] else if (b.length : Int) < n then [] else b.take n.toNat

def spB (b : List UInt8) (n : Int) : List UInt8 := if n < 0 then [] else if (b.length : Int) < n then [] else b.drop n.toNat

theorem spA_len (b : List UInt8) (n : Int) : (spA b n).length ≤ b.length := by unfold spA; split <;> (try split) <;> simp <;> omega

theorem spB_len (b : List UInt8) (n : Int) : (spB b n).length ≤ b.length := by unfold spB; split <;> (try split) <;> simp

theorem spA_le (b : List UInt8) (n : Int) (m : Nat) (h : n ≤ m) : (spA b n).length ≤ m := by unfold spA; split <;> (try split) <;> simp <;> omega

/-- The number that bytes stand for, the lowest first. -/
def num : List UInt8 → Nat
  | [] => 0
  | c :: l => c.toNat + 256 * num l

theorem num_lt (l : List UInt8) : num l < 256 ^ l.length := by
  induction l with
  | nil => simp [num]
  | cons c l ih =>
    have hc : c.toNat < 256 := c.toNat_lt
    simp only [num, List.length_cons, Nat.pow_succ]
    omega

theorem num_lt8 (l : List UInt8) (h : l.length ≤ 8) : num l ≤ 18446744073709551615 := by
  have h1 := num_lt l
  have h2 : 256 ^ l.length ≤ 256 ^ 8 := Nat.pow_le_pow_right (by omega) h
  have h3 : (256 : Nat) ^ 8 = 18446744073709551616 := by decide
  omega

theorem num_snoc (l : List UInt8) (c : UInt8) : num (l ++ [c]) = num l + c.toNat * 256 ^ l.length := by
  induction l with
  | nil => simp [num]
  | cons d l ih => simp only [List.cons_append, num, ih, List.length_cons, Nat.pow_succ, Nat.mul_add]; rw [Nat.mul_left_comm, Nat.mul_comm 256 (256 ^ l.length)]; omega

theorem num_drop (l : List UInt8) (k : Nat) (h : k < l.length) : num (l.drop k) = (l.getD k 0).toNat + 256 * num (l.drop (k + 1)) := by
  rw [List.drop_eq_getElem_cons h]; simp [num, h]

theorem num_take (l : List UInt8) (k : Nat) (h : k < l.length) : num (l.take (k + 1)) = num (l.take k) + (l.getD k 0).toNat * 256 ^ k := by
  rw [List.take_succ_eq_append_getElem h, num_snoc]; simp [h]; rw [Nat.min_eq_left (by omega)]

theorem pow256 (k : Nat) : (256 : Nat) ^ k = 2 ^ (8 * k) := by rw [Nat.pow_mul]

theorem or_step (a c k : Nat) (ha : a < 256 ^ k) (hs : a + c * 256 ^ k < 18446744073709551616) : arith .or .u64 (a : Int) ((c * 256 ^ k : Nat) : Int) = some (.int .u64 ((a + c * 256 ^ k : Nat) : Int)) := by
  simp only [arith, abits, IntKind.bits]
  have h1 : ((a : Int) % 2 ^ 64).toNat = a := by omega
  have h2 : (((c * 256 ^ k : Nat) : Int) % 2 ^ 64).toNat = c * 256 ^ k := by omega
  rw [h1, h2]
  have h3 : a ||| c * 256 ^ k = a + c * 256 ^ k := by
    have := Nat.two_pow_add_eq_or_of_lt (i := 8 * k) (b := a) (by rw [← pow256]; exact ha) c
    rw [Nat.or_comm, pow256, Nat.mul_comm c, ← this]; omega
  rw [h3, wrap_u64 (by omega) (by omega)]

theorem shl_step (c k : Nat) (hk : k ≤ 8) (hs : c * 256 ^ k < 18446744073709551616) : arith .shl .u64 (c : Int) ((8 * k : Nat) : Int) = some (.int .u64 ((c * 256 ^ k : Nat) : Int)) := by
  simp only [arith, IntKind.bits]
  rw [if_neg (by omega)]
  have h1 : min ((8 * k : Nat) : Int).toNat 64 = 8 * k := by omega
  have h2 : (c : Int) * 2 ^ (8 * k) = ((c * 256 ^ k : Nat) : Int) := by rw [pow256]; push_cast; rfl
  rw [h1, h2, wrap_u64 (by omega) (by omega)]

theorem mul_step (k : Nat) (hk : k ≤ 8) : arith .mul .i64 8 (k : Int) = some (.int .i64 ((8 * k : Nat) : Int)) := by
  simp only [arith]
  rw [wrap_i64 (by omega) (by omega)]; push_cast; rfl

theorem num_lt4 (l : List UInt8) (h : l.length ≤ 4) : num l ≤ 4294967295 := by
  have h1 := num_lt l
  have h2 : 256 ^ l.length ≤ 256 ^ 4 := Nat.pow_le_pow_right (by omega) h
  have h3 : (256 : Nat) ^ 4 = 4294967296 := by decide
  omega

/-- A long number: what it is, what is left, how it ended. -/
def rdR (b : List UInt8) (long : Int) (least : Nat) : Nat × List UInt8 × Int :=
  if spE b long ≠ 0 then (0, [], spE b long) else if num (spA b long) < least then (0, [], 3) else (num (spA b long), spB b long, 0)

/-- A size. -/
def sz (b : List UInt8) : Nat × List UInt8 × Int :=
  if spE b 1 ≠ 0 then (0, [], spE b 1) else if num (spA b 1) = 253 then rdR (spB b 1) 2 253 else if num (spA b 1) = 254 then rdR (spB b 1) 4 65536
  else if num (spA b 1) = 255 then rdR (spB b 1) 8 4294967296 else (num (spA b 1), spB b 1, 0)

theorem sp_bad {b : List UInt8} {n : Int} (h : spE b n ≠ 0) : spA b n = [] ∧ spB b n = [] := by
  unfold spE at h; unfold spA spB
  split
  · exact ⟨rfl, rfl⟩
  · split
    · exact ⟨rfl, rfl⟩
    · rename_i h1 h2; rw [if_neg h1, if_neg h2] at h; exact absurd rfl h

theorem num_lt1 (l : List UInt8) (h : l.length ≤ 1) : num l ≤ 255 := by
  have h1 := num_lt l
  have h2 : 256 ^ l.length ≤ 256 ^ 1 := Nat.pow_le_pow_right (by omega) h
  have h3 : (256 : Nat) ^ 1 = 256 := by decide
  omega

theorem rdR_len (b : List UInt8) (n : Int) (k : Nat) : (rdR b n k).2.1.length ≤ b.length := by
  have := spB_len b n
  unfold rdR; split
  · simp
  · split <;> simp <;> omega

theorem rdR_lt (b : List UInt8) (n : Int) (k : Nat) (hn : n ≤ 8) : (rdR b n k).1 ≤ 18446744073709551615 := by
  have := num_lt8 (spA b n) (spA_le b n 8 hn)
  unfold rdR; split
  · simp
  · split <;> simp <;> omega

theorem sz_len (b : List UInt8) : (sz b).2.1.length ≤ b.length := by
  have := spB_len b 1
  have h1 := rdR_len (spB b 1) 2 253
  have h2 := rdR_len (spB b 1) 4 65536
  have h3 := rdR_len (spB b 1) 8 4294967296
  unfold sz; repeat' split
  all_goals first | (simp; done) | omega | (simp only; omega)

theorem sz_lt (b : List UInt8) : (sz b).1 ≤ 18446744073709551615 := by
  have h0 := num_lt1 (spA b 1) (spA_le b 1 1 (by omega))
  have h1 := rdR_lt (spB b 1) 2 253 (by omega)
  have h2 := rdR_lt (spB b 1) 4 65536 (by omega)
  have h3 := rdR_lt (spB b 1) 8 4294967296 (by omega)
  unfold sz; repeat' split
  all_goals first | (simp; done) | omega | (simp only; omega)

/-- A bounded size. -/
def bnd (b : List UInt8) (most : Int) : Nat × List UInt8 × Int :=
  if (sz b).2.2 ≠ 0 then (0, [], (sz b).2.2) else if most < 0 ∨ most < ((sz b).1 : Int) then (0, [], 4) else ((sz b).1, (sz b).2.1, 0)

/-- Bounded bytes. -/
def lim (b : List UInt8) (most : Int) : List UInt8 × List UInt8 × Int :=
  if (bnd b most).2.2 ≠ 0 then ([], [], (bnd b most).2.2)
  else (spA (bnd b most).2.1 (bnd b most).1, spB (bnd b most).2.1 (bnd b most).1, spE (bnd b most).2.1 (bnd b most).1)

theorem bnd_len (b : List UInt8) (most : Int) : (bnd b most).2.1.length ≤ b.length := by
  have := sz_len b
  unfold bnd; repeat' split
  all_goals first | (simp; done) | omega | (simp only; omega)

theorem bnd_lt (b : List UInt8) (most : Int) (h : most ≤ 9223372036854775807) : ((bnd b most).1 : Int) ≤ 9223372036854775807 := by
  unfold bnd; split
  · simp
  · split
    · simp
    · rename_i hn; simp only; omega

theorem lim_len (b : List UInt8) (most : Int) : (lim b most).1.length ≤ b.length ∧ (lim b most).2.1.length ≤ b.length := by
  have h0 := bnd_len b most
  have h1 := spA_len (bnd b most).2.1 (bnd b most).1
  have h2 := spB_len (bnd b most).2.1 (bnd b most).1
  unfold lim; split
  · simp
  · simp only; omega

theorem wf_rows {l : List (List UInt8)} (h : (T.sq 1 (l.map .by)).wf) : l.length ≤ maxLen := by
  simp only [T.wf] at h; simpa using h.2.1

def smallB (l : List (List UInt8)) : Bool := decide (l.length ≤ 40) && l.all fun x => decide (x.length ≤ 300)

theorem flat_small (l : List (List UInt8)) (h : smallB l = true) : (flat l).length ≤ 40 * 309 := by
  simp only [smallB, Bool.and_eq_true, decide_eq_true_eq, List.all_eq_true] at h
  obtain ⟨h1, h2⟩ := h
  have : ∀ l : List (List UInt8), (∀ x ∈ l, x.length ≤ 300) → (flat l).length ≤ l.length * 309 := by
    intro l
    induction l with
    | nil => simp [flat]
    | cons x l ih =>
      intro h
      have a := h x (by simp)
      have b := ih (fun y hy => h y (by simp [hy]))
      have c := sizeB_len (x.length : Int)
      simp only [flat, List.length_append, List.length_cons]
      omega
  exact Nat.le_trans (this l h2) (Nat.mul_le_mul_right 309 h1)

/-- So many strings, taken one after the other. -/
def tkF (most : Int) : Nat → List (List UInt8) → List UInt8 → List (List UInt8) × List UInt8 × Int
  | 0, acc, b => (acc, b, 0)
  | n + 1, acc, b => if (lim b most).2.2 ≠ 0 then ([], [], (lim b most).2.2) else tkF most n (acc ++ [(lim b most).1]) (lim b most).2.1

/-- A list, taken. -/
def lst (b : List UInt8) (many most : Int) : List (List UInt8) × List UInt8 × Int :=
  if (bnd b many).2.2 ≠ 0 then ([], [], (bnd b many).2.2) else tkF most (bnd b many).1 [] (bnd b many).2.1

theorem rdR_eat {b : List UInt8} {n : Int} {k : Nat} (h : (rdR b n k).2.2 = 0) : (rdR b n k).2.1.length ≤ b.length := rdR_len b n k

theorem sp1_eat {b : List UInt8} (h : spE b 1 = 0) : (spB b 1).length + 1 ≤ b.length := by
  unfold spE at h
  rw [if_neg (by omega)] at h
  split at h
  · cases h
  · rename_i hn
    unfold spB
    rw [if_neg (by omega), if_neg hn]
    simp; omega

theorem sz_eat {b : List UInt8} (h : (sz b).2.2 = 0) : (sz b).2.1.length + 1 ≤ b.length := by
  have h1 := rdR_len (spB b 1) 2 253
  have h2 := rdR_len (spB b 1) 4 65536
  have h3 := rdR_len (spB b 1) 8 4294967296
  unfold sz at h ⊢
  split at h
  · rename_i hn; exact absurd h hn
  · rename_i hn
    rw [if_neg hn]
    have h0 := sp1_eat (b := b) (by simpa using hn)
    repeat' split
    all_goals first | omega | (simp only; omega)

theorem bnd_eat {b : List UInt8} {most : Int} (h : (bnd b most).2.2 = 0) : (bnd b most).2.1.length + 1 ≤ b.length := by
  unfold bnd at h ⊢
  split at h
  · rename_i hn; exact absurd h hn
  · rename_i hn
    rw [if_neg hn]
    split at h
    · cases h
    · rename_i hn2
      rw [if_neg hn2]
      exact sz_eat (by simpa using hn)

theorem lim_eat {b : List UInt8} {most : Int} (h : (lim b most).2.2 = 0) : (lim b most).2.1.length + 1 ≤ b.length := by
  unfold lim at h ⊢
  split at h
  · rename_i hn; exact absurd h hn
  · rename_i hn
    rw [if_neg hn]
    have h1 := bnd_eat (b := b) (most := most) (by simpa using hn)
    have h2 := spB_len (bnd b most).2.1 (bnd b most).1
    simp only; omega

theorem tkF_succ (most : Int) (n : Nat) (acc : List (List UInt8)) (b : List UInt8) : tkF most (n + 1) acc b = if (lim b most).2.2 ≠ 0 then ([], [], (lim b most).2.2) else tkF most n (acc ++ [(lim b most).1]) (lim b most).2.1 := rfl

theorem map_snoc (acc : List (List UInt8)) (x : List UInt8) : acc.map T.by ++ [T.by x] = (acc ++ [x]).map T.by := by simp

theorem shrB_fdiv (k : Nat) (x : Int) : shrB k (x.fdiv 256) = shrB (k + 1) x := by
  induction k with
  | zero => rfl
  | succ k ih => simp only [shrB] at ih ⊢; rw [ih]

theorem le_cons (k : Nat) (x : Int) : le (k + 1) x = UInt8.ofNat (IntKind.u8.wrap x).toNat :: le k (x.fdiv 256) := by
  induction k generalizing x with
  | zero => rfl
  | succ k ih =>
    have h1 : le (k + 1 + 1) x = le (k + 1) x ++ [UInt8.ofNat (IntKind.u8.wrap (shrB (k + 1) x)).toNat] := rfl
    have h2 : le (k + 1) (x.fdiv 256) = le k (x.fdiv 256) ++ [UInt8.ofNat (IntKind.u8.wrap (shrB k (x.fdiv 256))).toNat] := rfl
    rw [h1, ih, h2, shrB_fdiv]; rfl

theorem byte_of (c : UInt8) (n : Nat) : UInt8.ofNat (IntKind.u8.wrap ((c.toNat + 256 * n : Nat) : Int)).toNat = c := by
  have hc := c.toNat_lt
  have : (IntKind.u8.wrap ((c.toNat + 256 * n : Nat) : Int)).toNat = c.toNat := by
    simp only [IntKind.wrap, IntKind.signed, IntKind.bits]; simp; omega
  rw [this]; simp

theorem le_num (l : List UInt8) : le l.length (num l : Nat) = l := by
  induction l with
  | nil => rfl
  | cons c l ih =>
    have hc := c.toNat_lt
    rw [List.length_cons, le_cons]
    have h2 : ((num (c :: l) : Nat) : Int).fdiv 256 = (num l : Nat) := by
      rw [Int.fdiv_eq_ediv_of_nonneg _ (by omega)]; simp only [num]; omega
    rw [h2, ih]
    congr 1
    exact byte_of c (num l)

theorem num_le (k : Nat) (x : Int) (h0 : 0 ≤ x) (h1 : x < ((256 ^ k : Nat) : Int)) : (num (le k x) : Int) = x := by
  induction k generalizing x with
  | zero => simp [le, num] at *; omega
  | succ k ih =>
    rw [le_cons]
    have hd : x.fdiv 256 = x / 256 := Int.fdiv_eq_ediv_of_nonneg _ (by omega)
    have hp : (256 ^ (k + 1) : Nat) = 256 * 256 ^ k := by rw [Nat.pow_succ, Nat.mul_comm]
    rw [hp] at h1
    have h3 := ih (x.fdiv 256) (by rw [hd]; omega) (by rw [hd]; omega)
    have hw : (IntKind.u8.wrap x).toNat = (x % 256).toNat := by simp only [IntKind.wrap, IntKind.signed, IntKind.bits]; simp
    have hb : (UInt8.ofNat (IntKind.u8.wrap x).toNat).toNat = (x % 256).toNat := by
      rw [hw]; simp; omega
    simp only [num]
    rw [hb]
    omega

theorem spE_app (a b : List UInt8) : spE (a ++ b) a.length = 0 := by
  unfold spE; rw [if_neg (by omega), if_neg (by simp; omega)]

theorem spA_app (a b : List UInt8) : spA (a ++ b) a.length = a := by
  unfold spA; rw [if_neg (by omega), if_neg (by simp; omega)]; simp

theorem spB_app (a b : List UInt8) : spB (a ++ b) a.length = b := by
  unfold spB; rw [if_neg (by omega), if_neg (by simp; omega)]; simp

/-- What is cut off is a beginning, and the rest. -/
theorem sp_ok {b : List UInt8} {n : Int} (h : spE b n = 0) : 0 ≤ n ∧ spA b n ++ spB b n = b ∧ ((spA b n).length : Int) = n := by
  unfold spE at h
  split at h
  · cases h
  · split at h
    · cases h
    · rename_i h1 h2
      unfold spA spB
      simp only [if_neg h1, if_neg h2]
      refine ⟨by omega, by simp, ?_⟩
      simp; omega

theorem rdR_put {k : Nat} {least : Nat} {x : Int} (r : List UInt8) (h0 : 0 ≤ x) (h1 : x < ((256 ^ k : Nat) : Int)) (h2 : (least : Int) ≤ x) : rdR (le k x ++ r) k least = (x.toNat, r, 0) := by
  have hl := le_len k x
  have e := spE_app (le k x) r
  have a := spA_app (le k x) r
  have c := spB_app (le k x) r
  rw [hl] at e a c
  have hn := num_le k x h0 h1
  unfold rdR
  rw [if_neg (by rw [e]; simp), a, c, if_neg (by omega)]
  rw [show num (le k x) = x.toNat by omega]

theorem le1 (x : Int) (h0 : 0 ≤ x) (h1 : x ≤ 255) : le 1 x = [UInt8.ofNat x.toNat] := by
  simp only [le, shrB, List.nil_append]
  rw [wrap_u8 h0 h1]

theorem sz_put (n : Int) (r : List UInt8) (h0 : 0 ≤ n) (h1 : n ≤ 18446744073709551615) : sz (sizeB n ++ r) = (n.toNat, r, 0) := by
  have key : ∀ (x : Int) (s : List UInt8), 0 ≤ x → x ≤ 255 → spE (le 1 x ++ s) 1 = 0 ∧ spB (le 1 x ++ s) 1 = s ∧ (num (spA (le 1 x ++ s) 1) : Int) = x := by
    intro x s hx0 hx1
    have hl := le_len 1 x
    have e := spE_app (le 1 x) s
    have a := spA_app (le 1 x) s
    have c := spB_app (le 1 x) s
    rw [hl] at e a c
    exact ⟨e, c, by rw [show ((1 : Nat) : Int) = 1 from rfl] at a; rw [a]; exact num_le 1 x hx0 (by omega)⟩
  unfold sizeB
  split
  · obtain ⟨k1, k2, k3⟩ := key n r h0 (by omega)
    unfold sz
    rw [if_neg (by rw [k1]; simp), if_neg (by omega), if_neg (by omega), if_neg (by omega), k2]
    rw [show num (spA (le 1 n ++ r) 1) = n.toNat by omega]
  · split
    · obtain ⟨k1, k2, k3⟩ := key 253 (le 2 n ++ r) (by omega) (by omega)
      rw [List.append_assoc]
      unfold sz
      rw [if_neg (by rw [k1]; simp), if_pos (by omega), k2]
      exact rdR_put r h0 (by omega) (by omega)
    · split
      · obtain ⟨k1, k2, k3⟩ := key 254 (le 4 n ++ r) (by omega) (by omega)
        rw [List.append_assoc]
        unfold sz
        rw [if_neg (by rw [k1]; simp), if_neg (by omega), if_pos (by omega), k2]
        exact rdR_put r h0 (by omega) (by omega)
      · obtain ⟨k1, k2, k3⟩ := key 255 (le 8 n ++ r) (by omega) (by omega)
        rw [List.append_assoc]
        unfold sz
        rw [if_neg (by rw [k1]; simp), if_neg (by omega), if_neg (by omega), if_pos (by omega), k2]
        exact rdR_put r h0 (by omega) (by omega)

theorem rdR_only {b : List UInt8} {k : Nat} {least : Nat} (h : (rdR b k least).2.2 = 0) : (least : Int) ≤ (rdR b k least).1 ∧ le k ((rdR b k least).1 : Nat) ++ (rdR b k least).2.1 = b := by
  unfold rdR at h ⊢
  split at h
  · rename_i hn; exact absurd h hn
  · rename_i hn
    rw [if_neg hn]
    split at h
    · cases h
    · rename_i h2
      rw [if_neg h2]
      obtain ⟨q1, q2, q3⟩ := sp_ok (b := b) (n := k) (by simpa using hn)
      have hk : (spA b k).length = k := by omega
      have := le_num (spA b k)
      rw [hk] at this
      exact ⟨by simp only; omega, by simp only; rw [this]; exact q2⟩

/-- Whoever is taken as a size was put so. -/
theorem sz_only {b : List UInt8} (h : (sz b).2.2 = 0) : sizeB ((sz b).1 : Nat) ++ (sz b).2.1 = b := by
  have hlt := num_lt1 (spA b 1) (spA_le b 1 1 (by omega))
  have l2 := rdR_lt (spB b 1) 2 253 (by omega)
  unfold sz at h ⊢
  split at h
  · rename_i hn; exact absurd h hn
  · rename_i hn
    rw [if_neg hn]
    obtain ⟨q1, q2, q3⟩ := sp_ok (b := b) (n := 1) (by simpa using hn)
    have hk : (spA b 1).length = 1 := by omega
    have hone := le_num (spA b 1)
    rw [hk] at hone
    have b2 : (rdR (spB b 1) 2 253).1 < 65536 := by
      unfold rdR; split
      · simp
      · split
        · simp
        · have := num_lt (spA (spB b 1) 2)
          have hl := spA_le (spB b 1) 2 2 (by omega)
          have hp : 256 ^ (spA (spB b 1) 2).length ≤ 256 ^ 2 := Nat.pow_le_pow_right (by omega) hl
          simp only; omega
    have b4 : (rdR (spB b 1) 4 65536).1 < 4294967296 := by
      unfold rdR; split
      · simp
      · split
        · simp
        · have := num_lt4 (spA (spB b 1) 4) (spA_le (spB b 1) 4 4 (by omega))
          simp only; omega
    split at h
    · rename_i e
      rw [if_pos e]
      obtain ⟨r1, r2⟩ := rdR_only (k := 2) h
      unfold sizeB
      have r1' : (253 : Int) ≤ (rdR (spB b 1) 2 253).1 := r1
      rw [if_neg (by omega), if_pos (by omega), List.append_assoc]
      rw [show ((2 : Nat) : Int) = 2 from rfl] at r2
      rw [r2]; conv => rhs; rw [← q2]
      congr 1
      rw [← hone, e]; rfl
    · rename_i e
      rw [if_neg e]
      split at h
      · rename_i e4
        rw [if_pos e4]
        obtain ⟨r1, r2⟩ := rdR_only (k := 4) h
        unfold sizeB
        have r1' : (65536 : Int) ≤ (rdR (spB b 1) 4 65536).1 := r1
        rw [if_neg (by omega), if_neg (by omega), if_pos (by omega), List.append_assoc]
        rw [show ((4 : Nat) : Int) = 4 from rfl] at r2
        rw [r2]; conv => rhs; rw [← q2]
        congr 1
        rw [← hone, e4]; rfl
      · rename_i e4
        rw [if_neg e4]
        split at h
        · rename_i e8
          rw [if_pos e8]
          obtain ⟨r1, r2⟩ := rdR_only (k := 8) h
          unfold sizeB
          have r1' : (4294967296 : Int) ≤ (rdR (spB b 1) 8 4294967296).1 := r1
          rw [if_neg (by omega), if_neg (by omega), if_neg (by omega), List.append_assoc]
          rw [show ((8 : Nat) : Int) = 8 from rfl] at r2
          rw [r2]; conv => rhs; rw [← q2]
          congr 1
          rw [← hone, e8]; rfl
        · rename_i e8
          rw [if_neg e8]
          unfold sizeB
          simp only
          rw [if_pos (by omega), hone, q2]

theorem bnd_only {b : List UInt8} {most : Int} (h : (bnd b most).2.2 = 0) : sizeB ((bnd b most).1 : Nat) ++ (bnd b most).2.1 = b ∧ ((bnd b most).1 : Int) ≤ most := by
  unfold bnd at h ⊢
  split at h
  · rename_i hn; exact absurd h hn
  · rename_i hn
    rw [if_neg hn]
    split at h
    · cases h
    · rename_i h2
      rw [if_neg h2]
      exact ⟨sz_only (by simpa using hn), by simp only; omega⟩

theorem lim_only {b : List UInt8} {most : Int} (h : (lim b most).2.2 = 0) : sizeB ((lim b most).1.length : Int) ++ (lim b most).1 ++ (lim b most).2.1 = b := by
  unfold lim at h ⊢
  split at h
  · rename_i hn; exact absurd h hn
  · rename_i hn
    rw [if_neg hn]
    obtain ⟨q1, q2, q3⟩ := sp_ok (b := (bnd b most).2.1) (n := (bnd b most).1) h
    have h1 := (bnd_only (b := b) (most := most) (by simpa using hn)).1
    simp only
    rw [q3, List.append_assoc, q2, h1]

theorem tkF_bad {most : Int} : ∀ (n : Nat) (acc : List (List UInt8)) (b : List UInt8), (tkF most n acc b).2.2 ≠ 0 → (tkF most n acc b).1 = [] ∧ (tkF most n acc b).2.1 = []
  | 0, acc, b, h => by simp [tkF] at h
  | n + 1, acc, b, h => by
    unfold tkF at h ⊢
    split at h
    · rename_i hn; rw [if_pos hn]; exact ⟨rfl, rfl⟩
    · rename_i hn; rw [if_neg hn]; exact tkF_bad n _ _ h

theorem tkF_only {most : Int} : ∀ (n : Nat) (acc : List (List UInt8)) (b : List UInt8), (tkF most n acc b).2.2 = 0 →
    (tkF most n acc b).1.length = acc.length + n ∧ flat (tkF most n acc b).1 ++ (tkF most n acc b).2.1 = flat acc ++ b
  | 0, acc, b, h => by simp [tkF]
  | n + 1, acc, b, h => by
    unfold tkF at h ⊢
    split at h
    · rename_i hn; exact absurd h hn
    · rename_i hn
      rw [if_neg hn]
      obtain ⟨h1, h2⟩ := tkF_only n _ _ h
      refine ⟨by rw [h1]; simp; omega, ?_⟩
      rw [h2, flat_snoc, List.append_assoc]
      have h3 := lim_only (b := b) (most := most) (by simpa using hn)
      rw [h3]

theorem lst_bad {b : List UInt8} {many most : Int} (h : (lst b many most).2.2 ≠ 0) : (lst b many most).1 = [] ∧ (lst b many most).2.1 = [] := by
  unfold lst at h ⊢
  split at h
  · rename_i hn; rw [if_pos hn]; exact ⟨rfl, rfl⟩
  · rename_i hn; rw [if_neg hn]; exact tkF_bad _ _ _ h

/-- A list that is taken, put again. -/
theorem lst_only {b : List UInt8} {many most : Int} (h : (lst b many most).2.2 = 0) :
    ((lst b many most).1.length : Int) ≤ many ∧ sizeB ((lst b many most).1.length : Int) ++ flat (lst b many most).1 ++ (lst b many most).2.1 = b := by
  unfold lst at h ⊢
  split at h
  · rename_i hn; exact absurd h hn
  · rename_i hn
    rw [if_neg hn]
    obtain ⟨h1, h2⟩ := bnd_only (b := b) (most := many) (by simpa using hn)
    obtain ⟨h3, h4⟩ := tkF_only _ _ _ h
    simp only [List.length_nil, Nat.zero_add] at h3
    rw [List.append_assoc, h4, h3]
    exact ⟨h2, by simpa [flat] using h1⟩

end Go.Fw

end
