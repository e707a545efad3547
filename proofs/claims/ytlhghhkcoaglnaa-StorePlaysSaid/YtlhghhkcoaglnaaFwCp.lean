/- The abstract machine, and the contracts of the code: part 47. -/
import Derived.Test.YtlhghhkcoaglnaaFwT

section
/- Numbers, sizes, strings and lists as bytes: plain laws. -/
namespace Go.Fw
open Go
set_option linter.unusedVariables false
set_option linter.unusedSimpArgs false

/-- A number, shifted right by so many bytes. -/
def shrB : Nat → Int → Int
  | 0, x => x
  | k + 1, x => (shrB k x).fdiv 256

/-- The lowest so many bytes of a number. -/
def le : Nat → Int → List UInt8
  | 0, _ => []
  | k + 1, x => le k x ++ [UInt8.ofNat (IntKind.u8.wrap (shrB k x)).toNat]

theorem le_len (k : Nat) (x : Int) : (le k x).length = k := by
  induction k with
  | zero => rfl
  | succ k ih => simp [le, ih]

theorem shrB_range (k : Nat) (x : Int) (h0 : 0 ≤ x) (h1 : x ≤ 18446744073709551615) : 0 ≤ shrB k x ∧ shrB k x ≤ 18446744073709551615 := by
  induction k with
  | zero => exact ⟨h0, h1⟩
  | succ k ih =>
    simp only [shrB]
    rw [Int.fdiv_eq_ediv_of_nonneg _ (by omega)]
    omega

theorem inK_u8 {n : Int} (h : inK .u8 n) : 0 ≤ n ∧ n ≤ 255 := by simpa [inK, IntKind.min, IntKind.max, IntKind.signed, IntKind.bits] using h

theorem inK_u16 {n : Int} (h : inK .u16 n) : 0 ≤ n ∧ n ≤ 65535 := by simpa [inK, IntKind.min, IntKind.max, IntKind.signed, IntKind.bits] using h

theorem inK_u32 {n : Int} (h : inK .u32 n) : 0 ≤ n ∧ n ≤ 4294967295 := by simpa [inK, IntKind.min, IntKind.max, IntKind.signed, IntKind.bits] using h

theorem inK_u64 {n : Int} (h : inK .u64 n) : 0 ≤ n ∧ n ≤ 18446744073709551615 := by simpa [inK, IntKind.min, IntKind.max, IntKind.signed, IntKind.bits] using h

theorem inK_i64 {n : Int} (h : inK .i64 n) : -9223372036854775808 ≤ n ∧ n ≤ 9223372036854775807 := by simpa [inK, IntKind.min, IntKind.max, IntKind.signed, IntKind.bits] using h

theorem wrap_u8 {n : Int} (h1 : 0 ≤ n) (h2 : n ≤ 255) : IntKind.u8.wrap n = n := by simp only [IntKind.wrap, IntKind.signed, IntKind.bits]; simp; omega

theorem wrap_u16 {n : Int} (h1 : 0 ≤ n) (h2 : n ≤ 65535) : IntKind.u16.wrap n = n := by simp only [IntKind.wrap, IntKind.signed, IntKind.bits]; simp; omega

theorem wrap_u32 {n : Int} (h1 : 0 ≤ n) (h2 : n ≤ 4294967295) : IntKind.u32.wrap n = n := by simp only [IntKind.wrap, IntKind.signed, IntKind.bits]; simp; omega

/-- A size, as bytes. -/
def sizeB (n : Int) : List UInt8 :=
  if n < 253 then le 1 n else if n < 65536 then le 1 253 ++ le 2 n else if n < 4294967296 then le 1 254 ++ le 4 n else le 1 255 ++ le 8 n

theorem sizeB_len (n : Int) : (sizeB n).length ≤ 9 := by
  unfold sizeB
  split
  · simp [le_len]
  · split
    · simp [le_len]
    · split <;> simp [le_len]

/-- The strings of a list, each behind its size. -/
def flat : List (List UInt8) → List UInt8
  | [] => []
  | x :: l => sizeB x.length ++ x ++ flat l

theorem flat_snoc (l : List (List UInt8)) (x : List UInt8) : flat (l ++ [x]) = flat l ++ (sizeB x.length ++ x) := by
  induction l with
  | nil => simp [flat]
  | cons y l ih => simp [flat, ih]

def strs (l : List (List UInt8)) : T := .sq 1 (l.map .by)

def asBys : List T → Option (List (List UInt8))
  | [] => some []
  | .by l :: r => match asBys r with
    | some ls => some (l :: ls)
    | none => none
  | _ => none

theorem asBys_map (l : List (List UInt8)) : asBys (l.map .by) = some l := by
  induction l with
  | nil => rfl
  | cons x l ih => simp [asBys, ih]

theorem asBys_inv {xs : List T} {l : List (List UInt8)} (h : asBys xs = some l) : xs = l.map .by := by
  induction xs generalizing l with
  | nil => cases h; rfl
  | cons x xs ih =>
    unfold asBys at h
    split at h
    · rename_i heq; cases heq
    · rename_i y r heq
      cases heq
      split at h
      · rename_i ls hls; cases h; simp [ih hls]
      · cases h
    · cases h

theorem flat_take_len (l : List (List UInt8)) (k : Nat) : (flat (l.take k)).length ≤ (flat l).length := by
  induction l generalizing k with
  | nil => simp [flat]
  | cons x l ih =>
    cases k with
    | zero => simp [flat]
    | succ k => simp only [List.take_succ_cons, flat, List.length_append]; have := ih k; omega

theorem take_getD (l : List (List UInt8)) (k : Nat) (h : k < l.length) : l.take (k + 1) = l.take k ++ [l.getD k []] := by
  rw [List.take_succ_eq_append_getElem h]; simp [h]

theorem flat_take (l : List (List UInt8)) (k : Nat) (h : k < l.length) : flat (l.take (k + 1)) = flat (l.take k) ++ (sizeB (l.getD k []).length ++ l.getD k []) := by
  rw [take_getD l k h, flat_snoc]

theorem map_getD (l : List (List UInt8)) (k : Nat) (h : k < l.length) : (l.map T.by).getD k default = .by (l.getD k []) := by simp [h]

theorem flat_get_len (l : List (List UInt8)) (k : Nat) (h : k < l.length) : (flat (l.take k)).length + (l.getD k []).length ≤ (flat l).length := by
  have h1 := flat_take_len l (k + 1)
  rw [flat_take l k h] at h1
  simp only [List.length_append] at h1
  omega

theorem len_le_flat (l : List (List UInt8)) : l.length ≤ (flat l).length := by
  induction l with
  | nil => simp
  | cons x l ih =>
    have : 1 ≤ (sizeB x.length).length := by
      unfold sizeB
      split
      · simp [le_len]
      · split
        · simp [le_len]
        · split <;> simp [le_len]
    simp only [List.length_cons, flat, List.length_append]; omega

theorem tdiv_256 {n : Int} (h : 0 ≤ n) : n.tdiv 256 = n.fdiv 256 := by
  rw [Int.tdiv_eq_ediv_of_nonneg h, Int.fdiv_eq_ediv_of_nonneg _ (by omega)]

/-- How a cut ends, what it takes, what it leaves. -/
def spE (b : List UInt8) (n : Int) : Int := if n < 0 then 1 else if (b.length : Int) < n then 2 else 0

def spA (b : List UInt8) (n : Int) : List UInt8 := if n < 0 then [] else if (b.length : Int) < n then [] else b.take n.toNat

def spB (b : List UInt8) (n : Int) : List UInt8 := if n < 0 then [] else if (b.length : Int) < n then [] else b.drop n.toNat

theorem spA_len (b : List UInt8) (n : Int) : (spA b n).length ≤ b.length := by unfold spA; split <;> (try split) <;> simp <;> omega

theorem spB_len (b : List UInt8) (n : Int) : (spB b n).length ≤ b.length := by unfold spB; split <;> (try split) <;> simp

theorem spA_le (b : List UInt8) (n : Int) (m : Nat) (h : n ≤ m) : (spA b n).length ≤ m := by unfold spA; split <;> (try split) <;> simp <;> omega

/-- The number that bytes stand for, the lowest first. -/
def num : List UInt8 → Nat
  | [] => 0
  | c :: l => c.toNat + 256 * num l

theorem num_lt (l : List UInt8) : num l < 256 ^ l.length := by
  induction l with
  | nil => simp [num]
  | cons c l ih =>
    have hc : c.toNat < 256 := c.toNat_lt
    simp only [num, List.length_cons, Nat.pow_succ]
    omega

theorem num_lt8 (l : List UInt8) (h : l.length ≤ 8) : num l ≤ 18446744073709551615 := by
  have h1 := num_lt l
  have h2 : 256 ^ l.length ≤ 256 ^ 8 := Nat.pow_le_pow_right (by omega) h
  have h3 : (256 : Nat) ^ 8 = 18446744073709551616 := by decide
  omega

theorem num_snoc (l : List UInt8) (c : UInt8) : num (l ++ [c]) = num l + c.toNat * 256 ^ l.length := by
  induction l with
  | nil => simp [num]
  | cons d l ih => simp only [List.cons_append, num, ih, List.length_cons, Nat.pow_succ, Nat.mul_add]; rw [Nat.mul_left_comm, Nat.mul_comm 256 (256 ^ l.length)]; omega

theorem num_drop (l : List UInt8) (k : Nat) (h : k < l.length) : num (l.drop k) = (l.getD k 0).toNat + 256 * num (l.drop (k + 1)) := by
  rw [List.drop_eq_getElem_cons h]; simp [num, h]

theorem num_take (l : List UInt8) (k : Nat) (h : k < l.length) : num (l.take (k + 1)) = num (l.take k) + (l.getD k 0).toNat * 256 ^ k := by
  rw [List.take_succ_eq_append_getElem h, num_snoc]; simp [h]; rw [Nat.min_eq_left (by omega)]

theorem pow256 (k : Nat) : (256 : Nat) ^ k = 2 ^ (8 * k) := by rw [Nat.pow_mul]

theorem or_step (a c k : Nat) (ha : a < 256 ^ k) (hs : a + c * 256 ^ k < 18446744073709551616) : arith .or .u64 (a : Int) ((c * 256 ^ k : Nat) : Int) = some (.int .u64 ((a + c * 256 ^ k : Nat) : Int)) := by
  simp only [arith, abits, IntKind.bits]
  have h1 : ((a : Int) % 2 ^ 64).toNat = a := by omega
  have h2 : (((c * 256 ^ k : Nat) : Int) % 2 ^ 64).toNat = c * 256 ^ k := by omega
  rw [h1, h2]
  have h3 : a ||| c * 256 ^ k = a + c * 256 ^ k := by
    have := Nat.two_pow_add_eq_or_of_lt (i := 8 * k) (b := a) (by rw [← pow256]; exact ha) c
    rw [Nat.or_comm, pow256, Nat.mul_comm c, ← this]; omega
  rw [h3, wrap_u64 (by omega) (by omega)]

theorem shl_step (c k : Nat) (hk : k ≤ 8) (hs : c * 256 ^ k < 18446744073709551616) : arith .shl .u64 (c : Int) ((8 * k : Nat) : Int) = some (.int .u64 ((c * 256 ^ k : Nat) : Int)) := by
  simp only [arith, IntKind.bits]
  rw [if_neg (by omega)]
  have h1 : min ((8 * k : Nat) : Int).toNat 64 = 8 * k := by omega
  have h2 : (c : Int) * 2 ^ (8 * k) = ((c * 256 ^ k : Nat) : Int) := by rw [pow256]; push_cast; rfl
  rw [h1, h2, wrap_u64 (by omega) (by omega)]

theorem mul_step (k : Nat) (hk : k ≤ 8) : arith .mul .i64 8 (k : Int) = some (.int .i64 ((8 * k : Nat) : Int)) := by
  simp only [arith]
  rw [wrap_i64 (by omega) (by omega)]; push_cast; rfl

theorem num_lt4 (l : List UInt8) (h : l.length ≤ 4) : num l ≤ 4294967295 := by
  have h1 := num_lt l
  have h2 : 256 ^ l.length ≤ 256 ^ 4 := Nat.pow_le_pow_right (by omega) h
  have h3 : (256 : Nat) ^ 4 = 4294967296 := by decide
  omega

/-- A long number: what it is, what is left, how it ended. -/
def rdR (b : List UInt8) (long : Int) (least : Nat) : Nat × List UInt8 × Int :=
  if spE b long ≠ 0 then (0, [], spE b long) else if num (spA b long) < least then (0, [], 3) else (num (spA b long), spB b long, 0)

/-- A size. -/
def sz (b : List UInt8) : Nat × List UInt8 × Int :=
  if spE b 1 ≠ 0 then (0, [], spE b 1) else if num (spA b 1) = 253 then rdR (spB b 1) 2 253 else if num (spA b 1) = 254 then rdR (spB b 1) 4 65536
  else if num (spA b 1) = 255 then rdR (spB b 1) 8 4294967296 else (num (spA b 1), spB b 1, 0)

theorem sp_bad {b : List UInt8} {n : Int} (h : spE b n ≠ 0) : spA b n = [] ∧ spB b n = [] := by
  unfold spE at h; unfold spA spB
  split
  · exact ⟨rfl, rfl⟩
  · split
    · exact ⟨rfl, rfl⟩
    · rename_i h1 h2; rw [if_neg h1, if_neg h2] at h; exact absurd rfl h

theorem num_lt1 (l : List UInt8) (h : l.length ≤ 1) : num l ≤ 255 := by
  have h1 := num_lt l
  have h2 : 256 ^ l.length ≤ 256 ^ 1 := Nat.pow_le_pow_right (by omega) h
  have h3 : (256 : Nat) ^ 1 = 256 := by decide
  omega

theorem rdR_len (b : List UInt8) (n : Int) (k : Nat) : (rdR b n k).2.1.length ≤ b.length := by
  have := spB_len b n
  unfold rdR; split
  · simp
  · split <;> simp <;> omega

theorem rdR_lt (b : List UInt8) (n : Int) (k : Nat) (hn : n ≤ 8) : (rdR b n k).1 ≤ 18446744073709551615 := by
  have := num_lt8 (spA b n) (spA_le b n 8 hn)
  unfold rdR; split
  · simp
  · split <;> simp <;> omega

theorem sz_len (b : List UInt8) : (sz b).2.1.length ≤ b.length := by
  have := spB_len b 1
  have h1 := rdR_len (spB b 1) 2 253
  have h2 := rdR_len (spB b 1) 4 65536
  have h3 := rdR_len (spB b 1) 8 4294967296
  unfold sz; repeat' split
  all_goals first | (simp; done) | omega | (simp only; omega)

theorem sz_lt (b : List UInt8) : (sz b).1 ≤ 18446744073709551615 := by
  have h0 := num_lt1 (spA b 1) (spA_le b 1 1 (by omega))
  have h1 := rdR_lt (spB b 1) 2 253 (by omega)
  have h2 := rdR_lt (spB b 1) 4 65536 (by omega)
  have h3 := rdR_lt (spB b 1) 8 4294967296 (by omega)
  unfold sz; repeat' split
  all_goals first | (simp; done) | omega | (simp only; omega)

/-- A bounded size. -/
def bnd (b : List UInt8) (most : Int) : Nat × List UInt8 × Int :=
  if (sz b).2.2 ≠ 0 then (0, [], (sz b).2.2) else if most < 0 ∨ most < ((sz b).1 : Int) then (0, [], 4) else ((sz b).1, (sz b).2.1, 0)

/-- Bounded bytes. -/
def lim (b : List UInt8) (most : Int) : List UInt8 × List UInt8 × Int :=
  if (bnd b most).2.2 ≠ 0 then ([], [], (bnd b most).2.2)
  else (spA (bnd b most).2.1 (bnd b most).1, spB (bnd b most).2.1 (bnd b most).1, spE (bnd b most).2.1 (bnd b most).1)

theorem bnd_len (b : List UInt8) (most : Int) : (bnd b most).2.1.length ≤ b.length := by
  have := sz_len b
  unfold bnd; repeat' split
  all_goals first | (simp; done) | omega | (simp only; omega)

theorem bnd_lt (b : List UInt8) (most : Int) (h : most ≤ 9223372036854775807) : ((bnd b most).1 : Int) ≤ 9223372036854775807 := by
  unfold bnd; split
  · simp
  · split
    · simp
    · rename_i hn; simp only; omega

theorem lim_len (b : List UInt8) (most : Int) : (lim b most).1.length ≤ b.length ∧ (lim b most).2.1.length ≤ b.length := by
  have h0 := bnd_len b most
  have h1 := spA_len (bnd b most).2.1 (bnd b most).1
  have h2 := spB_len (bnd b most).2.1 (bnd b most).1
  unfold lim; split
  · simp
  · simp only; omega

theorem wf_rows {l : List (List UInt8)} (h : (T.sq 1 (l.map .by)).wf) : l.length ≤ maxLen := by
  simp only [T.wf] at h; simpa using h.2.1

def smallB (l : List (List UInt8)) : Bool := decide (l.length ≤ 40) && l.all fun x => decide (x.length ≤ 300)

theorem flat_small (l : List (List UInt8)) (h : smallB l = true) : (flat l).length ≤ 40 * 309 := by
  simp only [smallB, Bool.and_eq_true, decide_eq_true_eq, List.all_eq_true] at h
  obtain ⟨h1, h2⟩ := h
  have : ∀ l : List (List UInt8), (∀ x ∈ l, x.length ≤ 300) → (flat l).length ≤ l.length * 309 := by
    intro l
    induction l with
    | nil => simp [flat]
    | cons x l ih =>
      intro h
      have a := h x (by simp)
      have b := ih (fun y hy => h y (by simp [hy]))
      have c := sizeB_len (x.length : Int)
      simp only [flat, List.length_append, List.length_cons]
      omega
  exact Nat.le_trans (this l h2) (Nat.mul_le_mul_right 309 h1)

/-- So many strings, taken one after the other. -/
def tkF (most : Int) : Nat → List (List UInt8) → List UInt8 → List (List UInt8) × List UInt8 × Int
  | 0, acc, b => (acc, b, 0)
  | n + 1, acc, b => if (lim b most).2.2 ≠ 0 then ([], [], (lim b most).2.2) else tkF most n (acc ++ [(lim b most).1]) (lim b most).2.1

/-- A list, taken. -/
def lst (b : List UInt8) (many most : Int) : List (List UInt8) × List UInt8 × Int :=
  if (bnd b many).2.2 ≠ 0 then ([], [], (bnd b many).2.2) else tkF most (bnd b many).1 [] (bnd b many).2.1

theorem rdR_eat {b : List UInt8} {n : Int} {k : Nat} (h : (rdR b n k).2.2 = 0) : (rdR b n k).2.1.length ≤ b.length := rdR_len b n k

theorem sp1_eat {b : List UInt8} (h : spE b 1 = 0) : (spB b 1).length + 1 ≤ b.length := by
  unfold spE at h
  rw [if_neg (by omega)] at h
  split at h
  · cases h
  · rename_i hn
    unfold spB
    rw [if_neg (by omega), if_neg hn]
    simp; omega

theorem sz_eat {b : List UInt8} (h : (sz b).2.2 = 0) : (sz b).2.1.length + 1 ≤ b.length := by
  have h1 := rdR_len (spB b 1) 2 253
  have h2 := rdR_len (spB b 1) 4 65536
  have h3 := rdR_len (spB b 1) 8 4294967296
  unfold sz at h ⊢
  split at h
  · rename_i hn; exact absurd h hn
  · rename_i hn
    rw [if_neg hn]
    have h0 := sp1_eat (b := b) (by simpa using hn)
    repeat' split
    all_goals first | omega | (simp only; omega)

theorem bnd_eat {b : List UInt8} {most : Int} (h : (bnd b most).2.2 = 0) : (bnd b most).2.1.length + 1 ≤ b.length := by
  unfold bnd at h ⊢
  split at h
  · rename_i hn; exact absurd h hn
  · rename_i hn
    rw [if_neg hn]
    split at h
    · cases h
    · rename_i hn2
      rw [if_neg hn2]
      exact sz_eat (by simpa using hn)

theorem lim_eat {b : List UInt8} {most : Int} (h : (lim b most).2.2 = 0) : (lim b most).2.1.length + 1 ≤ b.length := by
  unfold lim at h ⊢
  split at h
  · rename_i hn; exact absurd h hn
  · rename_i hn
    rw [if_neg hn]
    have h1 := bnd_eat (b := b) (most := most) (by simpa using hn)
    have h2 := spB_len (bnd b most).2.1 (bnd b most).1
    simp only; omega

theorem tkF_succ (most : Int) (n : Nat) (acc : List (List UInt8)) (b : List UInt8) : tkF most (n + 1) acc b = if (lim b most).2.2 ≠ 0 then ([], [], (lim b most).2.2) else tkF most n (acc ++ [(lim b most).1]) (lim b most).2.1 := rfl

theorem map_snoc (acc : List (List UInt8)) (x : List UInt8) : acc.map T.by ++ [T.by x] = (acc ++ [x]).map T.by := by simp

theorem shrB_fdiv (k : Nat) (x : Int) : shrB k (x.fdiv 256) = shrB (k + 1) x := by
  induction k with
  | zero => rfl
  | succ k ih => simp only [shrB] at ih ⊢; rw [ih]

theorem le_cons (k : Nat) (x : Int) : le (k + 1) x = UInt8.ofNat (IntKind.u8.wrap x).toNat :: le k (x.fdiv 256) := by
  induction k generalizing x with
  | zero => rfl
  | succ k ih =>
    have h1 : le (k + 1 + 1) x = le (k + 1) x ++ [UInt8.ofNat (IntKind.u8.wrap (shrB (k + 1) x)).toNat] := rfl
    have h2 : le (k + 1) (x.fdiv 256) = le k (x.fdiv 256) ++ [UInt8.ofNat (IntKind.u8.wrap (shrB k (x.fdiv 256))).toNat] := rfl
    rw [h1, ih, h2, shrB_fdiv]; rfl

theorem byte_of (c : UInt8) (n : Nat) : UInt8.ofNat (IntKind.u8.wrap ((c.toNat + 256 * n : Nat) : Int)).toNat = c := by
  have hc := c.toNat_lt
  have : (IntKind.u8.wrap ((c.toNat + 256 * n : Nat) : Int)).toNat = c.toNat := by
    simp only [IntKind.wrap, IntKind.signed, IntKind.bits]; simp; omega
  rw [this]; simp

theorem le_num (l : List UInt8) : le l.length (num l : Nat) = l := by
  induction l with
  | nil => rfl
  | cons c l ih =>
    have hc := c.toNat_lt
    rw [List.length_cons, le_cons]
    have h2 : ((num (c :: l) : Nat) : Int).fdiv 256 = (num l : Nat) := by
      rw [Int.fdiv_eq_ediv_of_nonneg _ (by omega)]; simp only [num]; omega
    rw [h2, ih]
    congr 1
    exact byte_of c (num l)

theorem num_le (k : Nat) (x : Int) (h0 : 0 ≤ x) (h1 : x < ((256 ^ k : Nat) : Int)) : (num (le k x) : Int) = x := by
  induction k generalizing x with
  | zero => simp [le, num] at *; omega
  | succ k ih =>
    rw [le_cons]
    have hd : x.fdiv 256 = x / 256 := Int.fdiv_eq_ediv_of_nonneg _ (by omega)
    have hp : (256 ^ (k + 1) : Nat) = 256 * 256 ^ k := by rw [Nat.pow_succ, Nat.mul_comm]
    rw [hp] at h1
    have h3 := ih (x.fdiv 256) (by rw [hd]; omega) (by rw [hd]; omega)
    have hw : (IntKind.u8.wrap x).toNat = (x % 256).toNat := by simp only [IntKind.wrap, IntKind.signed, IntKind.bits]; simp
    have hb : (UInt8.ofNat (IntKind.u8.wrap x).toNat).toNat = (x % 256).toNat := by
      rw [hw]; simp; omega
    simp only [num]
    rw [hb]
    omega

theorem spE_app (a b : List UInt8) : spE (a ++ b) a.length = 0 := by
  unfold spE; rw [if_neg (by omega), if_neg (by simp; omega)]

theorem spA_app (a b : List UInt8) : spA (a ++ b) a.length = a := by
  unfold spA; rw [if_neg (by omega), if_neg (by simp; omega)]; simp

theorem spB_app (a b : List UInt8) : spB (a ++ b) a.length = b := by
  unfold spB; rw [if_neg (by omega), if_neg (by simp; omega)]; simp

/-- What is cut off is a beginning, and the rest. -/
theorem sp_ok {b : List UInt8} {n : Int} (h : spE b n = 0) : 0 ≤ n ∧ spA b n ++ spB b n = b ∧ ((spA b n).length : Int) = n := by
  unfold spE at h
  split at h
  · cases h
  · split at h
    · cases h
    · rename_i h1 h2
      unfold spA spB
      simp only [if_neg h1, if_neg h2]
      refine ⟨by omega, by simp, ?_⟩
      simp; omega

theorem rdR_put {k : Nat} {least : Nat} {x : Int} (r : List UInt8) (h0 : 0 ≤ x) (h1 : x < ((256 ^ k : Nat) : Int)) (h2 : (least : Int) ≤ x) : rdR (le k x ++ r) k least = (x.toNat, r, 0) := by
  have hl := le_len k x
  have e := spE_app (le k x) r
  have a := spA_app (le k x) r
  have c := spB_app (le k x) r
  rw [hl] at e a c
  have hn := num_le k x h0 h1
  unfold rdR
  rw [if_neg (by rw [e]; simp), a, c, if_neg (by omega)]
  rw [show num (le k x) = x.toNat by omega]

theorem le1 (x : Int) (h0 : 0 ≤ x) (h1 : x ≤ 255) : le 1 x = [UInt8.ofNat x.toNat] := by
  simp only [le, shrB, List.nil_append]
  rw [wrap_u8 h0 h1]

theorem sz_put (n : Int) (r : List UInt8) (h0 : 0 ≤ n) (h1 : n ≤ 18446744073709551615) : sz (sizeB n ++ r) = (n.toNat, r, 0) := by
  have key : ∀ (x : Int) (s : List UInt8), 0 ≤ x → x ≤ 255 → spE (le 1 x ++ s) 1 = 0 ∧ spB (le 1 x ++ s) 1 = s ∧ (num (spA (le 1 x ++ s) 1) : Int) = x := by
    intro x s hx0 hx1
    have hl := le_len 1 x
    have e := spE_app (le 1 x) s
    have a := spA_app (le 1 x) s
    have c := spB_app (le 1 x) s
    rw [hl] at e a c
    exact ⟨e, c, by rw [show ((1 : Nat) : Int) = 1 from rfl] at a; rw [a]; exact num_le 1 x hx0 (by omega)⟩
  unfold sizeB
  split
  · obtain ⟨k1, k2, k3⟩ := key n r h0 (by omega)
    unfold sz
    rw [if_neg (by rw [k1]; simp), if_neg (by omega), if_neg (by omega), if_neg (by omega), k2]
    rw [show num (spA (le 1 n ++ r) 1) = n.toNat by omega]
  · split
    · obtain ⟨k1, k2, k3⟩ := key 253 (le 2 n ++ r) (by omega) (by omega)
      rw [List.append_assoc]
      unfold sz
      rw [if_neg (by rw [k1]; simp), if_pos (by omega), k2]
      exact rdR_put r h0 (by omega) (by omega)
    · split
      · obtain ⟨k1, k2, k3⟩ := key 254 (le 4 n ++ r) (by omega) (by omega)
        rw [List.append_assoc]
        unfold sz
        rw [if_neg (by rw [k1]; simp), if_neg (by omega), if_pos (by omega), k2]
        exact rdR_put r h0 (by omega) (by omega)
      · obtain ⟨k1, k2, k3⟩ := key 255 (le 8 n ++ r) (by omega) (by omega)
        rw [List.append_assoc]
        unfold sz
        rw [if_neg (by rw [k1]; simp), if_neg (by omega), if_neg (by omega), if_pos (by omega), k2]
        exact rdR_put r h0 (by omega) (by omega)

theorem rdR_only {b : List UInt8} {k : Nat} {least : Nat} (h : (rdR b k least).2.2 = 0) : (least : Int) ≤ (rdR b k least).1 ∧ le k ((rdR b k least).1 : Nat) ++ (rdR b k least).2.1 = b := by
  unfold rdR at h ⊢
  split at h
  · rename_i hn; exact absurd h hn
  · rename_i hn
    rw [if_neg hn]
    split at h
    · cases h
    · rename_i h2
      rw [if_neg h2]
      obtain ⟨q1, q2, q3⟩ := sp_ok (b := b) (n := k) (by simpa using hn)
      have hk : (spA b k).length = k := by omega
      have := le_num (spA b k)
      rw [hk] at this
      exact ⟨by simp only; omega, by simp only; rw [this]; exact q2⟩

/-- Whoever is taken as a size was put so. -/
theorem sz_only {b : List UInt8} (h : (sz b).2.2 = 0) : sizeB ((sz b).1 : Nat) ++ (sz b).2.1 = b := by
  have hlt := num_lt1 (spA b 1) (spA_le b 1 1 (by omega))
  have l2 := rdR_lt (spB b 1) 2 253 (by omega)
  unfold sz at h ⊢
  split at h
  · rename_i hn; exact absurd h hn
  · rename_i hn
    rw [if_neg hn]
    obtain ⟨q1, q2, q3⟩ := sp_ok (b := b) (n := 1) (by simpa using hn)
    have hk : (spA b 1).length = 1 := by omega
    have hone := le_num (spA b 1)
    rw [hk] at hone
    have b2 : (rdR (spB b 1) 2 253).1 < 65536 := by
      unfold rdR; split
      · simp
      · split
        · simp
        · have := num_lt (spA (spB b 1) 2)
          have hl := spA_le (spB b 1) 2 2 (by omega)
          have hp : 256 ^ (spA (spB b 1) 2).length ≤ 256 ^ 2 := Nat.pow_le_pow_right (by omega) hl
          simp only; omega
    have b4 : (rdR (spB b 1) 4 65536).1 < 4294967296 := by
      unfold rdR; split
      · simp
      · split
        · simp
        · have := num_lt4 (spA (spB b 1) 4) (spA_le (spB b 1) 4 4 (by omega))
          simp only; omega
    split at h
    · rename_i e
      rw [if_pos e]
      obtain ⟨r1, r2⟩ := rdR_only (k := 2) h
      unfold sizeB
      have r1' : (253 : Int) ≤ (rdR (spB b 1) 2 253).1 := r1
      rw [if_neg (by omega), if_pos (by omega), List.append_assoc]
      rw [show ((2 : Nat) : Int) = 2 from rfl] at r2
      rw [r2]; conv => rhs; rw [← q2]
      congr 1
      rw [← hone, e]; rfl
    · rename_i e
      rw [if_neg e]
      split at h
      · rename_i e4
        rw [if_pos e4]
        obtain ⟨r1, r2⟩ := rdR_only (k := 4) h
        unfold sizeB
        have r1' : (65536 : Int) ≤ (rdR (spB b 1) 4 65536).1 := r1
        rw [if_neg (by omega), if_neg (by omega), if_pos (by omega), List.append_assoc]
        rw [show ((4 : Nat) : Int) = 4 from rfl] at r2
        rw [r2]; conv => rhs; rw [← q2]
        congr 1
        rw [← hone, e4]; rfl
      · rename_i e4
        rw [if_neg e4]
        split at h
        · rename_i e8
          rw [if_pos e8]
          obtain ⟨r1, r2⟩ := rdR_only (k := 8) h
          unfold sizeB
          have r1' : (4294967296 : Int) ≤ (rdR (spB b 1) 8 4294967296).1 := r1
          rw [if_neg (by omega), if_neg (by omega), if_neg (by omega), List.append_assoc]
          rw [show ((8 : Nat) : Int) = 8 from rfl] at r2
          rw [r2]; conv => rhs; rw [← q2]
          congr 1
          rw [← hone, e8]; rfl
        · rename_i e8
          rw [if_neg e8]
          unfold sizeB
          simp only
          rw [if_pos (by omega), hone, q2]

theorem bnd_only {b : List UInt8} {most : Int} (h : (bnd b most).2.2 = 0) : sizeB ((bnd b most).1 : Nat) ++ (bnd b most).2.1 = b ∧ ((bnd b most).1 : Int) ≤ most := by
  unfold bnd at h ⊢
  split at h
  · rename_i hn; exact absurd h hn
  · rename_i hn
    rw [if_neg hn]
    split at h
    · cases h
    · rename_i h2
      rw [if_neg h2]
      exact ⟨sz_only (by simpa using hn), by simp only; omega⟩

theorem lim_only {b : List UInt8} {most : Int} (h : (lim b most).2.2 = 0) : sizeB ((lim b most).1.length : Int) ++ (lim b most).1 ++ (lim b most).2.1 = b := by
  unfold lim at h ⊢
  split at h
  · rename_i hn; exact absurd h hn
  · rename_i hn
    rw [if_neg hn]
    obtain ⟨q1, q2, q3⟩ := sp_ok (b := (bnd b most).2.1) (n := (bnd b most).1) h
    have h1 := (bnd_only (b := b) (most := most) (by simpa using hn)).1
    simp only
    rw [q3, List.append_assoc, q2, h1]

theorem tkF_bad {most : Int} : ∀ (n : Nat) (acc : List (List UInt8)) (b : List UInt8), (tkF most n acc b).2.2 ≠ 0 → (tkF most n acc b).1 = [] ∧ (tkF most n acc b).2.1 = []
  | 0, acc, b, h => by simp [tkF] at h
  | n + 1, acc, b, h => by
    unfold tkF at h ⊢
    split at h
    · rename_i hn; rw [if_pos hn]; exact ⟨rfl, rfl⟩
    · rename_i hn; rw [if_neg hn]; exact tkF_bad n _ _ h

theorem tkF_only {most : Int} : ∀ (n : Nat) (acc : List (List UInt8)) (b : List UInt8), (tkF most n acc b).2.2 = 0 →
    (tkF most n acc b).1.length = acc.length + n ∧ flat (tkF most n acc b).1 ++ (tkF most n acc b).2.1 = flat acc ++ b
  | 0, acc, b, h => by simp [tkF]
  | n + 1, acc, b, h => by
    unfold tkF at h ⊢
    split at h
    · rename_i hn; exact absurd h hn
    · rename_i hn
      rw [if_neg hn]
      obtain ⟨h1, h2⟩ := tkF_only n _ _ h
      refine ⟨by rw [h1]; simp; omega, ?_⟩
      rw [h2, flat_snoc, List.append_assoc]
      have h3 := lim_only (b := b) (most := most) (by simpa using hn)
      rw [h3]

theorem lst_bad {b : List UInt8} {many most : Int} (h : (lst b many most).2.2 ≠ 0) : (lst b many most).1 = [] ∧ (lst b many most).2.1 = [] := by
  unfold lst at h ⊢
  split at h
  · rename_i hn; rw [if_pos hn]; exact ⟨rfl, rfl⟩
  · rename_i hn; rw [if_neg hn]; exact tkF_bad _ _ _ h

/-- A list that is taken, put again. -/
theorem lst_only {b : List UInt8} {many most : Int} (h : (lst b many most).2.2 = 0) :
    ((lst b many most).1.length : Int) ≤ many ∧ sizeB ((lst b many most).1.length : Int) ++ flat (lst b many most).1 ++ (lst b many most).2.1 = b := by
  unfold lst at h ⊢
  split at h
  · rename_i hn; exact absurd h hn
  · rename_i hn
    rw [if_neg hn]
    obtain ⟨h1, h2⟩ := bnd_only (b := b) (most := many) (by simpa using hn)
    obtain ⟨h3, h4⟩ := tkF_only _ _ _ h
    simp only [List.length_nil, Nat.zero_add] at h3
    rw [List.append_assoc, h4, h3]
    exact ⟨h2, by simpa [flat] using h1⟩

end Go.Fw

end

section
/- Sizes, strings, lists: there and back, cut off. Plain laws. -/
namespace Go.Fw
open Go
set_option linter.unusedVariables false
set_option linter.unusedSimpArgs false

theorem bnd_put {n most : Int} (r : List UInt8) (h0 : 0 ≤ n) (h1 : n ≤ most) (h2 : most ≤ 9223372036854775807) : bnd (sizeB n ++ r) most = (n.toNat, r, 0) := by
  have h := sz_put n r h0 (by omega)
  unfold bnd
  rw [h]
  simp only [ne_eq, not_true_eq_false, if_false]
  rw [if_neg (by omega)]

theorem lim_put {x : List UInt8} {most : Int} (r : List UInt8) (h1 : (x.length : Int) ≤ most) (h2 : most ≤ 9223372036854775807) : lim (sizeB x.length ++ x ++ r) most = (x, r, 0) := by
  have h := bnd_put (n := x.length) (most := most) (x ++ r) (by omega) h1 h2
  rw [List.append_assoc]
  unfold lim
  rw [h]
  simp only [ne_eq, not_true_eq_false, if_false, Int.toNat_natCast, spA_app, spB_app, spE_app]

theorem tkF_put {most : Int} (h2 : most ≤ 9223372036854775807) : ∀ (l acc : List (List UInt8)) (r : List UInt8), (∀ x ∈ l, (x.length : Int) ≤ most) → tkF most l.length acc (flat l ++ r) = (acc ++ l, r, 0)
  | [], acc, r, _ => by simp [tkF, flat]
  | x :: l, acc, r, h => by
    have h1 := lim_put (x := x) (most := most) (flat l ++ r) (h x (by simp)) h2
    simp only [List.length_cons, tkF_succ, flat]
    rw [List.append_assoc, h1]
    simp only [ne_eq, not_true_eq_false, if_false]
    rw [tkF_put h2 l (acc ++ [x]) r (fun y hy => h y (by simp [hy]))]
    simp

theorem lst_put {l : List (List UInt8)} {many most : Int} (r : List UInt8) (hm : (l.length : Int) ≤ many) (hm2 : many ≤ 9223372036854775807) (h2 : most ≤ 9223372036854775807) (h : ∀ x ∈ l, (x.length : Int) ≤ most) :
    lst (sizeB l.length ++ flat l ++ r) many most = (l, r, 0) := by
  have h1 := bnd_put (n := l.length) (most := many) (flat l ++ r) (by omega) hm hm2
  rw [List.append_assoc]
  unfold lst
  rw [h1]
  simp only [ne_eq, not_true_eq_false, if_false, Int.toNat_natCast]
  rw [tkF_put h2 l [] r h]; simp

/-! ### Cut off. -/

theorem sp_cut {b : List UInt8} {n : Int} (h : (b.length : Int) < n) : spE b n = 2 ∧ spA b n = [] ∧ spB b n = [] := by
  unfold spE spA spB
  rw [if_neg (by omega), if_pos h, if_neg (by omega), if_pos h, if_neg (by omega), if_pos h]
  exact ⟨rfl, rfl, rfl⟩

theorem rdR_cut {b : List UInt8} {n : Int} {least : Nat} (h : (b.length : Int) < n) : rdR b n least = (0, [], 2) := by
  unfold rdR
  rw [(sp_cut h).1, if_pos (by omega)]

theorem sz_nil : sz [] = (0, [], 2) := by
  unfold sz
  rw [(sp_cut (b := []) (n := 1) (by simp)).1, if_pos (by omega)]

theorem sz_cut {n : Int} (h0 : 0 ≤ n) {k : Nat} (hk : k < (sizeB n).length) : sz ((sizeB n).take k) = (0, [], 2) := by
  cases k with
  | zero => exact sz_nil
  | succ k =>
    have key : ∀ (x : Int) (s : List UInt8), 0 ≤ x → x ≤ 255 → spE (le 1 x ++ s) 1 = 0 ∧ spB (le 1 x ++ s) 1 = s ∧ (num (spA (le 1 x ++ s) 1) : Int) = x := by
      intro x s hx0 hx1
      have hl := le_len 1 x
      have e := spE_app (le 1 x) s
      have a := spA_app (le 1 x) s
      have c := spB_app (le 1 x) s
      rw [hl] at e a c
      exact ⟨e, c, by rw [show ((1 : Nat) : Int) = 1 from rfl] at a; rw [a]; exact num_le 1 x hx0 (by omega)⟩
    have tk : ∀ (x : Int) (s : List UInt8), (le 1 x ++ s).take (k + 1) = le 1 x ++ s.take k := fun x s => by
      have hl := le_len 1 x
      rw [List.take_append, hl, List.take_of_length_le (by omega)]; simp
    unfold sizeB at hk ⊢
    split
    · rename_i h; rw [if_pos h, le_len] at hk; omega
    · rename_i h
      rw [if_neg h] at hk
      split
      · rename_i h2
        rw [if_pos h2] at hk
        simp only [List.length_append, le_len] at hk
        obtain ⟨k1, k2, k3⟩ := key 253 ((le 2 n).take k) (by omega) (by omega)
        rw [tk]
        unfold sz
        rw [if_neg (by rw [k1]; simp), if_pos (by omega), k2]
        exact rdR_cut (by simp [le_len]; omega)
      · rename_i h2
        rw [if_neg h2] at hk
        split
        · rename_i h3
          rw [if_pos h3] at hk
          simp only [List.length_append, le_len] at hk
          obtain ⟨k1, k2, k3⟩ := key 254 ((le 4 n).take k) (by omega) (by omega)
          rw [tk]
          unfold sz
          rw [if_neg (by rw [k1]; simp), if_neg (by omega), if_pos (by omega), k2]
          exact rdR_cut (by simp [le_len]; omega)
        · rename_i h3
          rw [if_neg h3] at hk
          simp only [List.length_append, le_len] at hk
          obtain ⟨k1, k2, k3⟩ := key 255 ((le 8 n).take k) (by omega) (by omega)
          rw [tk]
          unfold sz
          rw [if_neg (by rw [k1]; simp), if_neg (by omega), if_neg (by omega), if_pos (by omega), k2]
          exact rdR_cut (by simp [le_len]; omega)

theorem bnd_cut {n most : Int} (h0 : 0 ≤ n) {k : Nat} (hk : k < (sizeB n).length) : bnd ((sizeB n).take k) most = (0, [], 2) := by
  unfold bnd
  rw [sz_cut h0 hk, if_pos (by simp)]

theorem lim_cut {x : List UInt8} {most : Int} (h1 : (x.length : Int) ≤ most) (h2 : most ≤ 9223372036854775807) {k : Nat} (hk : k < (sizeB x.length ++ x).length) : lim ((sizeB x.length ++ x).take k) most = ([], [], 2) := by
  unfold lim
  by_cases h : k < (sizeB (x.length : Int)).length
  · rw [List.take_append_of_le_length (by omega), bnd_cut (by omega) h, if_pos (by simp)]
  · have e : (sizeB (x.length : Int) ++ x).take k = sizeB (x.length : Int) ++ x.take (k - (sizeB (x.length : Int)).length) := by
      rw [List.take_append, List.take_of_length_le (by omega)]
    rw [e, bnd_put _ (by omega) h1 h2]
    simp only [List.length_append] at hk
    have hc := sp_cut (b := x.take (k - (sizeB (x.length : Int)).length)) (n := ((x.length : Int).toNat : Int)) (by simp; omega)
    simp only [ne_eq, not_true_eq_false, if_false]
    rw [hc.1, hc.2.1, hc.2.2]

theorem tkF_cut {most : Int} (h2 : most ≤ 9223372036854775807) : ∀ (l acc : List (List UInt8)) (k : Nat), (∀ x ∈ l, (x.length : Int) ≤ most) → k < (flat l).length → tkF most l.length acc ((flat l).take k) = ([], [], 2)
  | [], acc, k, _, hk => by simp [flat] at hk
  | x :: l, acc, k, h, hk => by
    simp only [List.length_cons, tkF_succ, flat]
    by_cases h1 : k < (sizeB (x.length : Int) ++ x).length
    · rw [List.take_append_of_le_length (by omega), lim_cut (h x (by simp)) h2 h1, if_pos (by simp)]
    · have e : (sizeB (x.length : Int) ++ x ++ flat l).take k = sizeB (x.length : Int) ++ x ++ (flat l).take (k - (sizeB (x.length : Int) ++ x).length) := by
        rw [List.take_append, List.take_of_length_le (by omega)]
      rw [e, lim_put _ (h x (by simp)) h2]
      simp only [ne_eq, not_true_eq_false, if_false]
      simp only [flat, List.length_append] at hk h1 ⊢
      exact tkF_cut h2 l _ _ (fun y hy => h y (by simp [hy])) (by omega)

theorem lst_cut {l : List (List UInt8)} {many most : Int} (hm : (l.length : Int) ≤ many) (hm2 : many ≤ 9223372036854775807) (h2 : most ≤ 9223372036854775807) (h : ∀ x ∈ l, (x.length : Int) ≤ most) {k : Nat} (hk : k < (sizeB l.length ++ flat l).length) :
    lst ((sizeB l.length ++ flat l).take k) many most = ([], [], 2) := by
  unfold lst
  by_cases h1 : k < (sizeB (l.length : Int)).length
  · rw [List.take_append_of_le_length (by omega), bnd_cut (by omega) h1, if_pos (by simp)]
  · have e : (sizeB (l.length : Int) ++ flat l).take k = sizeB (l.length : Int) ++ (flat l).take (k - (sizeB (l.length : Int)).length) := by
      rw [List.take_append, List.take_of_length_le (by omega)]
    rw [e, bnd_put _ (by omega) hm hm2]
    simp only [List.length_append] at hk
    simp only [ne_eq, not_true_eq_false, if_false, Int.toNat_natCast]
    exact tkF_cut h2 l [] _ h (by omega)

end Go.Fw

end

section
/- Transactions: their trees, their bytes. Plain laws. -/
namespace Go.Fw
open Go
set_option linter.unusedVariables false
set_option linter.unusedSimpArgs false

abbrev H32 := { l : List UInt8 // l.length = 32 }
def zH : H32 := ⟨List.replicate 32 0, by simp⟩
structure TIn where
  (prev : H32) (idx seq : UInt32) (wit : List (List UInt8))
  deriving DecidableEq
structure TOut where
  (val : UInt64) (scr : List UInt8)
  deriving DecidableEq
structure TTx where
  (ver : UInt32) (ins : List TIn) (outs : List TOut) (lock : UInt32)
  deriving DecidableEq
def refT (h : H32) (i : UInt32) : T := .st [.ba 32 h.1, .int .u32 (i.toNat : Int)]
def inT (x : TIn) : T := .st [refT x.prev x.idx, .int .u32 (x.seq.toNat : Int), .sq 1 (x.wit.map .by)]
def outT (x : TOut) : T := .st [.int .u64 (x.val.toNat : Int), .by x.scr]
def txT (x : TTx) : T := .st [.int .u32 (x.ver.toNat : Int), .sq 35 (x.ins.map inT), .sq 2 (x.outs.map outT), .int .u32 (x.lock.toNat : Int)]
def dIn : TIn := ⟨zH, 0, 0, []⟩
def dOut : TOut := ⟨0, []⟩
def dTx : TTx := ⟨0, [], [], 0⟩

/-! ### Trees are of one thing only. -/
theorem map_inj {α β : Type} {f : α → β} (hf : ∀ a b, f a = f b → a = b) : ∀ l k : List α, l.map f = k.map f → l = k
  | [], [], _ => rfl
  | [], _ :: _, h => by simp at h
  | _ :: _, [], h => by simp at h
  | a :: l, b :: k, h => by
    simp only [List.map_cons, List.cons.injEq] at h
    rw [hf a b h.1, map_inj hf l k h.2]
theorem by_inj (a b : List UInt8) (h : T.by a = T.by b) : a = b := by cases h; rfl
theorem n32_inj {a b : UInt32} (h : (a.toNat : Int) = (b.toNat : Int)) : a = b := UInt32.toNat_inj.1 (by exact_mod_cast h)
theorem n64_inj {a b : UInt64} (h : (a.toNat : Int) = (b.toNat : Int)) : a = b := UInt64.toNat_inj.1 (by exact_mod_cast h)
theorem refT_inj {a b : H32} {i j : UInt32} (h : refT a i = refT b j) : a = b ∧ i = j := by
  unfold refT at h
  simp only [T.st.injEq, List.cons.injEq, T.ba.injEq, T.int.injEq, true_and, and_true] at h
  exact ⟨Subtype.ext h.1, n32_inj h.2⟩
theorem inT_inj (a b : TIn) (h : inT a = inT b) : a = b := by
  obtain ⟨a1, a2, a3, a4⟩ := a
  obtain ⟨b1, b2, b3, b4⟩ := b
  unfold inT at h
  simp only [T.st.injEq, List.cons.injEq, T.sq.injEq, T.int.injEq, true_and, and_true] at h
  obtain ⟨h1, h2, h3⟩ := h
  obtain ⟨rfl, rfl⟩ := refT_inj h1
  rw [n32_inj h2, map_inj by_inj _ _ h3]
theorem outT_inj (a b : TOut) (h : outT a = outT b) : a = b := by
  obtain ⟨a1, a2⟩ := a
  obtain ⟨b1, b2⟩ := b
  unfold outT at h
  simp only [T.st.injEq, List.cons.injEq, T.by.injEq, T.int.injEq, true_and, and_true] at h
  rw [n64_inj h.1, h.2]
theorem txT_inj (a b : TTx) (h : txT a = txT b) : a = b := by
  obtain ⟨a1, a2, a3, a4⟩ := a
  obtain ⟨b1, b2, b3, b4⟩ := b
  unfold txT at h
  simp only [T.st.injEq, List.cons.injEq, T.sq.injEq, T.int.injEq, true_and, and_true] at h
  obtain ⟨h1, h2, h3, h4⟩ := h
  rw [n32_inj h1, n32_inj h4, map_inj inT_inj _ _ h2, map_inj outT_inj _ _ h3]

theorem in_getD (l : List TIn) (k : Nat) (h : k < l.length) : (l.map inT).getD k default = inT (l.getD k dIn) := by simp [h]
theorem out_getD (l : List TOut) (k : Nat) (h : k < l.length) : (l.map outT).getD k default = outT (l.getD k dOut) := by simp [h]

/-! ### Bytes. -/
/-- What comes of each, one behind the other. -/
def cat {α : Type} (f : α → List UInt8) (l : List α) : List UInt8 := (l.map f).flatten
theorem cat_snoc {α : Type} (f : α → List UInt8) (l : List α) (x : α) : cat f (l ++ [x]) = cat f l ++ f x := by simp [cat]
theorem cat_nil {α : Type} (f : α → List UInt8) : cat f [] = [] := rfl
theorem cat_cons {α : Type} (f : α → List UInt8) (x : α) (l : List α) : cat f (x :: l) = f x ++ cat f l := by simp [cat]
theorem take_getDx {α : Type} (d : α) (l : List α) (k : Nat) (h : k < l.length) : l.take (k + 1) = l.take k ++ [l.getD k d] := by
  rw [List.take_succ_eq_append_getElem h]; simp [h]
theorem cat_take {α : Type} (f : α → List UInt8) (d : α) (l : List α) (k : Nat) (h : k < l.length) : cat f (l.take (k + 1)) = cat f (l.take k) ++ f (l.getD k d) := by
  rw [take_getDx d l k h, cat_snoc]
theorem cat_len {α : Type} (f : α → List UInt8) (m : Nat) : ∀ l : List α, (∀ x ∈ l, (f x).length ≤ m) → (cat f l).length ≤ l.length * m
  | [], _ => by simp [cat]
  | x :: l, h => by
    rw [cat_cons, List.length_append, List.length_cons, Nat.succ_mul]
    have h1 := h x (by simp)
    have h2 := cat_len f m l (fun y hy => h y (by simp [hy]))
    omega
theorem cat_take_le {α : Type} (f : α → List UInt8) (l : List α) (k : Nat) : (cat f (l.take k)).length ≤ (cat f l).length := by
  conv => rhs; rw [← List.take_append_drop k l]
  rw [cat, cat, List.map_append, List.flatten_append, List.length_append]; omega

def tInB (x : TIn) : List UInt8 := x.prev.1 ++ le 4 (x.idx.toNat : Int) ++ le 4 (x.seq.toNat : Int)
def tOutB (x : TOut) : List UInt8 := le 8 (x.val.toNat : Int) ++ (sizeB x.scr.length ++ x.scr)
def witB (x : TIn) : List UInt8 := sizeB x.wit.length ++ flat x.wit
def bareB (t : TTx) : List UInt8 := le 4 (t.ver.toNat : Int) ++ sizeB t.ins.length ++ cat tInB t.ins ++ sizeB t.outs.length ++ cat tOutB t.outs ++ le 4 (t.lock.toNat : Int)
def wholeB (t : TTx) : List UInt8 := bareB t ++ cat witB t.ins

def scrOk (x : TOut) : Bool := decide (x.scr.length ≤ 1000)
def witOk (x : TIn) : Bool := decide (x.wit.length ≤ 30) && x.wit.all fun y => decide (y.length ≤ 1000)
/-- Does it fit, but for the bytes in all? -/
def countsB (t : TTx) : Bool := decide (t.ins.length ≤ 20) && decide (t.outs.length ≤ 20) && t.outs.all scrOk && t.ins.all witOk
def fitsB (t : TTx) : Bool := countsB t && decide ((wholeB t).length ≤ 12000)
def chkE (t : TTx) : Int := if fitsB t = true then 0 else 4

theorem tInB_len (x : TIn) : (tInB x).length = 40 := by simp [tInB, le_len, x.prev.2]
theorem flat_le (m : Nat) : ∀ l : List (List UInt8), (∀ y ∈ l, y.length ≤ m) → (flat l).length ≤ l.length * (9 + m)
  | [], _ => by simp [flat]
  | x :: l, h => by
    have h1 := h x (by simp)
    have h2 := flat_le m l (fun y hy => h y (by simp [hy]))
    have h3 := sizeB_len (x.length : Int)
    simp only [flat, List.length_append, List.length_cons, Nat.succ_mul]
    omega
theorem countsB_ok {t : TTx} (h : countsB t = true) : t.ins.length ≤ 20 ∧ t.outs.length ≤ 20 ∧ (∀ x ∈ t.outs, x.scr.length ≤ 1000) ∧ ∀ x ∈ t.ins, x.wit.length ≤ 30 ∧ ∀ y ∈ x.wit, y.length ≤ 1000 := by
  simpa [countsB, scrOk, witOk, and_assoc] using h
theorem cat_in_len (l : List TIn) : (cat tInB l).length = l.length * 40 := by
  induction l with
  | nil => rfl
  | cons x l ih => rw [cat_cons, List.length_append, ih, tInB_len, List.length_cons]; omega
/-- A bound of the parts' bytes: what is asked of numbers. -/
theorem bare_len {t : TTx} {n m k : Nat} (h1 : t.ins.length ≤ n) (h2 : t.outs.length ≤ m) (h3 : ∀ x ∈ t.outs, x.scr.length ≤ k) : (bareB t).length ≤ 26 + n * 40 + m * (17 + k) := by
  have a1 := sizeB_len (t.ins.length : Int)
  have a2 := sizeB_len (t.outs.length : Int)
  have a3 := cat_in_len t.ins
  have a4 := cat_len tOutB (17 + k) t.outs (fun x hx => by
    have b1 := h3 x hx
    have b2 := sizeB_len (x.scr.length : Int)
    simp only [tOutB, List.length_append, le_len]; omega)
  have a5 : t.ins.length * 40 ≤ n * 40 := Nat.mul_le_mul_right _ h1
  have a6 : t.outs.length * (17 + k) ≤ m * (17 + k) := Nat.mul_le_mul_right _ h2
  simp only [bareB, List.length_append, le_len]
  omega
theorem whole_len {t : TTx} {n m k w : Nat} (h1 : t.ins.length ≤ n) (h2 : t.outs.length ≤ m) (h3 : ∀ x ∈ t.outs, x.scr.length ≤ k) (h4 : ∀ x ∈ t.ins, x.wit.length ≤ w ∧ ∀ y ∈ x.wit, y.length ≤ k) :
    (wholeB t).length ≤ 26 + n * 40 + m * (17 + k) + n * (9 + w * (9 + k)) := by
  have a1 := bare_len h1 h2 h3
  have a4 := cat_len witB (9 + w * (9 + k)) t.ins (fun x hx => by
    obtain ⟨b1, b2⟩ := h4 x hx
    have b3 := flat_le k x.wit b2
    have b4 := sizeB_len (x.wit.length : Int)
    have b5 : x.wit.length * (9 + k) ≤ w * (9 + k) := Nat.mul_le_mul_right _ b1
    simp only [witB, List.length_append]; omega)
  have a5 : t.ins.length * (9 + w * (9 + k)) ≤ n * (9 + w * (9 + k)) := Nat.mul_le_mul_right _ h1
  simp only [wholeB, List.length_append]
  omega
theorem counts_len {t : TTx} (h : countsB t = true) : (bareB t).length ≤ 100000 ∧ (wholeB t).length ≤ 1000000 := by
  obtain ⟨h1, h2, h3, h4⟩ := countsB_ok h
  have := bare_len h1 h2 h3
  have := whole_len h1 h2 h3 h4
  omega

/-- Such as may be asked about. -/
def smallT (t : TTx) : Bool := decide (t.ins.length ≤ 6) && decide (t.outs.length ≤ 6) && (t.outs.all fun x => decide (x.scr.length ≤ 600)) && t.ins.all fun x => decide (x.wit.length ≤ 6) && x.wit.all fun y => decide (y.length ≤ 600)
theorem smallT_ok {t : TTx} (h : smallT t = true) : t.ins.length ≤ 6 ∧ t.outs.length ≤ 6 ∧ (∀ x ∈ t.outs, x.scr.length ≤ 600) ∧ ∀ x ∈ t.ins, x.wit.length ≤ 6 ∧ ∀ y ∈ x.wit, y.length ≤ 600 := by
  simpa [smallT, and_assoc] using h

end Go.Fw

end

section
/- What is read off bytes, one behind the other: readers that note their first error; there and back. Plain laws. -/
namespace Go.Fw
open Go
set_option linter.unusedVariables false
set_option linter.unusedSimpArgs false

/-- What a reading tells. -/
inductive Res (α : Type) where
  | ok (x : α) (r : List UInt8)
  | err (e : Int)
abbrev Rdg (α : Type) := List UInt8 → Res α

section
variable {α β γ : Type}

def pbind (p : Rdg α) (q : α → Rdg β) : Rdg β := fun b => match p b with
  | .ok x r => q x r
  | .err e => .err e
def ppure (x : α) : Rdg α := fun b => .ok x b
/-- So many, one behind the other. -/
def pN (p : Rdg α) : Nat → Rdg (List α)
  | 0 => ppure []
  | n + 1 => pbind p fun x => pbind (pN p n) fun l => ppure (x :: l)
/-- A taking, as a reading. -/
def ofT (t : List UInt8 → α × List UInt8 × Int) : Rdg α := fun b => if (t b).2.2 = 0 then .ok (t b).1 (t b).2.1 else .err (t b).2.2

theorem pbind_ok {p : Rdg α} {q : α → Rdg β} {b : List UInt8} {x : α} {r : List UInt8} (h : p b = .ok x r) : pbind p q b = q x r := by unfold pbind; rw [h]
theorem pbind_err {p : Rdg α} {q : α → Rdg β} {b : List UInt8} {e : Int} (h : p b = .err e) : pbind p q b = .err e := by unfold pbind; rw [h]
theorem ofT_ok {t : List UInt8 → α × List UInt8 × Int} {b : List UInt8} {x : α} {r : List UInt8} : ofT t b = .ok x r ↔ t b = (x, r, 0) := by
  unfold ofT
  constructor
  · intro h
    split at h
    · rename_i he
      cases h
      exact Prod.ext rfl (Prod.ext rfl he)
    · cases h
  · intro h; rw [if_pos (by rw [h]), h]
theorem ofT_err {t : List UInt8 → α × List UInt8 × Int} {b : List UInt8} {e : Int} : ofT t b = .err e ↔ (t b).2.2 = e ∧ e ≠ 0 := by
  unfold ofT
  constructor
  · intro h
    split at h
    · cases h
    · rename_i he; cases h; exact ⟨rfl, he⟩
  · rintro ⟨rfl, h⟩; rw [if_neg h]

/-! ### A reader that notes its first error. -/

structure RSt where
  (b : List UInt8) (e : Int)
structure Good (f : RSt → α × RSt) (p : Rdg α) : Prop where
  ok : ∀ b x r, p b = .ok x r → f ⟨b, 0⟩ = (x, ⟨r, 0⟩)
  err : ∀ b e, p b = .err e → e ≠ 0 ∧ (f ⟨b, 0⟩).2.e = e
  stick : ∀ s, s.e ≠ 0 → (f s).2.e = s.e

theorem Good.bind {f : RSt → α × RSt} {p : Rdg α} {g : α → RSt → β × RSt} {q : α → Rdg β} (hf : Good f p) (hg : ∀ x, Good (g x) (q x)) : Good (fun s => g (f s).1 (f s).2) (pbind p q) where
  ok b y r h := by
    unfold pbind at h
    split at h
    · rename_i x r' hp
      rw [hf.ok b x r' hp]
      exact (hg x).ok r' y r h
    · cases h
  err b e h := by
    unfold pbind at h
    split at h
    · rename_i x r' hp
      rw [hf.ok b x r' hp]
      exact (hg x).err r' e h
    · rename_i e' hp
      cases h
      obtain ⟨h1, h2⟩ := hf.err b e hp
      exact ⟨h1, by rw [(hg _).stick _ (by rw [h2]; exact h1), h2]⟩
  stick s h := by
    have h1 := hf.stick s h
    rw [(hg _).stick _ (by rw [h1]; exact h), h1]
theorem Good.pure (x : α) : Good (fun s => (x, s)) (ppure x) where
  ok b y r h := by cases h; rfl
  err b e h := by cases h
  stick s h := rfl
theorem Good.congr {f g : RSt → α × RSt} {p : Rdg α} (h : Good f p) (e : ∀ s, g s = f s) : Good g p := by
  obtain rfl : g = f := funext e
  exact h

def rdN (f : RSt → α × RSt) : Nat → RSt → List α × RSt
  | 0, s => ([], s)
  | n + 1, s => ((f s).1 :: (rdN f n (f s).2).1, (rdN f n (f s).2).2)
theorem rdN_snoc (f : RSt → α × RSt) : ∀ (n : Nat) (s : RSt), rdN f (n + 1) s = ((rdN f n s).1 ++ [(f (rdN f n s).2).1], (f (rdN f n s).2).2)
  | 0, s => rfl
  | n + 1, s => by
    have := rdN_snoc f n (f s).2
    rw [rdN, this]
    rfl
theorem rdN_len (f : RSt → α × RSt) : ∀ (n : Nat) (s : RSt), (rdN f n s).1.length = n
  | 0, s => rfl
  | n + 1, s => by simp [rdN, rdN_len f n]
theorem Good.rep {f : RSt → α × RSt} {p : Rdg α} (hf : Good f p) : ∀ n, Good (rdN f n) (pN p n)
  | 0 => Good.pure []
  | n + 1 => by
    exact Good.congr (hf.bind (g := fun x s => (x :: (rdN f n s).1, (rdN f n s).2)) fun x => ((hf.rep n).bind (g := fun l s => (x :: l, s)) fun l => Good.pure (x :: l))) fun s => rfl

/-- The program's: at an error nothing is taken. -/
def rd (t : List UInt8 → α × List UInt8 × Int) (d : α) (s : RSt) : α × RSt :=
  if s.e ≠ 0 then (d, s) else if (t s.b).2.2 ≠ 0 then (d, ⟨s.b, (t s.b).2.2⟩) else ((t s.b).1, ⟨(t s.b).2.1, 0⟩)
/-- The document's: what is left is as the taking tells. -/
def rdD (t : List UInt8 → α × List UInt8 × Int) (d : α) (s : RSt) : α × RSt :=
  if s.e ≠ 0 then (d, s) else ((t s.b).1, ⟨(t s.b).2.1, (t s.b).2.2⟩)
theorem Good.rd (t : List UInt8 → α × List UInt8 × Int) (d : α) : Good (rd t d) (ofT t) where
  ok b x r h := by
    rw [ofT_ok] at h
    unfold Fw.rd
    dsimp only
    rw [if_neg (by simp), if_neg (by rw [h]; simp), h]
  err b e h := by
    rw [ofT_err] at h
    obtain ⟨h1, h2⟩ := h
    unfold Fw.rd
    dsimp only
    rw [if_neg (by simp), if_pos (by rw [h1]; exact h2)]
    exact ⟨h2, h1⟩
  stick s h := by unfold Fw.rd; rw [if_pos h]
theorem Good.rdD (t : List UInt8 → α × List UInt8 × Int) (d : α) : Good (rdD t d) (ofT t) where
  ok b x r h := by
    rw [ofT_ok] at h
    unfold Fw.rdD
    dsimp only
    rw [if_neg (by simp), h]
  err b e h := by
    rw [ofT_err] at h
    obtain ⟨h1, h2⟩ := h
    unfold Fw.rdD
    dsimp only
    rw [if_neg (by simp)]
    exact ⟨h2, h1⟩
  stick s h := by unfold Fw.rdD; rw [if_pos h]

/-! ### There and back. -/

structure Cod (p : Rdg α) (w : α → List UInt8) (ok : α → Prop) : Prop where
  put : ∀ x r, ok x → p (w x ++ r) = .ok x r
  only : ∀ b x r, p b = .ok x r → ok x ∧ w x ++ r = b
  cut : ∀ x k, ok x → k < (w x).length → p ((w x).take k) = .err 2

theorem Cod.pair {p : Rdg α} {w : α → List UInt8} {ok : α → Prop} {q : α → Rdg β} {v : α → β → List UInt8} {ok' : α → β → Prop} (hp : Cod p w ok) (hq : ∀ x, ok x → Cod (q x) (v x) (ok' x)) :
    Cod (pbind p fun x => pbind (q x) fun y => ppure (x, y)) (fun z => w z.1 ++ v z.1 z.2) (fun z => ok z.1 ∧ ok' z.1 z.2) where
  put z r h := by
    obtain ⟨h1, h2⟩ := h
    rw [List.append_assoc, pbind_ok (hp.put z.1 _ h1), pbind_ok ((hq z.1 h1).put z.2 r h2)]
    rfl
  only b z r h := by
    unfold pbind at h
    split at h
    · rename_i x r1 h1
      dsimp only at h
      split at h
      · rename_i y r2 h2
        cases h
        obtain ⟨k1, k2⟩ := hp.only _ _ _ h1
        obtain ⟨k3, k4⟩ := (hq x k1).only _ _ _ h2
        exact ⟨⟨k1, k3⟩, by dsimp only; rw [List.append_assoc, k4, k2]⟩
      · cases h
    · cases h
  cut z k h hk := by
    obtain ⟨h1, h2⟩ := h
    by_cases hw : k < (w z.1).length
    · rw [List.take_append_of_le_length (by omega), pbind_err (hp.cut z.1 k h1 hw)]
    · rw [List.take_append, List.take_of_length_le (by omega), pbind_ok (hp.put z.1 _ h1)]
      rw [List.length_append] at hk
      rw [pbind_err ((hq z.1 h1).cut z.2 _ h2 (by omega))]

theorem Cod.map {p : Rdg α} {w : α → List UInt8} {ok : α → Prop} (hp : Cod p w ok) (f : α → β) (g : β → α) (ok' : β → Prop) (h1 : ∀ x, ok x → g (f x) = x ∧ ok' (f x)) (h2 : ∀ y, ok' y → ok (g y) ∧ f (g y) = y) :
    Cod (pbind p fun x => ppure (f x)) (fun y => w (g y)) ok' where
  put y r h := by
    rw [pbind_ok (hp.put (g y) r (h2 y h).1), ppure, (h2 y h).2]
  only b y r h := by
    unfold pbind at h
    split at h
    · rename_i x r1 hx
      cases h
      obtain ⟨k1, k2⟩ := hp.only _ _ _ hx
      exact ⟨(h1 x k1).2, by rw [(h1 x k1).1, k2]⟩
    · cases h
  cut y k h hk := by rw [pbind_err (hp.cut (g y) k (h2 y h).1 hk)]

theorem Cod.rep {p : Rdg α} {w : α → List UInt8} {ok : α → Prop} (hp : Cod p w ok) : ∀ n, Cod (pN p n) (cat w) (fun l => l.length = n ∧ ∀ x ∈ l, ok x)
  | 0 => ⟨fun l r h => by obtain rfl := List.length_eq_zero_iff.1 h.1; rfl, fun b l r h => by cases h; simp [cat], fun l k h hk => by obtain rfl := List.length_eq_zero_iff.1 h.1; simp [cat] at hk⟩
  | n + 1 => by
    have ih := hp.rep n
    refine ⟨fun l r h => ?_, fun b l r h => ?_, fun l k h hk => ?_⟩
    · match l, h with
      | x :: l, ⟨h1, h2⟩ =>
        rw [cat_cons, List.append_assoc, pN, pbind_ok (hp.put x _ (h2 x (by simp))), pbind_ok (ih.put l r ⟨by simpa using h1, fun y hy => h2 y (by simp [hy])⟩)]
        rfl
    · unfold pN pbind at h
      split at h
      · rename_i x r1 h1
        dsimp only at h
        split at h
        · rename_i y r2 h2
          cases h
          obtain ⟨k1, k2⟩ := hp.only _ _ _ h1
          obtain ⟨⟨k3, k4⟩, k5⟩ := ih.only _ _ _ h2
          exact ⟨⟨by simp [k3], by simpa using ⟨k1, k4⟩⟩, by rw [cat_cons, List.append_assoc, k5, k2]⟩
        · cases h
      · cases h
    · match l, h with
      | x :: l, ⟨h1, h2⟩ =>
        rw [cat_cons] at hk ⊢
        rw [pN]
        by_cases hw : k < (w x).length
        · rw [List.take_append_of_le_length (by omega), pbind_err (hp.cut x k (h2 x (by simp)) hw)]
        · rw [List.take_append, List.take_of_length_le (by omega), pbind_ok (hp.put x _ (h2 x (by simp)))]
          rw [List.length_append] at hk
          rw [pbind_err (ih.cut l _ ⟨by simpa using h1, fun y hy => h2 y (by simp [hy])⟩ (by omega))]

/-- A taking's own laws. -/
theorem Cod.ofT {t : List UInt8 → α × List UInt8 × Int} {w : α → List UInt8} {ok : α → Prop} (h1 : ∀ x r, ok x → t (w x ++ r) = (x, r, 0)) (h2 : ∀ b, (t b).2.2 = 0 → ok (t b).1 ∧ w (t b).1 ++ (t b).2.1 = b)
    (h3 : ∀ x k, ok x → k < (w x).length → (t ((w x).take k)).2.2 = 2) : Cod (ofT t) w ok where
  put x r h := ofT_ok.2 (h1 x r h)
  only b x r h := by
    rw [ofT_ok] at h
    have := h2 b (by rw [h])
    rwa [h] at this
  cut x k h hk := ofT_err.2 ⟨h3 x k h hk, by decide⟩

theorem Cod.congr {p q : Rdg α} {w v : α → List UInt8} {ok ok' : α → Prop} (h : Cod p w ok) (e1 : ∀ b, q b = p b) (e2 : ∀ x, v x = w x) (e3 : ∀ x, ok' x ↔ ok x) : Cod q v ok' := by
  obtain rfl : q = p := funext e1
  obtain rfl : v = w := funext e2
  obtain rfl : ok' = ok := funext fun x => propext (e3 x)
  exact h
end

end Go.Fw

end

section
/- Transactions, read off bytes: readings, there and back; the reader that notes its first error. Plain laws. -/
namespace Go.Fw
open Go
set_option linter.unusedVariables false
set_option linter.unusedSimpArgs false

def t32 (b : List UInt8) : UInt32 × List UInt8 × Int := (UInt32.ofNat (num (spA b 4)), spB b 4, spE b 4)
def t64 (b : List UInt8) : UInt64 × List UInt8 × Int := (UInt64.ofNat (num (spA b 8)), spB b 8, spE b 8)
def hOf (l : List UInt8) : H32 := if h : l.length = 32 then ⟨l, h⟩ else zH
def tH (b : List UInt8) : H32 × List UInt8 × Int := (hOf (spA b 32), spB b 32, spE b 32)
def tScr (b : List UInt8) : List UInt8 × List UInt8 × Int := lim b 1000
def tWit (b : List UInt8) : List (List UInt8) × List UInt8 × Int := lst b 30 1000
def tCnt (m : Nat) (b : List UInt8) : Nat × List UInt8 × Int := bnd b m
/-- The document's: what is left stays behind a count that is too large. -/
def tCntD (m : Nat) (b : List UInt8) : Nat × List UInt8 × Int := if (sz b).2.2 = 0 ∧ m < (sz b).1 then (0, (sz b).2.1, 4) else if (sz b).2.2 ≠ 0 then (0, (sz b).2.1, (sz b).2.2) else ((sz b).1, (sz b).2.1, 0)

theorem u32_num (l : List UInt8) (h : l.length ≤ 4) : ((UInt32.ofNat (num l)).toNat : Int) = (num l : Int) := by
  have := num_lt4 l h
  rw [UInt32.toNat_ofNat']; omega
theorem u64_num (l : List UInt8) (h : l.length ≤ 8) : ((UInt64.ofNat (num l)).toNat : Int) = (num l : Int) := by
  have := num_lt8 l h
  rw [UInt64.toNat_ofNat']; omega

theorem codN32 : Cod (ofT t32) (fun x => le 4 (x.toNat : Int)) (fun _ => True) := by
  refine Cod.ofT (fun x r _ => ?_) (fun b h => ⟨trivial, ?_⟩) (fun x k _ hk => ?_)
  · have hl := le_len 4 (x.toNat : Int)
    have a := spA_app (le 4 (x.toNat : Int)) r
    have b := spB_app (le 4 (x.toNat : Int)) r
    have c := spE_app (le 4 (x.toNat : Int)) r
    rw [hl] at a b c
    have hx := x.toNat_lt
    have hn := num_le 4 (x.toNat : Int) (by omega) (by simp; omega)
    have hn' : num (le 4 (x.toNat : Int)) = x.toNat := by omega
    show (UInt32.ofNat (num (spA (le 4 (x.toNat : Int) ++ r) ((4 : Nat) : Int))), spB (le 4 (x.toNat : Int) ++ r) ((4 : Nat) : Int), spE (le 4 (x.toNat : Int) ++ r) ((4 : Nat) : Int)) = (x, r, 0)
    rw [a, b, c, hn']
    exact Prod.ext (UInt32.ofNat_toNat ..) rfl
  · obtain ⟨h1, h2, h3⟩ := sp_ok (b := b) (n := 4) h
    show le 4 ((UInt32.ofNat (num (spA b 4))).toNat : Int) ++ spB b 4 = b
    rw [u32_num _ (by omega)]
    have := le_num (spA b 4)
    rw [show (spA b 4).length = 4 by omega] at this
    rw [this, h2]
  · rw [le_len] at hk
    have : ∀ n : Int, (((le 4 (x.toNat : Int)).take k).length : Int) < n → spE ((le 4 (x.toNat : Int)).take k) n = 2 := fun n h => (sp_cut h).1
    exact this 4 (by simp [le_len]; omega)
theorem codN64 : Cod (ofT t64) (fun x => le 8 (x.toNat : Int)) (fun _ => True) := by
  refine Cod.ofT (fun x r _ => ?_) (fun b h => ⟨trivial, ?_⟩) (fun x k _ hk => ?_)
  · have hl := le_len 8 (x.toNat : Int)
    have a := spA_app (le 8 (x.toNat : Int)) r
    have b := spB_app (le 8 (x.toNat : Int)) r
    have c := spE_app (le 8 (x.toNat : Int)) r
    rw [hl] at a b c
    have hx := x.toNat_lt
    have hn := num_le 8 (x.toNat : Int) (by omega) (by simp; omega)
    have hn' : num (le 8 (x.toNat : Int)) = x.toNat := by omega
    show (UInt64.ofNat (num (spA (le 8 (x.toNat : Int) ++ r) ((8 : Nat) : Int))), spB (le 8 (x.toNat : Int) ++ r) ((8 : Nat) : Int), spE (le 8 (x.toNat : Int) ++ r) ((8 : Nat) : Int)) = (x, r, 0)
    rw [a, b, c, hn']
    exact Prod.ext (UInt64.ofNat_toNat ..) rfl
  · obtain ⟨h1, h2, h3⟩ := sp_ok (b := b) (n := 8) h
    show le 8 ((UInt64.ofNat (num (spA b 8))).toNat : Int) ++ spB b 8 = b
    rw [u64_num _ (by omega)]
    have := le_num (spA b 8)
    rw [show (spA b 8).length = 8 by omega] at this
    rw [this, h2]
  · rw [le_len] at hk
    have : ∀ n : Int, (((le 8 (x.toNat : Int)).take k).length : Int) < n → spE ((le 8 (x.toNat : Int)).take k) n = 2 := fun n h => (sp_cut h).1
    exact this 8 (by simp [le_len]; omega)
theorem cH : Cod (ofT tH) (fun x => x.1) (fun _ => True) := by
  refine Cod.ofT (fun x r _ => ?_) (fun b h => ⟨trivial, ?_⟩) (fun x k _ hk => ?_)
  · have hl := x.2
    have a := spA_app x.1 r
    have b := spB_app x.1 r
    have c := spE_app x.1 r
    rw [hl] at a b c
    show (hOf (spA (x.1 ++ r) ((32 : Nat) : Int)), spB (x.1 ++ r) ((32 : Nat) : Int), spE (x.1 ++ r) ((32 : Nat) : Int)) = (x, r, 0)
    rw [a, b, c]
    exact Prod.ext (by unfold hOf; rw [dif_pos hl]) rfl
  · obtain ⟨h1, h2, h3⟩ := sp_ok (b := b) (n := 32) h
    show (hOf (spA b 32)).1 ++ spB b 32 = b
    unfold hOf
    rw [dif_pos (by omega), h2]
  · rw [x.2] at hk
    have : ∀ n : Int, ((x.1.take k).length : Int) < n → spE (x.1.take k) n = 2 := fun n h => (sp_cut h).1
    exact this 32 (by simp [x.2]; omega)

theorem lim_most {b : List UInt8} {most : Int} (h : (lim b most).2.2 = 0) : ((lim b most).1.length : Int) ≤ most := by
  unfold lim at h ⊢
  split at h
  · rename_i hn; exact absurd h hn
  · rename_i hn
    rw [if_neg hn]
    obtain ⟨q1, q2, q3⟩ := sp_ok (b := (bnd b most).2.1) (n := (bnd b most).1) h
    have := (bnd_only (b := b) (most := most) (by simpa using hn)).2
    simp only; omega
theorem tkF_most {most : Int} : ∀ (n : Nat) (acc : List (List UInt8)) (b : List UInt8), (tkF most n acc b).2.2 = 0 → (∀ x ∈ acc, (x.length : Int) ≤ most) → ∀ x ∈ (tkF most n acc b).1, (x.length : Int) ≤ most
  | 0, acc, b, h, ha => ha
  | n + 1, acc, b, h, ha => by
    rw [tkF_succ] at h ⊢
    split at h
    · rename_i hn; exact absurd h hn
    · rename_i hn
      rw [if_neg hn]
      refine tkF_most n _ _ h fun x hx => ?_
      rcases List.mem_append.1 hx with hx | hx
      · exact ha x hx
      · rw [List.mem_singleton.1 hx]; exact lim_most (by simpa using hn)
theorem lst_most {b : List UInt8} {many most : Int} (h : (lst b many most).2.2 = 0) : ∀ x ∈ (lst b many most).1, (x.length : Int) ≤ most := by
  unfold lst at h ⊢
  split at h
  · rename_i hn; exact absurd h hn
  · rename_i hn
    rw [if_neg hn]
    exact tkF_most _ _ _ h (by simp)

theorem cLim (most : Nat) (hm : (most : Int) ≤ 9223372036854775807) : Cod (ofT fun b => lim b most) (fun x => sizeB x.length ++ x) (fun x => x.length ≤ most) := by
  refine Cod.ofT (fun x r h => lim_put r (by omega) hm) (fun b h => ⟨?_, lim_only h⟩) (fun x k h hk => ?_)
  · have := lim_most h; omega
  · rw [lim_cut (by omega) hm hk]
theorem cLst (many most : Nat) (hm : (many : Int) ≤ 9223372036854775807) (hm2 : (most : Int) ≤ 9223372036854775807) : Cod (ofT fun b => lst b many most) (fun x => sizeB x.length ++ flat x) (fun x => x.length ≤ many ∧ ∀ y ∈ x, y.length ≤ most) := by
  refine Cod.ofT (fun x r h => lst_put r (by have := h.1; omega) hm hm2 fun y hy => by have := h.2 y hy; omega) (fun b h => ⟨⟨?_, fun y hy => ?_⟩, (lst_only h).2⟩) (fun x k h hk => ?_)
  · have := (lst_only h).1; omega
  · have := lst_most h y hy; omega
  · rw [lst_cut (by have := h.1; omega) hm hm2 (fun y hy => by have := h.2 y hy; omega) hk]
theorem cScr : Cod (ofT tScr) (fun x => sizeB x.length ++ x) (fun x => x.length ≤ 1000) := cLim 1000 (by omega)
theorem cWit : Cod (ofT tWit) (fun x => sizeB x.length ++ flat x) (fun x => x.length ≤ 30 ∧ ∀ y ∈ x, y.length ≤ 1000) := cLst 30 1000 (by omega) (by omega)
theorem cCnt (m : Nat) (hm : (m : Int) ≤ 9223372036854775807) : Cod (ofT (tCnt m)) (fun n => sizeB (n : Nat)) (fun n => n ≤ m) := by
  refine Cod.ofT (fun x r h => ?_) (fun b h => ⟨?_, (bnd_only h).1⟩) (fun x k h hk => ?_)
  · have := bnd_put (n := x) (most := m) r (by omega) (by omega) hm
    exact this
  · have := (bnd_only h).2; show (bnd b m).1 ≤ m; omega
  · show (bnd _ _).2.2 = 2
    rw [bnd_cut (by omega) hk]
theorem ofT_cntD (m : Nat) : ofT (tCntD m) = ofT (tCnt m) := by
  funext b
  unfold ofT
  by_cases h1 : (sz b).2.2 = 0
  · by_cases h2 : m < (sz b).1
    · have e1 : tCntD m b = (0, (sz b).2.1, 4) := by unfold tCntD; rw [if_pos ⟨h1, h2⟩]
      have e2 : tCnt m b = (0, [], 4) := by unfold tCnt bnd; rw [if_neg (by simpa using h1), if_pos (Or.inr (by omega))]
      rw [e1, e2]; simp
    · have e1 : tCntD m b = ((sz b).1, (sz b).2.1, 0) := by unfold tCntD; rw [if_neg (fun h => h2 h.2), if_neg (by simpa using h1)]
      have e2 : tCnt m b = ((sz b).1, (sz b).2.1, 0) := by unfold tCnt bnd; rw [if_neg (by simpa using h1), if_neg (by omega)]
      rw [e1, e2]
  · have e1 : tCntD m b = (0, (sz b).2.1, (sz b).2.2) := by unfold tCntD; rw [if_neg (fun h => h1 h.1), if_pos h1]
    have e2 : tCnt m b = (0, [], (sz b).2.2) := by unfold tCnt bnd; rw [if_pos h1]
    rw [e1, e2]; simp [h1]

/-! ### The reader's parts: the program's (P) and the document's. -/
variable {α : Type}
def rdX (P : Bool) (t : List UInt8 → α × List UInt8 × Int) (d : α) (s : RSt) : α × RSt := if P then rd t d s else rdD t d s
theorem goodX (P : Bool) (t : List UInt8 → α × List UInt8 × Int) (d : α) : Good (rdX P t d) (ofT t) := by
  cases P
  · exact Good.rdD t d
  · exact Good.rd t d
theorem rdX_len {P : Bool} {t : List UInt8 → α × List UInt8 × Int} {d : α} {s : RSt} (h : ∀ b, (t b).2.1.length ≤ b.length) : (rdX P t d s).2.b.length ≤ s.b.length := by
  unfold rdX
  have := h s.b
  cases P
  · simp only [Bool.false_eq_true, if_false]; unfold rdD; split
    · exact Nat.le_refl _
    · exact this
  · simp only [if_true]; unfold rd; split
    · exact Nat.le_refl _
    · split
      · exact Nat.le_refl _
      · exact this
def rdCnt (P : Bool) (m : Nat) (s : RSt) : Nat × RSt := rdX P (if P then tCnt m else tCntD m) 0 s
theorem goodCnt (P : Bool) (m : Nat) : Good (rdCnt P m) (ofT (tCnt m)) := by
  cases P
  · have := goodX false (tCntD m) 0; rw [ofT_cntD] at this; exact this
  · exact goodX true (tCnt m) 0
theorem t32_len (b : List UInt8) : (t32 b).2.1.length ≤ b.length := spB_len b 4
theorem t64_len (b : List UInt8) : (t64 b).2.1.length ≤ b.length := spB_len b 8
theorem tH_len (b : List UInt8) : (tH b).2.1.length ≤ b.length := spB_len b 32
theorem tScr_len (b : List UInt8) : (tScr b).2.1.length ≤ b.length := (lim_len _ _).2
theorem tkF_len {most : Int} : ∀ (n : Nat) (acc : List (List UInt8)) (b : List UInt8), (tkF most n acc b).2.1.length ≤ b.length
  | 0, acc, b => Nat.le_refl _
  | n + 1, acc, b => by
    rw [tkF_succ]
    split
    · simp
    · have := tkF_len n (acc ++ [(lim b most).1]) (lim b most).2.1 (most := most)
      have := (lim_len b most).2
      omega
theorem lst_len (b : List UInt8) (many most : Int) : (lst b many most).2.1.length ≤ b.length := by
  unfold lst
  split
  · simp
  · have := tkF_len (bnd b many).1 [] (bnd b many).2.1 (most := most)
    have := bnd_len b many
    omega
theorem tWit_len (b : List UInt8) : (tWit b).2.1.length ≤ b.length := lst_len _ _ _
theorem tCnt_len (P : Bool) (m : Nat) (b : List UInt8) : ((if P then tCnt m else tCntD m) b).2.1.length ≤ b.length := by
  cases P
  · show (tCntD m b).2.1.length ≤ _
    have := sz_len b
    unfold tCntD; repeat' split
    all_goals exact this
  · exact bnd_len _ _
theorem cnt_len {P : Bool} {m : Nat} {s : RSt} : (rdCnt P m s).2.b.length ≤ s.b.length := rdX_len (tCnt_len P m)
theorem cnt_most (P : Bool) (m : Nat) (s : RSt) : (rdCnt P m s).1 ≤ m := by
  cases P
  · show (rdD (tCntD m) 0 s).1 ≤ m
    unfold rdD; split
    · exact Nat.zero_le _
    · show (tCntD m s.b).1 ≤ m
      unfold tCntD; repeat' split
      all_goals first | exact Nat.zero_le _ | (dsimp only; omega)
  · show (rd (tCnt m) 0 s).1 ≤ m
    unfold rd; repeat' split
    all_goals first | exact Nat.zero_le _ | skip
    rename_i h1 h2
    have := (bnd_only (b := s.b) (most := m) (Classical.not_not.1 h2)).2
    show (bnd s.b m).1 ≤ m
    omega

def bIn (a : H32 × UInt32 × UInt32) : TIn := ⟨a.1, a.2.1, a.2.2, []⟩
def rdIn (P : Bool) (s : RSt) : TIn × RSt :=
  (⟨(rdX P tH zH s).1, (rdX P t32 0 (rdX P tH zH s).2).1, (rdX P t32 0 (rdX P t32 0 (rdX P tH zH s).2).2).1, []⟩, (rdX P t32 0 (rdX P t32 0 (rdX P tH zH s).2).2).2)
def rdOut (P : Bool) (s : RSt) : TOut × RSt := (⟨(rdX P t64 0 s).1, (rdX P tScr [] (rdX P t64 0 s).2).1⟩, (rdX P tScr [] (rdX P t64 0 s).2).2)
def rdWit (P : Bool) (s : RSt) : List (List UInt8) × RSt := rdX P tWit [] s
/-- The inputs with their witnesses. -/
def wits : List TIn → List (List (List UInt8)) → List TIn
  | x :: l, w :: k => ⟨x.prev, x.idx, x.seq, w⟩ :: wits l k
  | l, _ => l
def rdTx (P : Bool) (s : RSt) : TTx × RSt :=
  let v := rdX P t32 0 s
  let n := rdCnt P 20 v.2
  let is := rdN (rdIn P) n.1 n.2
  let m := rdCnt P 20 is.2
  let os := rdN (rdOut P) m.1 m.2
  let k := rdX P t32 0 os.2
  let ws := rdN (rdWit P) is.1.length k.2
  (⟨v.1, wits is.1 ws.1, os.1, k.1⟩, ws.2)

def pIn : Rdg TIn := pbind (ofT tH) fun h => pbind (ofT t32) fun i => pbind (ofT t32) fun q => ppure ⟨h, i, q, []⟩
def pOut : Rdg TOut := pbind (ofT t64) fun v => pbind (ofT tScr) fun x => ppure ⟨v, x⟩
def pTx : Rdg TTx := pbind (ofT t32) fun v => pbind (ofT (tCnt 20)) fun n => pbind (pN pIn n) fun is => pbind (ofT (tCnt 20)) fun m => pbind (pN pOut m) fun os => pbind (ofT t32) fun k => pbind (pN (ofT tWit) is.length) fun ws => ppure ⟨v, wits is ws, os, k⟩

theorem goodIn (P : Bool) : Good (rdIn P) pIn :=
  (goodX P tH zH).bind (g := fun h s => (TIn.mk h (rdX P t32 0 s).1 (rdX P t32 0 (rdX P t32 0 s).2).1 [], (rdX P t32 0 (rdX P t32 0 s).2).2)) fun h =>
    (goodX P t32 0).bind (g := fun i s => (TIn.mk h i (rdX P t32 0 s).1 [], (rdX P t32 0 s).2)) fun i =>
      (goodX P t32 0).bind (g := fun q s => (TIn.mk h i q [], s)) fun q => Good.pure _
theorem goodOut (P : Bool) : Good (rdOut P) pOut :=
  (goodX P t64 0).bind (g := fun v s => (TOut.mk v (rdX P tScr [] s).1, (rdX P tScr [] s).2)) fun v =>
    (goodX P tScr []).bind (g := fun x s => (TOut.mk v x, s)) fun x => Good.pure _
theorem goodTx (P : Bool) : Good (rdTx P) pTx :=
  (goodX P t32 0).bind (g := fun v s =>
    let n := rdCnt P 20 s
    let is := rdN (rdIn P) n.1 n.2
    let m := rdCnt P 20 is.2
    let os := rdN (rdOut P) m.1 m.2
    let k := rdX P t32 0 os.2
    let ws := rdN (rdWit P) is.1.length k.2
    (TTx.mk v (wits is.1 ws.1) os.1 k.1, ws.2)) fun v =>
  (goodCnt P 20).bind (g := fun n s =>
    let is := rdN (rdIn P) n s
    let m := rdCnt P 20 is.2
    let os := rdN (rdOut P) m.1 m.2
    let k := rdX P t32 0 os.2
    let ws := rdN (rdWit P) is.1.length k.2
    (TTx.mk v (wits is.1 ws.1) os.1 k.1, ws.2)) fun n =>
  ((goodIn P).rep n).bind (g := fun is s =>
    let m := rdCnt P 20 s
    let os := rdN (rdOut P) m.1 m.2
    let k := rdX P t32 0 os.2
    let ws := rdN (rdWit P) is.length k.2
    (TTx.mk v (wits is ws.1) os.1 k.1, ws.2)) fun is =>
  (goodCnt P 20).bind (g := fun m s =>
    let os := rdN (rdOut P) m s
    let k := rdX P t32 0 os.2
    let ws := rdN (rdWit P) is.length k.2
    (TTx.mk v (wits is ws.1) os.1 k.1, ws.2)) fun m =>
  ((goodOut P).rep m).bind (g := fun os s =>
    let k := rdX P t32 0 s
    let ws := rdN (rdWit P) is.length k.2
    (TTx.mk v (wits is ws.1) os k.1, ws.2)) fun os =>
  (goodX P t32 0).bind (g := fun k s =>
    let ws := rdN (rdWit P) is.length s
    (TTx.mk v (wits is ws.1) os k, ws.2)) fun k =>
  ((goodX P tWit []).rep is.length).bind (g := fun ws s => (TTx.mk v (wits is ws) os k, s)) fun ws => Good.pure _

/-! ### There and back. -/
def pPair {β : Type} (p : Rdg α) (q : α → Rdg β) : Rdg (α × β) := pbind p fun x => pbind (q x) fun y => ppure (x, y)
theorem pbind_assoc {β γ : Type} (p : Rdg α) (q : α → Rdg β) (r : β → Rdg γ) : pbind (pbind p q) r = pbind p fun x => pbind (q x) r := by
  funext b
  unfold pbind
  cases p b <;> rfl
theorem pbind_pure {β : Type} (x : α) (q : α → Rdg β) : pbind (ppure x) q = q x := rfl
theorem wits_split : ∀ (l : List TIn), (∀ x ∈ l, x.wit = x.wit) → wits (l.map fun x => ⟨x.prev, x.idx, x.seq, []⟩) (l.map TIn.wit) = l
  | [], _ => rfl
  | x :: l, h => by simp only [List.map_cons, wits]; rw [wits_split l fun _ _ => rfl]
theorem wits_map : ∀ (l : List TIn) (k : List (List (List UInt8))), l.length = k.length → (∀ x ∈ l, x.wit = []) → ((wits l k).map fun x : TIn => (⟨x.prev, x.idx, x.seq, []⟩ : TIn)) = l ∧ (wits l k).map TIn.wit = k
  | [], [], _, _ => ⟨rfl, rfl⟩
  | [], _ :: _, h, _ => by simp at h
  | _ :: _, [], h, _ => by simp at h
  | x :: l, w :: k, h, hw => by
    obtain ⟨h1, h2⟩ := wits_map l k (by simpa using h) fun y hy => hw y (by simp [hy])
    have h3 := hw x (by simp)
    obtain ⟨a, b, c, d⟩ := x
    dsimp only at h3
    subst h3
    simp only [wits, List.map_cons, h1, h2]
    exact ⟨trivial, trivial⟩
theorem wits_len : ∀ (l : List TIn) (k : List (List (List UInt8))), (wits l k).length = l.length
  | [], _ => by simp [wits]
  | _ :: _, [] => by simp [wits]
  | x :: l, w :: k => by simp [wits, wits_len l k]

abbrev TxTup := UInt32 × Nat × List TIn × Nat × List TOut × UInt32 × List (List (List UInt8))
theorem cIn : Cod pIn tInB (fun x => x.wit = []) := by
  have := (Cod.pair cH fun _ _ => Cod.pair codN32 fun _ _ => codN32).map (fun z => (⟨z.1, z.2.1, z.2.2, []⟩ : TIn)) (fun x => (x.prev, x.idx, x.seq)) (fun x => x.wit = [])
    (fun z _ => ⟨rfl, rfl⟩) (fun x h => ⟨⟨trivial, trivial, trivial⟩, by obtain ⟨a, b, c, d⟩ := x; dsimp only at h; subst h; rfl⟩)
  refine this.congr (fun b => ?_) (fun x => ?_) (fun x => Iff.rfl)
  · simp only [pIn, pbind_assoc, pbind_pure]
  · simp only [tInB, List.append_assoc]
theorem cOut : Cod pOut tOutB (fun x => scrOk x = true) := by
  have := (Cod.pair codN64 fun _ _ => cScr).map (fun z => (⟨z.1, z.2⟩ : TOut)) (fun x => (x.val, x.scr)) (fun x => scrOk x = true)
    (fun z h => ⟨rfl, by simpa [scrOk] using h.2⟩) (fun x h => ⟨⟨trivial, by simpa [scrOk] using h⟩, rfl⟩)
  refine this.congr (fun b => ?_) (fun x => ?_) (fun x => Iff.rfl)
  · simp only [pOut, pbind_assoc, pbind_pure]
  · simp only [tOutB]
theorem cTx : Cod pTx wholeB (fun t => countsB t = true) := by
  have := (Cod.pair codN32 fun v _ => Cod.pair (cCnt 20 (by omega)) fun n _ => Cod.pair (cIn.rep n) fun is _ => Cod.pair (cCnt 20 (by omega)) fun m _ => Cod.pair (cOut.rep m) fun os _ => Cod.pair codN32 fun k _ => cWit.rep is.length).map
    (fun z => (⟨z.1, wits z.2.2.1 z.2.2.2.2.2.2, z.2.2.2.2.1, z.2.2.2.2.2.1⟩ : TTx))
    (fun t => (t.ver, t.ins.length, t.ins.map (fun x => ⟨x.prev, x.idx, x.seq, []⟩), t.outs.length, t.outs, t.lock, t.ins.map TIn.wit)) (fun t => countsB t = true) ?_ ?_
  · refine this.congr (fun b => ?_) (fun t => ?_) (fun x => Iff.rfl)
    · simp only [pTx, pbind_assoc, pbind_pure]
    · have e1 : cat tInB (t.ins.map (fun x => (⟨x.prev, x.idx, x.seq, []⟩ : TIn))) = cat tInB t.ins := by
        unfold cat; rw [List.map_map]; rfl
      have e2 : cat (fun x : List (List UInt8) => sizeB x.length ++ flat x) (t.ins.map TIn.wit) = cat witB t.ins := by
        unfold cat; rw [List.map_map]; rfl
      dsimp only
      rw [e1, e2]
      simp only [wholeB, bareB, List.append_assoc]
  · rintro ⟨v, n, is, m, os, k, ws⟩ ⟨_, h1, ⟨h2, h3⟩, h4, ⟨h5, h6⟩, _, h7, h8⟩
    dsimp only at h1 h2 h3 h4 h5 h6 h7 h8 ⊢
    obtain ⟨e1, e2⟩ := wits_map is ws h7.symm h3
    refine ⟨by rw [wits_len, e1, e2, h2, h5], ?_⟩
    have : ∀ x ∈ wits is ws, x.wit.length ≤ 30 ∧ ∀ y ∈ x.wit, y.length ≤ 1000 := fun x hx => h8 x.wit (by rw [← e2]; exact List.mem_map_of_mem hx)
    simp only [countsB, wits_len, Bool.and_eq_true, decide_eq_true_eq, List.all_eq_true, witOk]
    exact ⟨⟨⟨by omega, by omega⟩, h6⟩, this⟩
  · intro t h
    simp only [countsB, Bool.and_eq_true, decide_eq_true_eq, List.all_eq_true, witOk] at h
    obtain ⟨⟨⟨h1, h2⟩, h3⟩, h4⟩ := h
    refine ⟨⟨trivial, h1, ⟨by simp, by simp⟩, h2, ⟨rfl, h3⟩, trivial, by simp, ?_⟩, ?_⟩
    · intro w hw
      obtain ⟨x, hx, rfl⟩ := List.mem_map.1 hw
      exact h4 x hx
    · rw [wits_split _ fun _ _ => rfl]

/-! ### Taking a transaction. -/
def takTx (b : List UInt8) : Res TTx := match pTx b with
  | .ok t r => if b.length - r.length ≤ 12000 then .ok t r else .err 4
  | .err e => .err e
def decTx (b : List UInt8) : Res TTx := match takTx b with
  | .ok t r => if r = [] then .ok t [] else .err 3
  | .err e => .err e
theorem takTx_put {t : TTx} (r : List UInt8) (h : fitsB t = true) : takTx (wholeB t ++ r) = .ok t r := by
  simp only [fitsB, Bool.and_eq_true, decide_eq_true_eq] at h
  unfold takTx
  rw [cTx.put t r h.1]
  dsimp only
  rw [if_pos (by simp; omega)]
theorem takTx_only {b r : List UInt8} {t : TTx} (h : takTx b = .ok t r) : fitsB t = true ∧ wholeB t ++ r = b := by
  unfold takTx at h
  split at h
  · rename_i t' r' h1
    split at h
    · rename_i h2
      cases h
      obtain ⟨k1, k2⟩ := cTx.only _ _ _ h1
      refine ⟨?_, k2⟩
      simp only [fitsB, Bool.and_eq_true, decide_eq_true_eq]
      refine ⟨k1, ?_⟩
      rw [← k2] at h2
      simp at h2; omega
    · cases h
  · cases h
theorem takTx_cut {t : TTx} {k : Nat} (h : fitsB t = true) (hk : k < (wholeB t).length) : takTx ((wholeB t).take k) = .err 2 := by
  simp only [fitsB, Bool.and_eq_true, decide_eq_true_eq] at h
  unfold takTx
  rw [cTx.cut t k h.1 hk]
theorem takTx_err {b : List UInt8} {e : Int} (h : takTx b = .err e) : e ≠ 0 := by
  unfold takTx at h
  split at h
  · split at h
    · cases h
    · cases h; decide
  · rename_i e' h1
    cases h
    exact ((goodTx true).err b _ h1).1
theorem decTx_ok {b r : List UInt8} {t : TTx} (h : decTx b = .ok t r) : fitsB t = true ∧ wholeB t = b ∧ r = [] := by
  unfold decTx at h
  split at h
  · rename_i t' r' h1
    split at h
    · rename_i hr
      cases h
      obtain ⟨k1, k2⟩ := takTx_only h1
      subst hr
      exact ⟨k1, by simpa using k2, rfl⟩
    · cases h
  · cases h
theorem decTx_put {t : TTx} (h : fitsB t = true) : decTx (wholeB t) = .ok t [] := by
  have := takTx_put [] h
  rw [List.append_nil] at this
  unfold decTx
  rw [this]
  dsimp only
  rw [if_pos rfl]
theorem decTx_more {t : TTx} {x : UInt8} {r : List UInt8} (h : fitsB t = true) : decTx (wholeB t ++ x :: r) = .err 3 := by
  unfold decTx
  rw [takTx_put _ h]
  dsimp only
  rw [if_neg (by simp)]
theorem decTx_err {b : List UInt8} {e : Int} (h : decTx b = .err e) : e ≠ 0 := by
  unfold decTx at h
  split at h
  · split at h
    · cases h
    · cases h; decide
  · rename_i e' h1
    cases h
    exact takTx_err h1
theorem fits_chk {t : TTx} (h : fitsB t = true) : chkE t = 0 := if_pos h
theorem nfits_chk {t : TTx} (h : fitsB t = false) : chkE t = 4 := if_neg (by simp [h])

end Go.Fw

end

section
/- Lists gone through one by one: all, the first, alike. Plain laws. -/
namespace Go.Fw
open Go
set_option linter.unusedVariables false
set_option linter.unusedSimpArgs false
variable {α : Type}

theorem all_take (p : α → Bool) (d : α) (l : List α) (k : Nat) (h : k < l.length) : (l.take (k + 1)).all p = ((l.take k).all p && p (l.getD k d)) := by
  rw [take_getDx d l k h]; simp
theorem all_getD (p : α → Bool) (d : α) (l : List α) (k : Nat) (h : k < l.length) (hp : p (l.getD k d) = false) : l.all p = false := by
  have hm : l.getD k d ∈ l := by simp [h]
  cases e : l.all p with
  | false => rfl
  | true =>
    rw [List.all_eq_true] at e
    have h9 := e _ hm
    rw [hp] at h9; cases h9
theorem drop_getD (d : α) (l : List α) (k : Nat) (h : k < l.length) : l.drop k = l.getD k d :: l.drop (k + 1) := by
  rw [List.drop_eq_getElem_cons h]; simp [h]

/-- The place of the first one; -1: there is none. -/
def fstI (p : α → Bool) : List α → Nat → Int
  | [], _ => -1
  | x :: l, k => if p x = true then (k : Int) else fstI p l (k + 1)
theorem fstI_any (p : α → Bool) : ∀ (l : List α) (k : Nat), decide (0 ≤ fstI p l k) = l.any p
  | [], k => rfl
  | x :: l, k => by
    unfold fstI
    rw [List.any_cons]
    cases p x
    · simp only [Bool.false_eq_true, if_false, Bool.false_or]; exact fstI_any p l (k + 1)
    · simp only [if_true, Bool.true_or]; simp
theorem fstI_yes (p : α → Bool) (d : α) (l : List α) (k : Nat) (h : k < l.length) (hp : p (l.getD k d) = true) : fstI p (l.drop k) k = (k : Int) := by
  rw [drop_getD d l k h, fstI, if_pos hp]
theorem fstI_no (p : α → Bool) (d : α) (l : List α) (k : Nat) (h : k < l.length) (hp : p (l.getD k d) = false) : fstI p (l.drop k) k = fstI p (l.drop (k + 1)) (k + 1) := by
  rw [drop_getD d l k h, fstI, if_neg (by rw [hp]; exact Bool.false_ne_true)]
theorem fstI_end (p : α → Bool) (l : List α) : fstI p (l.drop l.length) l.length = -1 := by rw [List.drop_length]; rfl

theorem getD_ne (d : α) {l m : List α} (k : Nat) (h : l.getD k d ≠ m.getD k d) : l ≠ m := fun e => h (by rw [e])
theorem take_eq_succ (d : α) {l m : List α} {k : Nat} (h1 : k < l.length) (h2 : k < m.length) (h : l.take k = m.take k) (e : l.getD k d = m.getD k d) : l.take (k + 1) = m.take (k + 1) := by
  rw [take_getDx d l k h1, take_getDx d m k h2, h, e]
theorem take_eq_all {l m : List α} (hl : l.length = m.length) (h : l.take l.length = m.take l.length) : l = m := by
  rw [List.take_length, hl, List.take_length] at h; exact h

def longB (x : List UInt8) : Bool := decide (1000 < (x.length : Int))
theorem scrOk_long (x : TOut) : scrOk x = !longB x.scr := by
  unfold scrOk longB
  by_cases h : x.scr.length ≤ 1000
  · have : ¬ (1000 < (x.scr.length : Int)) := by omega
    simp [h, this]
  · have : (1000 < (x.scr.length : Int)) := by omega
    simp [h, this]
theorem witOk_long (x : TIn) : witOk x = (!(decide (30 < (x.wit.length : Int)) || x.wit.any longB)) := by
  unfold witOk
  have e1 : decide (x.wit.length ≤ 30) = !decide (30 < (x.wit.length : Int)) := by
    by_cases h : x.wit.length ≤ 30
    · have : ¬ (30 < (x.wit.length : Int)) := by omega
      simp [h, this]
    · have : (30 < (x.wit.length : Int)) := by omega
      simp [h, this]
  have e2 : (x.wit.all fun y => decide (y.length ≤ 1000)) = !x.wit.any longB := by
    rw [List.not_any_eq_all_not]
    congr 1
    funext y
    exact scrOk_long ⟨0, y⟩
  rw [e1, e2, Bool.not_or]
theorem countsB_eq (t : TTx) : countsB t = (decide (t.ins.length ≤ 20) && decide (t.outs.length ≤ 20) && t.outs.all scrOk && t.ins.all witOk) := rfl

theorem wits_nil (l : List TIn) : wits l [] = l := by cases l <;> rfl
theorem wits_at : ∀ (l : List TIn) (k : List (List (List UInt8))), k.length < l.length → (wits l k).getD k.length dIn = l.getD k.length dIn
  | [], _, h => by simp at h
  | x :: l, [], h => by rw [wits_nil]
  | x :: l, w :: k, h => by
    simp only [wits, List.length_cons, List.getD_cons_succ]
    exact wits_at l k (by simpa using h)
theorem wits_snoc : ∀ (l : List TIn) (k : List (List (List UInt8))) (w : List (List UInt8)), k.length < l.length → (wits l k).set k.length ⟨(l.getD k.length dIn).prev, (l.getD k.length dIn).idx, (l.getD k.length dIn).seq, w⟩ = wits l (k ++ [w])
  | [], _, _, h => by simp at h
  | x :: l, [], w, h => by rw [wits_nil]; simp [wits, wits_nil]
  | x :: l, v :: k, w, h => by
    simp only [wits, List.length_cons, List.getD_cons_succ, List.set_cons_succ, List.cons_append]
    rw [wits_snoc l k w (by simpa using h)]
theorem wits_set (l : List TIn) (k : List (List (List UInt8))) (w : List (List UInt8)) (i : Nat) (hi : k.length = i) (h : i < l.length) :
    ((wits l k).map inT).getD i default = inT ⟨(l.getD i dIn).prev, (l.getD i dIn).idx, (l.getD i dIn).seq, (l.getD i dIn).wit⟩ ∧
    ((wits l k).map inT).set i (inT ⟨(l.getD i dIn).prev, (l.getD i dIn).idx, (l.getD i dIn).seq, w⟩) = (wits l (k ++ [w])).map inT := by
  subst hi
  refine ⟨?_, ?_⟩
  · rw [in_getD _ _ (by rw [wits_len]; exact h), wits_at l k h]
  · rw [← List.map_set, wits_snoc l k w h]

def scrS (x : TOut) : Bool := decide (x.scr.length ≤ 600)
def witS (x : TIn) : Bool := decide (x.wit.length ≤ 6) && x.wit.all fun y => decide (y.length ≤ 600)
theorem smallT_eq (t : TTx) : smallT t = (decide (t.ins.length ≤ 6) && decide (t.outs.length ≤ 6) && t.outs.all scrS && t.ins.all witS) := rfl
theorem small_counts {t : TTx} (h : smallT t = true) : countsB t = true := by
  obtain ⟨h1, h2, h3, h4⟩ := smallT_ok h
  simp only [countsB, Bool.and_eq_true, decide_eq_true_eq, List.all_eq_true, scrOk, witOk]
  exact ⟨⟨⟨by omega, by omega⟩, fun x hx => by have := h3 x hx; omega⟩, fun x hx => ⟨by have := (h4 x hx).1; omega, fun y hy => by have := (h4 x hx).2 y hy; omega⟩⟩
theorem all_get {α : Type} (p : α → Bool) (d : α) (l : List α) (k : Nat) (h : k < l.length) (hl : l.all p = true) : p (l.getD k d) = true := by
  rw [List.all_eq_true] at hl
  exact hl _ (by simp [h])

end Go.Fw

end

section
/- A transaction as an argument. Plain. -/
namespace Go.Fw
open Go
set_option linter.unusedVariables false
set_option linter.unusedSimpArgs false

abbrev shIn : Sh := .st [.st [.ba 32, .int .u32], .int .u32, .sq 1 .by]
abbrev shOut : Sh := .st [.int .u64, .by]
abbrev shTx : Sh := .st [.int .u32, .sq 35 shIn, .sq 2 shOut, .int .u32]

theorem list_of {α : Type} {f : α → T} {P : T → Prop} (hf : ∀ x, P x → x.wf → ∃ a, x = f a) : ∀ xs : List T, (∀ x ∈ xs, P x) → T.wfL xs → ∃ l : List α, xs = l.map f
  | [], _, _ => ⟨[], rfl⟩
  | x :: xs, h, hw => by
    obtain ⟨hw1, hw2⟩ := (by simpa only [T.wfL] using hw : x.wf ∧ T.wfL xs)
    obtain ⟨a, rfl⟩ := hf x (h x (by simp)) hw1
    obtain ⟨l, rfl⟩ := list_of hf xs (fun y hy => h y (by simp [hy])) hw2
    exact ⟨a :: l, rfl⟩
theorem by_of (x : T) (h : Sh.by.has x) (hw : x.wf) : ∃ a, x = .by a := by
  cases x <;> simp only [Sh.has] at h
  exact ⟨_, rfl⟩
theorem u32_shp {x : T} (h : (Sh.int .u32).has x) (hw : x.wf) : ∃ a : UInt32, x = .int .u32 (a.toNat : Int) := by
  cases x <;> simp only [Sh.has] at h
  rename_i k v
  subst h
  have hv := (inKb_iff .u32 v).2 (by simpa only [T.wf] using hw)
  have h1 : 0 ≤ v ∧ v < 4294967296 := by simp only [inKb, Bool.and_eq_true, decide_eq_true_eq] at hv; omega
  refine ⟨UInt32.ofNat v.toNat, ?_⟩
  rw [UInt32.toNat_ofNat']
  congr 1; omega
theorem u64_shp {x : T} (h : (Sh.int .u64).has x) (hw : x.wf) : ∃ a : UInt64, x = .int .u64 (a.toNat : Int) := by
  cases x <;> simp only [Sh.has] at h
  rename_i k v
  subst h
  have hv := (inKb_iff .u64 v).2 (by simpa only [T.wf] using hw)
  have h1 : 0 ≤ v ∧ v < 18446744073709551616 := by simp only [inKb, Bool.and_eq_true, decide_eq_true_eq] at hv; omega
  refine ⟨UInt64.ofNat v.toNat, ?_⟩
  rw [UInt64.toNat_ofNat']
  congr 1; omega
theorem h32_of {x : T} (h : (Sh.ba 32).has x) : ∃ a : H32, x = .ba 32 a.1 := by
  cases x <;> simp only [Sh.has] at h
  obtain ⟨rfl, h2⟩ := h
  exact ⟨⟨_, h2⟩, rfl⟩
theorem hasL1 {a : Sh} {l : List Sh} {xs : List T} (h : Sh.hasL (a :: l) xs) : ∃ x ys, xs = x :: ys ∧ a.has x ∧ Sh.hasL l ys := by
  cases xs <;> simp only [Sh.hasL] at h
  exact ⟨_, _, rfl, h.1, h.2⟩
theorem hasL0 {xs : List T} (h : Sh.hasL [] xs) : xs = [] := by
  cases xs <;> simp only [Sh.hasL] at h
  rfl
theorem wfL1 {x : T} {ys : List T} (h : T.wfL (x :: ys)) : x.wf ∧ T.wfL ys := by simpa only [T.wfL] using h
theorem in_of (x : T) (h : shIn.has x) (hw : x.wf) : ∃ a, x = inT a := by
  cases x <;> simp only [Sh.has] at h
  simp only [T.wf] at hw
  obtain ⟨r, ys, rfl, h1, h2⟩ := hasL1 h
  obtain ⟨q, ys, rfl, h3, h4⟩ := hasL1 h2
  obtain ⟨w, ys, rfl, h5, h6⟩ := hasL1 h4
  obtain rfl := hasL0 h6
  obtain ⟨w1, hw⟩ := wfL1 hw
  obtain ⟨w2, hw⟩ := wfL1 hw
  obtain ⟨w3, hw⟩ := wfL1 hw
  cases r <;> simp only [Sh.has] at h1
  simp only [T.wf] at w1
  obtain ⟨hh, ys, rfl, g1, g2⟩ := hasL1 h1
  obtain ⟨i, ys, rfl, g3, g4⟩ := hasL1 g2
  obtain rfl := hasL0 g4
  obtain ⟨w4, w1⟩ := wfL1 w1
  obtain ⟨w5, w1⟩ := wfL1 w1
  obtain ⟨a, rfl⟩ := h32_of g1
  obtain ⟨b, rfl⟩ := u32_shp g3 w5
  obtain ⟨c, rfl⟩ := u32_shp h3 w2
  cases w <;> simp only [Sh.has] at h5
  obtain ⟨rfl, h5⟩ := h5
  simp only [T.wf] at w3
  obtain ⟨l, rfl⟩ := list_of by_of _ h5 w3.2.2.2
  exact ⟨⟨a, b, c, l⟩, rfl⟩
theorem out_of (x : T) (h : shOut.has x) (hw : x.wf) : ∃ a, x = outT a := by
  cases x <;> simp only [Sh.has] at h
  simp only [T.wf] at hw
  obtain ⟨v, ys, rfl, h1, h2⟩ := hasL1 h
  obtain ⟨s, ys, rfl, h3, h4⟩ := hasL1 h2
  obtain rfl := hasL0 h4
  obtain ⟨w1, hw⟩ := wfL1 hw
  obtain ⟨w2, hw⟩ := wfL1 hw
  obtain ⟨a, rfl⟩ := u64_shp h1 w1
  obtain ⟨b, rfl⟩ := by_of s h3 w2
  exact ⟨⟨a, b⟩, rfl⟩
theorem tx_of {x : T} (h : shTx.has x) (hw : x.wf) : ∃ a, x = txT a := by
  cases x <;> simp only [Sh.has] at h
  simp only [T.wf] at hw
  obtain ⟨v, ys, rfl, h1, h2⟩ := hasL1 h
  obtain ⟨is, ys, rfl, h3, h4⟩ := hasL1 h2
  obtain ⟨os, ys, rfl, h5, h6⟩ := hasL1 h4
  obtain ⟨k, ys, rfl, h7, h8⟩ := hasL1 h6
  obtain rfl := hasL0 h8
  obtain ⟨w1, hw⟩ := wfL1 hw
  obtain ⟨w2, hw⟩ := wfL1 hw
  obtain ⟨w3, hw⟩ := wfL1 hw
  obtain ⟨w4, hw⟩ := wfL1 hw
  obtain ⟨a, rfl⟩ := u32_shp h1 w1
  obtain ⟨b, rfl⟩ := u32_shp h7 w4
  cases is <;> simp only [Sh.has] at h3
  obtain ⟨rfl, h3⟩ := h3
  simp only [T.wf] at w2
  obtain ⟨l, rfl⟩ := list_of in_of _ h3 w2.2.2.2
  cases os <;> simp only [Sh.has] at h5
  obtain ⟨rfl, h5⟩ := h5
  simp only [T.wf] at w3
  obtain ⟨m, rfl⟩ := list_of out_of _ h5 w3.2.2.2
  exact ⟨⟨a, l, m, b⟩, rfl⟩

end Go.Fw

end

section
/- Headers and blocks: trees, bytes, there and back. Plain laws. -/
namespace Go.Fw
open Go
set_option linter.unusedVariables false
set_option linter.unusedSimpArgs false

structure THd where
  (ver : UInt32) (prev root : H32) (time bits nonce : UInt32)
  deriving DecidableEq
structure TBl where
  (hd : THd) (txs : List TTx)
  deriving DecidableEq
def hdT (h : THd) : T := .st [.int .u32 (h.ver.toNat : Int), .ba 32 h.prev.1, .ba 32 h.root.1, .int .u32 (h.time.toNat : Int), .int .u32 (h.bits.toNat : Int), .int .u32 (h.nonce.toNat : Int)]
theorem hdT_st (h : THd) : hdT h = .st [.int .u32 (h.ver.toNat : Int), .ba 32 h.prev.1, .ba 32 h.root.1, .int .u32 (h.time.toNat : Int), .int .u32 (h.bits.toNat : Int), .int .u32 (h.nonce.toNat : Int)] := rfl
def blT (b : TBl) : T := .st [hdT b.hd, .sq 4 (b.txs.map txT)]
def dHd : THd := ⟨0, zH, zH, 0, 0, 0⟩
def dBl : TBl := ⟨dHd, []⟩
theorem hdT_inj (a b : THd) (h : hdT a = hdT b) : a = b := by
  obtain ⟨a1, a2, a3, a4, a5, a6⟩ := a
  obtain ⟨b1, b2, b3, b4, b5, b6⟩ := b
  unfold hdT at h
  simp only [T.st.injEq, List.cons.injEq, T.ba.injEq, T.int.injEq, true_and, and_true] at h
  obtain ⟨h1, h2, h3, h4, h5, h6⟩ := h
  rw [n32_inj h1, Subtype.ext h2, Subtype.ext h3, n32_inj h4, n32_inj h5, n32_inj h6]
theorem blT_inj (a b : TBl) (h : blT a = blT b) : a = b := by
  obtain ⟨a1, a2⟩ := a
  obtain ⟨b1, b2⟩ := b
  unfold blT at h
  simp only [T.st.injEq, List.cons.injEq, T.sq.injEq, true_and, and_true] at h
  rw [hdT_inj _ _ h.1, map_inj txT_inj _ _ h.2]

def hdB (h : THd) : List UInt8 := le 4 (h.ver.toNat : Int) ++ h.prev.1 ++ h.root.1 ++ le 4 (h.time.toNat : Int) ++ le 4 (h.bits.toNat : Int) ++ le 4 (h.nonce.toNat : Int)
def dec4 (l : List UInt8) : UInt32 := UInt32.ofNat (num l)
def hdOf (b : List UInt8) : THd := ⟨dec4 (b.take 4), hOf ((b.drop 4).take 32), hOf ((b.drop 36).take 32), dec4 ((b.drop 68).take 4), dec4 ((b.drop 72).take 4), dec4 ((b.drop 76).take 4)⟩
theorem dec4_le (x : UInt32) : dec4 (le 4 (x.toNat : Int)) = x := by
  have hx := x.toNat_lt
  have hn := num_le 4 (x.toNat : Int) (by omega) (by simp; omega)
  have hn' : num (le 4 (x.toNat : Int)) = x.toNat := by omega
  unfold dec4; rw [hn']; exact UInt32.ofNat_toNat ..
theorem le_dec4 {l : List UInt8} (h : l.length = 4) : le 4 ((dec4 l).toNat : Int) = l := by
  unfold dec4
  rw [u32_num _ (by omega)]
  have := le_num l
  rw [h] at this; exact this
theorem hOf_val {l : List UInt8} (h : l.length = 32) : (hOf l).1 = l := by unfold hOf; rw [dif_pos h]
theorem hOf_self (h : H32) : hOf h.1 = h := by unfold hOf; rw [dif_pos h.2]
theorem hdB_len (h : THd) : (hdB h).length = 80 := by simp [hdB, le_len, h.prev.2, h.root.2]
theorem tk_app {a b : List UInt8} {n : Nat} (h : a.length = n) : (a ++ b).take n = a := by subst h; simp
theorem dp_app {a b : List UInt8} {n : Nat} (h : a.length = n) : (a ++ b).drop n = b := by subst h; simp
theorem hd_put (h : THd) (r : List UInt8) : hdOf (hdB h ++ r) = h ∧ (hdB h ++ r).drop 80 = r := by
  refine ⟨?_, dp_app (hdB_len h)⟩
  obtain ⟨v, p, q, t, bi, no⟩ := h
  have e : hdB ⟨v, p, q, t, bi, no⟩ ++ r = le 4 (v.toNat : Int) ++ (p.1 ++ (q.1 ++ (le 4 (t.toNat : Int) ++ (le 4 (bi.toNat : Int) ++ (le 4 (no.toNat : Int) ++ r))))) := by simp only [hdB, List.append_assoc]
  rw [e]
  have l4 : ∀ x : UInt32, (le 4 (x.toNat : Int)).length = 4 := fun x => le_len 4 _
  unfold hdOf
  generalize hX : le 4 (v.toNat : Int) ++ (p.1 ++ (q.1 ++ (le 4 (t.toNat : Int) ++ (le 4 (bi.toNat : Int) ++ (le 4 (no.toNat : Int) ++ r))))) = X
  have d1 : X.drop 4 = p.1 ++ (q.1 ++ (le 4 (t.toNat : Int) ++ (le 4 (bi.toNat : Int) ++ (le 4 (no.toNat : Int) ++ r)))) := by rw [← hX]; exact dp_app (l4 _)
  have d2 : X.drop 36 = q.1 ++ (le 4 (t.toNat : Int) ++ (le 4 (bi.toNat : Int) ++ (le 4 (no.toNat : Int) ++ r))) := by rw [show 36 = 4 + 32 from rfl, ← List.drop_drop, d1]; exact dp_app p.2
  have d3 : X.drop 68 = le 4 (t.toNat : Int) ++ (le 4 (bi.toNat : Int) ++ (le 4 (no.toNat : Int) ++ r)) := by rw [show 68 = 36 + 32 from rfl, ← List.drop_drop, d2]; exact dp_app q.2
  have d4 : X.drop 72 = le 4 (bi.toNat : Int) ++ (le 4 (no.toNat : Int) ++ r) := by rw [show 72 = 68 + 4 from rfl, ← List.drop_drop, d3]; exact dp_app (l4 _)
  have d5 : X.drop 76 = le 4 (no.toNat : Int) ++ r := by rw [show 76 = 72 + 4 from rfl, ← List.drop_drop, d4]; exact dp_app (l4 _)
  have d0 : X.take 4 = le 4 (v.toNat : Int) := by rw [← hX]; exact tk_app (l4 _)
  rw [d0, d1, d2, d3, d4, d5, tk_app p.2, tk_app q.2, tk_app (l4 _), tk_app (l4 _), tk_app (l4 _), dec4_le, dec4_le, dec4_le, dec4_le, hOf_self, hOf_self]
theorem hd_only {b : List UInt8} (h : 80 ≤ b.length) : hdB (hdOf b) ++ b.drop 80 = b := by
  have s : ∀ k m : Nat, (b.drop k).take m ++ b.drop (k + m) = b.drop k := fun k m => by rw [← List.drop_drop]; exact List.take_append_drop m (b.drop k)
  have hl : ∀ k m : Nat, k + m ≤ 80 → ((b.drop k).take m).length = m := fun k m hk => by simp; omega
  unfold hdB hdOf
  dsimp only
  have h0 : (b.take 4).length = 4 := by simp; omega
  rw [le_dec4 h0, hOf_val (hl 4 32 (by omega)), hOf_val (hl 36 32 (by omega)), le_dec4 (hl 68 4 (by omega)), le_dec4 (hl 72 4 (by omega)), le_dec4 (hl 76 4 (by omega))]
  simp only [List.append_assoc]
  rw [s 76 4, s 72 4, s 68 4, s 36 32, s 4 32]
  exact List.take_append_drop 4 b

def pHd : Rdg THd := fun b => if b.length < 80 then .err 2 else .ok (hdOf b) (b.drop 80)
theorem cHd : Cod pHd hdB (fun _ => True) where
  put x r _ := by
    unfold pHd
    rw [if_neg (by simp [hdB_len]), (hd_put x r).1, (hd_put x r).2]
  only b x r h := by
    unfold pHd at h
    split at h
    · cases h
    · cases h; exact ⟨trivial, hd_only (by omega)⟩
  cut x k _ hk := by
    unfold pHd
    have := hdB_len x
    rw [if_pos (by simp; omega)]
theorem cTak : Cod takTx wholeB (fun t => fitsB t = true) where
  put t r h := takTx_put r h
  only b t r h := takTx_only h
  cut t k h hk := takTx_cut h hk

def pBl : Rdg TBl := pbind pHd fun h => pbind (ofT (tCnt 30)) fun n => pbind (pN takTx n) fun l => ppure ⟨h, l⟩
def blB (x : TBl) : List UInt8 := hdB x.hd ++ sizeB x.txs.length ++ cat wholeB x.txs
theorem cBl : Cod pBl blB (fun x => x.txs.length ≤ 30 ∧ ∀ t ∈ x.txs, fitsB t = true) := by
  have := (Cod.pair cHd fun h _ => Cod.pair (cCnt 30 (by omega)) fun n _ => cTak.rep n).map
    (fun z => (⟨z.1, z.2.2⟩ : TBl)) (fun x => (x.hd, x.txs.length, x.txs)) (fun x => x.txs.length ≤ 30 ∧ ∀ t ∈ x.txs, fitsB t = true) ?_ ?_
  · refine this.congr (fun b => ?_) (fun x => ?_) (fun x => Iff.rfl)
    · simp only [pBl, pbind_assoc, pbind_pure]
    · simp only [blB, List.append_assoc]
  · rintro ⟨h, n, l⟩ ⟨_, h1, h2, h3⟩
    dsimp only at h1 h2 h3 ⊢
    subst h2
    exact ⟨rfl, h1, h3⟩
  · intro x h
    exact ⟨⟨trivial, h.1, rfl, h.2⟩, rfl⟩

def decBl (b : List UInt8) : Res TBl := match pBl b with
  | .ok x r => if r = [] then (if b.length ≤ 40000 then .ok x [] else .err 4) else .err 3
  | .err e => .err e
def fitBl (x : TBl) : Bool := decide (x.txs.length ≤ 30) && x.txs.all fitsB && decide ((blB x).length ≤ 40000)
theorem fitBl_ok {x : TBl} (h : fitBl x = true) : x.txs.length ≤ 30 ∧ (∀ t ∈ x.txs, fitsB t = true) ∧ (blB x).length ≤ 40000 := by
  simpa [fitBl, and_assoc] using h
theorem fitBl_of {x : TBl} (h1 : x.txs.length ≤ 30) (h2 : ∀ t ∈ x.txs, fitsB t = true) (h3 : (blB x).length ≤ 40000) : fitBl x = true := by
  simp only [fitBl, Bool.and_eq_true, decide_eq_true_eq, List.all_eq_true]; exact ⟨⟨h1, h2⟩, h3⟩
def encE (x : TBl) : List UInt8 := if fitBl x = true then blB x else []
def encI (x : TBl) : Int := if fitBl x = true then 0 else 4
theorem decBl_put {x : TBl} (h : fitBl x = true) : decBl (blB x) = .ok x [] := by
  obtain ⟨h1, h2, h3⟩ := fitBl_ok h
  have := cBl.put x [] ⟨h1, h2⟩
  rw [List.append_nil] at this
  unfold decBl
  rw [this]
  dsimp only
  rw [if_pos rfl, if_pos h3]
theorem decBl_more {x : TBl} {c : UInt8} {r : List UInt8} (h : fitBl x = true) : decBl (blB x ++ c :: r) = .err 3 := by
  obtain ⟨h1, h2, h3⟩ := fitBl_ok h
  unfold decBl
  rw [cBl.put x _ ⟨h1, h2⟩]
  dsimp only
  rw [if_neg (by simp)]
theorem decBl_cut {x : TBl} {k : Nat} (h : fitBl x = true) (hk : k < (blB x).length) : decBl ((blB x).take k) = .err 2 := by
  obtain ⟨h1, h2, h3⟩ := fitBl_ok h
  unfold decBl
  rw [cBl.cut x k ⟨h1, h2⟩ hk]
theorem decBl_only {b r : List UInt8} {x : TBl} (h : decBl b = .ok x r) : fitBl x = true ∧ blB x = b ∧ r = [] := by
  unfold decBl at h
  split at h
  · rename_i y s h1
    split at h
    · split at h
      · rename_i h2 h3
        cases h
        subst h2
        obtain ⟨k1, k2⟩ := cBl.only _ _ _ h1
        rw [List.append_nil] at k2
        exact ⟨fitBl_of k1.1 k1.2 (by rw [k2]; exact h3), k2, rfl⟩
      · cases h
    · cases h
  · cases h

theorem blB_le {x : TBl} (h : x.txs.length ≤ 30) (hw : ∀ t ∈ x.txs, fitsB t = true) : (blB x).length ≤ 400000 := by
  have h1 := hdB_len x.hd
  have h2 := sizeB_len (x.txs.length : Int)
  have h3 := cat_len wholeB 12000 x.txs fun t ht => by
    have := hw t ht
    simp only [fitsB, Bool.and_eq_true, decide_eq_true_eq] at this
    exact this.2
  have h4 : x.txs.length * 12000 ≤ 30 * 12000 := Nat.mul_le_mul_right _ h
  simp only [blB, List.length_append]
  omega

/-! ### As arguments. -/
abbrev shHd : Sh := .st [.int .u32, .ba 32, .ba 32, .int .u32, .int .u32, .int .u32]
abbrev shBl : Sh := .st [shHd, .sq 4 shTx]
theorem hd_of {x : T} (h : shHd.has x) (hw : x.wf) : ∃ a, x = hdT a := by
  cases x <;> simp only [Sh.has] at h
  simp only [T.wf] at hw
  obtain ⟨a, ys, rfl, h1, h2⟩ := hasL1 h
  obtain ⟨b, ys, rfl, h3, h4⟩ := hasL1 h2
  obtain ⟨c, ys, rfl, h5, h6⟩ := hasL1 h4
  obtain ⟨d, ys, rfl, h7, h8⟩ := hasL1 h6
  obtain ⟨e, ys, rfl, h9, g1⟩ := hasL1 h8
  obtain ⟨f, ys, rfl, g2, g3⟩ := hasL1 g1
  obtain rfl := hasL0 g3
  obtain ⟨w1, hw⟩ := wfL1 hw
  obtain ⟨w2, hw⟩ := wfL1 hw
  obtain ⟨w3, hw⟩ := wfL1 hw
  obtain ⟨w4, hw⟩ := wfL1 hw
  obtain ⟨w5, hw⟩ := wfL1 hw
  obtain ⟨w6, hw⟩ := wfL1 hw
  obtain ⟨a, rfl⟩ := u32_shp h1 w1
  obtain ⟨b, rfl⟩ := h32_of h3
  obtain ⟨c, rfl⟩ := h32_of h5
  obtain ⟨d, rfl⟩ := u32_shp h7 w4
  obtain ⟨e, rfl⟩ := u32_shp h9 w5
  obtain ⟨f, rfl⟩ := u32_shp g2 w6
  exact ⟨⟨a, b, c, d, e, f⟩, rfl⟩
theorem bl_of {x : T} (h : shBl.has x) (hw : x.wf) : ∃ a, x = blT a := by
  cases x <;> simp only [Sh.has] at h
  simp only [T.wf] at hw
  obtain ⟨a, ys, rfl, h1, h2⟩ := hasL1 h
  obtain ⟨b, ys, rfl, h3, h4⟩ := hasL1 h2
  obtain rfl := hasL0 h4
  obtain ⟨w1, hw⟩ := wfL1 hw
  obtain ⟨w2, hw⟩ := wfL1 hw
  obtain ⟨a, rfl⟩ := hd_of h1 w1
  cases b <;> simp only [Sh.has] at h3
  obtain ⟨rfl, h3⟩ := h3
  simp only [T.wf] at w2
  obtain ⟨l, rfl⟩ := list_of (fun x h w => tx_of h w) _ h3 w2.2.2.2
  exact ⟨⟨a, l⟩, rfl⟩

end Go.Fw

end

section
/- Questions: trees, bytes, there and back. Plain laws. -/
namespace Go.Fw
open Go
set_option linter.unusedVariables false
set_option linter.unusedSimpArgs false

structure TQ where
  (op : UInt8) (name : H32) (idx hgt : UInt32) (bts : List UInt8)
  deriving DecidableEq
def qT (q : TQ) : T := .st [.int .u8 (q.op.toNat : Int), .ba 32 q.name.1, .int .u32 (q.idx.toNat : Int), .int .u32 (q.hgt.toNat : Int), .by q.bts]
theorem qT_st (q : TQ) : qT q = .st [.int .u8 (q.op.toNat : Int), .ba 32 q.name.1, .int .u32 (q.idx.toNat : Int), .int .u32 (q.hgt.toNat : Int), .by q.bts] := rfl
def dQ : TQ := ⟨0, zH, 0, 0, []⟩
theorem n8_inj {a b : UInt8} (h : (a.toNat : Int) = (b.toNat : Int)) : a = b := UInt8.toNat_inj.1 (by exact_mod_cast h)
theorem qT_inj (a b : TQ) (h : qT a = qT b) : a = b := by
  obtain ⟨a1, a2, a3, a4, a5⟩ := a
  obtain ⟨b1, b2, b3, b4, b5⟩ := b
  unfold qT at h
  simp only [T.st.injEq, List.cons.injEq, T.ba.injEq, T.by.injEq, T.int.injEq, true_and, and_true] at h
  obtain ⟨h1, h2, h3, h4, h5⟩ := h
  rw [n8_inj h1, Subtype.ext h2, n32_inj h3, n32_inj h4, h5]

/-- Which parts a question has, by its Op. -/
def kQ (op : UInt8) : Nat := if op = 2 ∨ op = 4 then 1 else if op = 3 then 2 else if op = 5 ∨ op = 9 then 3 else if op = 6 then 4 else if op = 8 then 5 else 0
def isOp (op : UInt8) : Bool := decide (1 ≤ op.toNat) && decide (op.toNat ≤ 10)
def tBts (b : List UInt8) : List UInt8 × List UInt8 × Int := lim b 40000
theorem cBts : Cod (ofT tBts) (fun x => sizeB x.length ++ x) (fun x => x.length ≤ 40000) := cLim 40000 (by omega)

def bodyK (k : Nat) (q : TQ) : List UInt8 := match k with
  | 1 => q.name.1
  | 2 => q.name.1 ++ le 4 (q.idx.toNat : Int)
  | 3 => sizeB q.bts.length ++ q.bts
  | 4 => le 4 (q.idx.toNat : Int) ++ le 4 (q.hgt.toNat : Int)
  | 5 => le 4 (q.hgt.toNat : Int)
  | _ => []
def stripK (k : Nat) (q : TQ) : TQ := match k with
  | 1 => ⟨q.op, q.name, 0, 0, []⟩
  | 2 => ⟨q.op, q.name, q.idx, 0, []⟩
  | 3 => ⟨q.op, zH, 0, 0, q.bts⟩
  | 4 => ⟨q.op, zH, q.idx, q.hgt, []⟩
  | 5 => ⟨q.op, zH, 0, q.hgt, []⟩
  | _ => ⟨q.op, zH, 0, 0, []⟩
def pK (op : UInt8) (k : Nat) : Rdg TQ := match k with
  | 1 => pbind (ofT tH) fun h => ppure ⟨op, h, 0, 0, []⟩
  | 2 => pbind (ofT tH) fun h => pbind (ofT t32) fun i => ppure ⟨op, h, i, 0, []⟩
  | 3 => pbind (ofT tBts) fun x => ppure ⟨op, zH, 0, 0, x⟩
  | 4 => pbind (ofT t32) fun i => pbind (ofT t32) fun h => ppure ⟨op, zH, i, h, []⟩
  | 5 => pbind (ofT t32) fun h => ppure ⟨op, zH, 0, h, []⟩
  | _ => ppure ⟨op, zH, 0, 0, []⟩
/-- The program's reading. -/
def rdK (op : UInt8) (k : Nat) (s : RSt) : TQ × RSt := match k with
  | 1 => (⟨op, (rd tH zH s).1, 0, 0, []⟩, (rd tH zH s).2)
  | 2 => (⟨op, (rd tH zH s).1, (rd t32 0 (rd tH zH s).2).1, 0, []⟩, (rd t32 0 (rd tH zH s).2).2)
  | 3 => (⟨op, zH, 0, 0, (rd tBts [] s).1⟩, (rd tBts [] s).2)
  | 4 => (⟨op, zH, (rd t32 0 s).1, (rd t32 0 (rd t32 0 s).2).1, []⟩, (rd t32 0 (rd t32 0 s).2).2)
  | 5 => (⟨op, zH, 0, (rd t32 0 s).1, []⟩, (rd t32 0 s).2)
  | _ => (⟨op, zH, 0, 0, []⟩, s)
theorem kQ_cases (op : UInt8) : kQ op = 1 ∨ kQ op = 2 ∨ kQ op = 3 ∨ kQ op = 4 ∨ kQ op = 5 ∨ kQ op = 0 := by
  unfold kQ; repeat' split
  all_goals simp
theorem kQ_le (op : UInt8) : kQ op ≤ 5 := by have := kQ_cases op; omega
/-- One of six. -/
theorem k_all {p : Nat → Prop} (h0 : p 0) (h1 : p 1) (h2 : p 2) (h3 : p 3) (h4 : p 4) (h5 : p 5) : ∀ k, k ≤ 5 → p k
  | 0, _ => h0 | 1, _ => h1 | 2, _ => h2 | 3, _ => h3 | 4, _ => h4 | 5, _ => h5
  | k + 6, h => absurd h (by omega)
theorem goodK (op : UInt8) : ∀ k, k ≤ 5 → Good (rdK op k) (pK op k) := k_all
  (Good.pure _)
  ((Good.rd tH zH).bind (g := fun h s => (TQ.mk op h 0 0 [], s)) fun _ => Good.pure _)
  ((Good.rd tH zH).bind (g := fun h s => (TQ.mk op h (rd t32 0 s).1 0 [], (rd t32 0 s).2)) fun h => (Good.rd t32 0).bind (g := fun i s => (TQ.mk op h i 0 [], s)) fun _ => Good.pure _)
  ((Good.rd tBts []).bind (g := fun x s => (TQ.mk op zH 0 0 x, s)) fun _ => Good.pure _)
  ((Good.rd t32 0).bind (g := fun i s => (TQ.mk op zH i (rd t32 0 s).1 [], (rd t32 0 s).2)) fun i => (Good.rd t32 0).bind (g := fun h s => (TQ.mk op zH i h [], s)) fun _ => Good.pure _)
  ((Good.rd t32 0).bind (g := fun h s => (TQ.mk op zH 0 h [], s)) fun _ => Good.pure _)
theorem stripK_op : ∀ (k : Nat) (q : TQ), (stripK k q).op = q.op := fun k q => by unfold stripK; split <;> rfl
theorem stripK_two (q : TQ) : ∀ k, k ≤ 5 → stripK k (stripK k q) = stripK k q := k_all rfl rfl rfl rfl rfl rfl
theorem bodyK_strip (q : TQ) : ∀ k, k ≤ 5 → bodyK k (stripK k q) = bodyK k q := k_all rfl rfl rfl rfl rfl rfl

abbrev okK (op : UInt8) (k : Nat) (q : TQ) : Prop := q.op = op ∧ stripK k q = q ∧ q.bts.length ≤ 40000
theorem codNone (op : UInt8) : Cod (ppure (⟨op, zH, 0, 0, []⟩ : TQ)) (fun _ => []) (okK op 0) where
  put x r h := by
    obtain ⟨rfl, h2, _⟩ := h
    show Res.ok _ _ = Res.ok _ _
    rw [List.nil_append]; congr 1
  only b x r h := by
    unfold ppure at h; cases h; exact ⟨⟨rfl, rfl, Nat.zero_le _⟩, rfl⟩
  cut x k _ hk := absurd hk (by simp)
theorem codK (op : UInt8) : ∀ k, k ≤ 5 → Cod (pK op k) (bodyK k) (okK op k) := k_all
  (codNone op)
  ((cH.map (fun x => (⟨op, x, 0, 0, []⟩ : TQ)) (fun q => q.name) (okK op 1) (fun x _ => ⟨rfl, rfl, rfl, Nat.zero_le _⟩) (fun q h => ⟨trivial, by obtain ⟨rfl, h2, _⟩ := h; exact h2⟩)))
  (((Cod.pair cH fun _ _ => codN32).map (fun z => (⟨op, z.1, z.2, 0, []⟩ : TQ)) (fun q => (q.name, q.idx)) (okK op 2) (fun z _ => ⟨rfl, rfl, rfl, Nat.zero_le _⟩) (fun q h => ⟨⟨trivial, trivial⟩, by obtain ⟨rfl, h2, _⟩ := h; exact h2⟩)).congr (fun b => by simp only [pK, pbind_assoc, pbind_pure]) (fun q => rfl) (fun q => Iff.rfl))
  ((cBts.map (fun x => (⟨op, zH, 0, 0, x⟩ : TQ)) (fun q => q.bts) (okK op 3) (fun x hx => ⟨rfl, rfl, rfl, hx⟩) (fun q h => ⟨h.2.2, by obtain ⟨rfl, h2, _⟩ := h; exact h2⟩)))
  (((Cod.pair codN32 fun _ _ => codN32).map (fun z => (⟨op, zH, z.1, z.2, []⟩ : TQ)) (fun q => (q.idx, q.hgt)) (okK op 4) (fun z _ => ⟨rfl, rfl, rfl, Nat.zero_le _⟩) (fun q h => ⟨⟨trivial, trivial⟩, by obtain ⟨rfl, h2, _⟩ := h; exact h2⟩)).congr (fun b => by simp only [pK, pbind_assoc, pbind_pure]) (fun q => rfl) (fun q => Iff.rfl))
  ((codN32.map (fun x => (⟨op, zH, 0, x, []⟩ : TQ)) (fun q => q.hgt) (okK op 5) (fun x _ => ⟨rfl, rfl, rfl, Nat.zero_le _⟩) (fun q h => ⟨trivial, by obtain ⟨rfl, h2, _⟩ := h; exact h2⟩)))

def stripQ (q : TQ) : TQ := stripK (kQ q.op) q
def bodyQ (q : TQ) : List UInt8 := bodyK (kQ q.op) q
/-- May a question be? -/
def mayQ (q : TQ) : Bool := isOp q.op && decide (stripQ q = q) && decide (q.bts.length ≤ 40000)
theorem mayQ_ok {q : TQ} (h : mayQ q = true) : isOp q.op = true ∧ stripQ q = q ∧ q.bts.length ≤ 40000 := by
  simpa [mayQ, and_assoc] using h
theorem mayQ_of {q : TQ} (h1 : isOp q.op = true) (h2 : stripQ q = q) (h3 : q.bts.length ≤ 40000) : mayQ q = true := by
  simp only [mayQ, Bool.and_eq_true, decide_eq_true_eq]; exact ⟨⟨h1, h2⟩, h3⟩

/-- What is read of bytes, and whether that is all right. -/
def readQ : List UInt8 → TQ × Bool
  | [] => (dQ, false)
  | c :: r => if isOp c = true then ((rdK c (kQ c) ⟨r, 0⟩).1, decide ((rdK c (kQ c) ⟨r, 0⟩).2.e = 0) && decide ((rdK c (kQ c) ⟨r, 0⟩).2.b = [])) else (dQ, false)
theorem readQ_yes {c : UInt8} {r : List UInt8} (h : isOp c = true) : readQ (c :: r) = ((rdK c (kQ c) ⟨r, 0⟩).1, decide ((rdK c (kQ c) ⟨r, 0⟩).2.e = 0) && decide ((rdK c (kQ c) ⟨r, 0⟩).2.b = [])) := if_pos h
theorem readQ_no {c : UInt8} {r : List UInt8} (h : isOp c = false) : readQ (c :: r) = (dQ, false) := if_neg (by simp [h])
theorem readQ_ok {b : List UInt8} (h : (readQ b).2 = true) : mayQ (readQ b).1 = true ∧ (readQ b).1.op :: bodyQ (readQ b).1 = b := by
  cases b with
  | nil => cases h
  | cons c r =>
    by_cases hc : isOp c = true
    · rw [readQ_yes hc] at h ⊢
      simp only [Bool.and_eq_true, decide_eq_true_eq] at h
      obtain ⟨h1, h2⟩ := h
      have g := goodK c (kQ c) (kQ_le c)
      cases hp : pK c (kQ c) r with
      | err e => exact absurd ((g.err _ _ hp).2.symm.trans h1) (g.err _ _ hp).1
      | ok x s =>
        have g2 := g.ok _ _ _ hp
        rw [g2] at h2 ⊢
        dsimp only at h2 ⊢
        subst h2
        obtain ⟨⟨k1, k2, k3⟩, k4⟩ := (codK c (kQ c) (kQ_le c)).only _ _ _ hp
        subst k1
        refine ⟨mayQ_of hc k2 k3, ?_⟩
        rw [List.append_nil] at k4
        show x.op :: bodyK (kQ x.op) x = x.op :: r
        rw [k4]
    · rw [readQ_no (by simpa using hc)] at h; cases h
theorem readQ_put {q : TQ} (h : mayQ q = true) : readQ (q.op :: bodyQ q) = (q, true) := by
  obtain ⟨h1, h2, h3⟩ := mayQ_ok h
  have hp := (codK q.op (kQ q.op) (kQ_le _)).put q [] ⟨rfl, h2, h3⟩
  rw [List.append_nil] at hp
  have g := (goodK q.op (kQ q.op) (kQ_le _)).ok _ _ _ hp
  rw [readQ_yes h1, show bodyQ q = bodyK (kQ q.op) q from rfl, g]
  rfl
/-- Of what is put, the same is read just where it may be. -/
theorem readQ_same (q : TQ) : ((readQ (q.op :: bodyQ q)).2 && decide ((readQ (q.op :: bodyQ q)).1 = q)) = mayQ q := by
  cases hm : mayQ q with
  | true => rw [readQ_put hm]; simp
  | false =>
    cases h : (readQ (q.op :: bodyQ q)).2 with
    | false => rfl
    | true =>
      have k := (readQ_ok h).1
      rw [Bool.true_and]
      apply decide_eq_false
      intro e
      rw [e, hm] at k; cases k
def putQ (q : TQ) : List UInt8 := if mayQ q = true then q.op :: bodyQ q else []
def putQe (q : TQ) : Int := if mayQ q = true then 0 else 1
def tkQ (b : List UInt8) : TQ := if (readQ b).2 = true then (readQ b).1 else dQ
def tkQe (b : List UInt8) : Int := if (readQ b).2 = true then 0 else 3

/-! ### The document's reading, loose. -/
structure LSt where
  (b : List UInt8) (ok : Bool)
def ld {α : Type} (t : List UInt8 → α × List UInt8 × Int) (s : LSt) : α × LSt := ((t s.b).1, ⟨(t s.b).2.1, s.ok && decide ((t s.b).2.2 = 0)⟩)
def ldK (op : UInt8) (k : Nat) (s : LSt) : TQ × LSt := match k with
  | 1 => (⟨op, (ld tH s).1, 0, 0, []⟩, (ld tH s).2)
  | 2 => (⟨op, (ld tH s).1, (ld t32 (ld tH s).2).1, 0, []⟩, (ld t32 (ld tH s).2).2)
  | 3 => (⟨op, zH, 0, 0, (ld tBts s).1⟩, (ld tBts s).2)
  | 4 => (⟨op, zH, (ld t32 s).1, (ld t32 (ld t32 s).2).1, []⟩, (ld t32 (ld t32 s).2).2)
  | 5 => (⟨op, zH, 0, (ld t32 s).1, []⟩, (ld t32 s).2)
  | _ => (⟨op, zH, 0, 0, []⟩, s)
theorem ld_ok {α : Type} {t : List UInt8 → α × List UInt8 × Int} {w : α → List UInt8} {ok : α → Prop} (h : Cod (ofT t) w ok) {x : α} {r : List UInt8} (hx : ok x) : ld t ⟨w x ++ r, true⟩ = (x, ⟨r, true⟩) := by
  have h1 := ofT_ok.1 (h.put x r hx)
  unfold ld
  dsimp only
  rw [h1]; rfl
theorem ldK_put (q : TQ) (hb : q.bts.length ≤ 40000) : ∀ k, k ≤ 5 → stripK k q = q → ldK q.op k ⟨bodyK k q, true⟩ = (q, ⟨[], true⟩) := k_all
  (fun h => by show (stripK 0 q, _) = _; rw [h]; rfl)
  (fun h => by
    have h1 := ld_ok cH (x := q.name) (r := []) trivial
    rw [List.append_nil] at h1
    show ((⟨q.op, (ld tH ⟨q.name.1, true⟩).1, 0, 0, []⟩ : TQ), (ld tH ⟨q.name.1, true⟩).2) = _
    rw [h1]; exact congrArg (·, _) h)
  (fun h => by
    have h1 := ld_ok cH (x := q.name) (r := le 4 (q.idx.toNat : Int)) trivial
    have h2 := ld_ok codN32 (x := q.idx) (r := []) trivial
    rw [List.append_nil] at h2
    show ((⟨q.op, (ld tH ⟨q.name.1 ++ le 4 (q.idx.toNat : Int), true⟩).1, (ld t32 (ld tH ⟨q.name.1 ++ le 4 (q.idx.toNat : Int), true⟩).2).1, 0, []⟩ : TQ), (ld t32 (ld tH ⟨q.name.1 ++ le 4 (q.idx.toNat : Int), true⟩).2).2) = _
    rw [h1]; dsimp only; rw [h2]; exact congrArg (·, _) h)
  (fun h => by
    have h1 := ld_ok cBts (x := q.bts) (r := []) hb
    rw [List.append_nil] at h1
    show ((⟨q.op, zH, 0, 0, (ld tBts ⟨sizeB q.bts.length ++ q.bts, true⟩).1⟩ : TQ), (ld tBts ⟨sizeB q.bts.length ++ q.bts, true⟩).2) = _
    rw [h1]; exact congrArg (·, _) h)
  (fun h => by
    have h1 := ld_ok codN32 (x := q.idx) (r := le 4 (q.hgt.toNat : Int)) trivial
    have h2 := ld_ok codN32 (x := q.hgt) (r := []) trivial
    rw [List.append_nil] at h2
    show ((⟨q.op, zH, (ld t32 ⟨le 4 (q.idx.toNat : Int) ++ le 4 (q.hgt.toNat : Int), true⟩).1, (ld t32 (ld t32 ⟨le 4 (q.idx.toNat : Int) ++ le 4 (q.hgt.toNat : Int), true⟩).2).1, []⟩ : TQ), (ld t32 (ld t32 ⟨le 4 (q.idx.toNat : Int) ++ le 4 (q.hgt.toNat : Int), true⟩).2).2) = _
    rw [h1]; dsimp only; rw [h2]; exact congrArg (·, _) h)
  (fun h => by
    have h1 := ld_ok codN32 (x := q.hgt) (r := []) trivial
    rw [List.append_nil] at h1
    show ((⟨q.op, zH, 0, (ld t32 ⟨le 4 (q.hgt.toNat : Int), true⟩).1, []⟩ : TQ), (ld t32 ⟨le 4 (q.hgt.toNat : Int), true⟩).2) = _
    rw [h1]; exact congrArg (·, _) h)
def t8 (b : List UInt8) : UInt8 × List UInt8 × Int := (UInt8.ofNat (num (spA b 1)), spB b 1, spE b 1)
theorem t8_cons (c : UInt8) (r : List UInt8) : t8 (c :: r) = (c, r, 0) := by
  have a := spA_app [c] r
  have b := spB_app [c] r
  have e := spE_app [c] r
  show (UInt8.ofNat (num (spA ([c] ++ r) (([c] : List UInt8).length : Int))), spB ([c] ++ r) (([c] : List UInt8).length : Int), spE ([c] ++ r) (([c] : List UInt8).length : Int)) = _
  rw [a, b, e]
  simp [num]
/-- The loose reading of bytes. -/
def ldQ (b : List UInt8) : TQ × LSt := ldK (ld t8 ⟨b, true⟩).1 (kQ (ld t8 ⟨b, true⟩).1) (ld t8 ⟨b, true⟩).2
/-- What it tells is what the program tells. -/
theorem ldQ_law (b : List UInt8) : ((ldQ b).2.ok && mayQ (ldQ b).1 && decide ((ldQ b).1.op :: bodyQ (ldQ b).1 = b)) = (readQ b).2 ∧ ((readQ b).2 = true → (ldQ b).1 = (readQ b).1) := by
  cases hr : (readQ b).2 with
  | true =>
    obtain ⟨k1, k2⟩ := readQ_ok hr
    generalize (readQ b).1 = q at *
    obtain ⟨h1, h2, h3⟩ := mayQ_ok k1
    have e : ldQ b = (q, ⟨[], true⟩) := by
      have h4 : ld t8 ⟨b, true⟩ = (q.op, ⟨bodyQ q, true⟩) := by
        unfold ld
        dsimp only
        rw [← k2, t8_cons]; rfl
      unfold ldQ
      rw [h4]
      exact ldK_put q h3 (kQ q.op) (kQ_le _) h2
    rw [e]
    refine ⟨?_, fun _ => rfl⟩
    dsimp only
    rw [k1, k2]; simp
  | false =>
    refine ⟨?_, fun h => by cases h⟩
    cases hm : mayQ (ldQ b).1 with
    | false => simp
    | true =>
      by_cases he : (ldQ b).1.op :: bodyQ (ldQ b).1 = b
      · have := readQ_put hm
        rw [he] at this
        rw [this] at hr; cases hr
      · rw [decide_eq_false he, Bool.and_false]

end Go.Fw

end

section
/- Disks: sectors, writes, the document's disk. Plain laws. -/
namespace Go.Fw
open Go
set_option linter.unusedVariables false
set_option linter.unusedSimpArgs false

-- C27a
/-- A disk in memory. -/
abbrev dk (a b c : Nat) (left : Int) (off : Bool) : Blk := .bx (.st [.own a, .own b, .own c, .t (.int .i64 left), .t (.bool off)])

def spL (l : Int) (off : Bool) : Int × Bool × Bool := if l = 0 then (l, true, false) else if off = true then (l, off, false) else if 0 < l then (l - 1, off, true) else (l, off, true)

-- C27c
/-- Bytes as a sector. -/
def fullB (b : List UInt8) : List UInt8 := (b ++ List.replicate 128 (UInt8.ofNat (IntKind.u8.wrap (b.length : Int)).toNat)).take 128

theorem fullB_len (b : List UInt8) : (fullB b).length = 128 := by simp [fullB]

theorem take_snoc {α : Type} {l : List α} {k : Nat} {x : α} (h : l[k]? = some x) : l.take (k + 1) = l.take k ++ [x] := by
  rw [List.take_add_one, h]; rfl

theorem fullB_take (b : List UInt8) (k : Nat) (hk : k < 128) : (fullB b).take (k + 1) = (fullB b).take k ++ [if k < b.length then b.getD k 0 else UInt8.ofNat (IntKind.u8.wrap (b.length : Int)).toNat] := by
  apply take_snoc
  unfold fullB
  rw [List.getElem?_take, if_pos hk]
  split
  · rename_i h
    rw [List.getElem?_append_left h]; simp [h]
  · rw [List.getElem?_append_right (by omega), List.getElem?_replicate, if_pos (by omega)]

-- C27d
/-- Sectors, and writes that are pending, as trees. -/
abbrev sect (l : List (List UInt8)) : List T := l.map (T.ba 128)

def pnd1 (p : Int × List UInt8) : T := .st [.int .i64 p.1, .ba 128 p.2]

abbrev pnd (l : List (Int × List UInt8)) : List T := l.map pnd1

-- C27e
/-- Rows seen as sectors, as pending writes. -/
def asSect : List T → Option (List (List UInt8))
  | [] => some []
  | .ba 128 l :: r => match asSect r with
    | some ls => some (l :: ls)
    | none => none
  | _ => none

def asPnd : List T → Option (List (Int × List UInt8))
  | [] => some []
  | .st [.int .i64 i, .ba 128 l] :: r => match asPnd r with
    | some ls => some ((i, l) :: ls)
    | none => none
  | _ => none

theorem asSect_map (l : List (List UInt8)) : asSect (sect l) = some l := by
  induction l with
  | nil => rfl
  | cons x l ih => simp only [sect, List.map_cons] at ih ⊢; simp only [asSect, ih]

theorem asPnd_map (l : List (Int × List UInt8)) : asPnd (pnd l) = some l := by
  induction l with
  | nil => rfl
  | cons x l ih => simp only [pnd, List.map_cons] at ih ⊢; simp only [asPnd, pnd1, ih]

theorem asSect_inv : ∀ {xs : List T} {l : List (List UInt8)}, asSect xs = some l → xs = sect l
  | [], l, h => by cases h; rfl
  | x :: r, l, h => by
    unfold asSect at h
    split at h
    · rename_i he; cases he
    · rename_i he
      cases he
      split at h
      · rename_i ls hls
        cases h
        rw [asSect_inv hls]; rfl
      · cases h
    · cases h

theorem asPnd_inv : ∀ {xs : List T} {l : List (Int × List UInt8)}, asPnd xs = some l → xs = pnd l
  | [], l, h => by cases h; rfl
  | x :: r, l, h => by
    unfold asPnd at h
    split at h
    · rename_i he; cases he
    · rename_i he
      cases he
      split at h
      · rename_i ls hls
        cases h
        rw [asPnd_inv hls]; rfl
      · cases h
    · cases h

/-- Writes laid over sectors. -/
def layP (s : List (List UInt8)) (p : List (Int × List UInt8)) : List (List UInt8) := p.foldl (fun s w => s.set w.1.toNat w.2) s

theorem layP_len (p : List (Int × List UInt8)) : ∀ s : List (List UInt8), (layP s p).length = s.length := by
  induction p with
  | nil => intro s; rfl
  | cons w p ih => intro s; simp only [layP, List.foldl_cons] at ih ⊢; rw [ih]; simp

theorem layP_snoc (s : List (List UInt8)) (p : List (Int × List UInt8)) (w : Int × List UInt8) : layP s (p ++ [w]) = (layP s p).set w.1.toNat w.2 := by simp [layP, List.foldl_append]

def fitP (n : Nat) (p : List (Int × List UInt8)) : Bool := p.all fun w => decide (0 ≤ w.1) && decide (w.1 < n)

theorem fitP_get {n : Nat} {p : List (Int × List UInt8)} (h : fitP n p = true) {k : Nat} {w : Int × List UInt8} (hk : p[k]? = some w) : 0 ≤ w.1 ∧ w.1 < n := by
  have := List.all_eq_true.1 h w (List.mem_of_getElem? hk)
  simpa using this

theorem sect_get (s : List (List UInt8)) (i : Nat) (h : i < s.length) : (List.map (T.ba 128) s).getD i default = .ba 128 (s.getD i []) := by simp [h]

theorem pnd_get (p : List (Int × List UInt8)) (i : Nat) (w : Int × List UInt8) (h : p[i]? = some w) : (List.map pnd1 p).getD i default = .st [.int .i64 w.1, .ba 128 w.2] := by simp [h, pnd1]

-- C27f
def asInts : List T → Option (List Int)
  | [] => some []
  | .int .i64 k :: r => match asInts r with
    | some ks => some (k :: ks)
    | none => none
  | _ => none

theorem asInts_map (l : List Int) : asInts (l.map (T.int .i64)) = some l := by
  induction l with
  | nil => rfl
  | cons x l ih => simp only [List.map_cons, asInts, ih]

theorem asInts_inv : ∀ {xs : List T} {l : List Int}, asInts xs = some l → xs = l.map (T.int .i64)
  | [], l, h => by cases h; rfl
  | x :: r, l, h => by
    unfold asInts at h
    split at h
    · rename_i he; cases he
    · rename_i he
      cases he
      split at h
      · rename_i ls hls
        cases h
        rw [asInts_inv hls]; rfl
      · cases h
    · cases h

/-- How many bytes a crash keeps. -/
def keepN (k : Int) : Nat := (if 128 < (if 0 > k then 0 else k) then 128 else (if 0 > k then 0 else k)).toNat

theorem keepN_le (k : Int) : keepN k ≤ 128 := by unfold keepN; split <;> split at * <;> omega

theorem keepN_eq (k : Int) : (if 128 < (if 0 > k then 0 else k) then 128 else (if 0 > k then 0 else k)) = ((keepN k : Nat) : Int) := by unfold keepN; split <;> split at * <;> omega

def keep1 (s : List (List UInt8)) (x : (Int × List UInt8) × Int) : List (List UInt8) := s.set x.1.1.toNat (x.1.2.take (keepN x.2) ++ (s.getD x.1.1.toNat []).drop (keepN x.2))

/-- Beginnings of writes laid over sectors. -/
def layK (s : List (List UInt8)) (p : List ((Int × List UInt8) × Int)) : List (List UInt8) := p.foldl keep1 s

/-- Sectors taken over where there was a write. -/
def over1 (t : List (List UInt8)) (n : List (List UInt8)) (w : Int × List UInt8) : List (List UInt8) := n.set w.1.toNat (t.getD w.1.toNat [])

def layO (t n : List (List UInt8)) (p : List (Int × List UInt8)) : List (List UInt8) := p.foldl (over1 t) n

theorem layK_len (p : List ((Int × List UInt8) × Int)) : ∀ s : List (List UInt8), (layK s p).length = s.length := by
  induction p with
  | nil => intro s; rfl
  | cons w p ih => intro s; simp only [layK, List.foldl_cons] at ih ⊢; rw [ih]; simp [keep1]

theorem layO_len (t : List (List UInt8)) (p : List (Int × List UInt8)) : ∀ s : List (List UInt8), (layO t s p).length = s.length := by
  induction p with
  | nil => intro s; rfl
  | cons w p ih => intro s; simp only [layO, List.foldl_cons] at ih ⊢; rw [ih]; simp [over1]

theorem layK_snoc (s : List (List UInt8)) (p : List ((Int × List UInt8) × Int)) (w : (Int × List UInt8) × Int) : layK s (p ++ [w]) = keep1 (layK s p) w := by simp [layK, List.foldl_append]

theorem layO_snoc (t s : List (List UInt8)) (p : List (Int × List UInt8)) (w : Int × List UInt8) : layO t s (p ++ [w]) = over1 t (layO t s p) w := by simp [layO, List.foldl_append]

/-- All of a sector's length. -/
def full128 (s : List (List UInt8)) : Bool := s.all fun x => x.length == 128

theorem full128_get {s : List (List UInt8)} (h : full128 s = true) {i : Nat} (hi : i < s.length) : (s.getD i []).length = 128 := by
  have := List.all_eq_true.1 h s[i] (List.getElem_mem hi)
  simp [hi]; simpa using this

theorem full128_set {s : List (List UInt8)} (h : full128 s = true) (i : Nat) {x : List UInt8} (hx : x.length = 128) : full128 (s.set i x) = true := by
  refine List.all_eq_true.2 fun y hy => ?_
  rcases List.mem_or_eq_of_mem_set hy with h1 | h1
  · exact List.all_eq_true.1 h y h1
  · rw [h1]; simpa using hx

theorem layK_full (p : List ((Int × List UInt8) × Int)) : ∀ s : List (List UInt8), full128 s = true → (∀ x ∈ p, x.1.2.length = 128 ∧ x.1.1.toNat < s.length) → full128 (layK s p) = true := by
  induction p with
  | nil => intro s h _; exact h
  | cons w p ih =>
    intro s h hp
    simp only [layK, List.foldl_cons] at ih ⊢
    obtain ⟨h1, h2⟩ := hp w (by simp)
    refine ih _ (full128_set h _ ?_) (fun x hx => ?_)
    · have := full128_get h h2
      have := keepN_le w.2
      simp only [List.length_append, List.length_take, List.length_drop]; omega
    · have := hp x (by simp [hx])
      simpa [keep1] using this

def full128P (p : List (Int × List UInt8)) : Bool := p.all fun x => x.2.length == 128

theorem full128P_get {p : List (Int × List UInt8)} (h : full128P p = true) {k : Nat} {w : Int × List UInt8} (hk : p[k]? = some w) : w.2.length = 128 := by
  have := List.all_eq_true.1 h w (List.mem_of_getElem? hk)
  simpa using this

-- C27g
theorem asSect_cons (l : List UInt8) (r : List T) : asSect (.ba 128 l :: r) = match asSect r with | some ls => some (l :: ls) | none => none := rfl

theorem asSect_nil : asSect [] = some [] := rfl

theorem asPnd_cons (w : Int × List UInt8) (r : List T) : asPnd (pnd1 w :: r) = match asPnd r with | some ls => some (w :: ls) | none => none := rfl

theorem asPnd_nil : asPnd [] = some [] := rfl

theorem asInts_cons (k : Int) (r : List T) : asInts (.int .i64 k :: r) = match asInts r with | some ks => some (k :: ks) | none => none := rfl

theorem asInts_nil : asInts [] = some [] := rfl

theorem zby128 : (zby 128).length = 128 := zby_len 128

theorem pnd1_clean (w : Int × List UInt8) : (pnd1 w).clean = true := rfl

theorem cleanL_sect (l : List (List UInt8)) : T.cleanL (List.map (T.ba 128) l) = true := by
  induction l with
  | nil => rfl
  | cons x l ih => simp only [List.map_cons, T.cleanL, T.clean, ih, Bool.and_self]

theorem cleanL_pnd (l : List (Int × List UInt8)) : T.cleanL (List.map pnd1 l) = true := by
  induction l with
  | nil => rfl
  | cons x l ih => simp only [List.map_cons, T.cleanL, pnd1_clean, ih, Bool.and_self]

theorem spL0 : spL (-1) false = (-1, false, true) := by decide

-- C27h
theorem keepN_other (k : Int) : (if (if 128 < k then 128 else k) > 0 then (if 128 < k then 128 else k) else 0) = ((keepN k : Nat) : Int) := by
  unfold keepN; split <;> split at * <;> split <;> (try split at *) <;> omega

-- C27i
theorem flatten_len : ∀ n : List (List UInt8), full128 n = true → n.flatten.length = 128 * n.length
  | [], _ => rfl
  | x :: n, h => by
    have h0 := full128_get (i := 0) h (by simp)
    have h1 : full128 n = true := by
      simp only [full128, List.all_cons, Bool.and_eq_true] at h ⊢
      exact h.2
    simp at h0
    rw [List.flatten_cons, List.length_append, flatten_len n h1, h0, List.length_cons]
    omega

theorem layO_full (t : List (List UInt8)) (ht : full128 t = true) (p : List (Int × List UInt8)) : ∀ n : List (List UInt8), full128 n = true → fitP t.length p = true → full128 (layO t n p) = true := by
  induction p with
  | nil => intro n h _; exact h
  | cons w p ih =>
    intro n h hp
    simp only [layO, List.foldl_cons] at ih ⊢
    have h1 := fitP_get hp (k := 0) (w := w) rfl
    have h2 : fitP t.length p = true := by simp only [fitP, List.all_cons, Bool.and_eq_true] at hp ⊢; exact hp.2
    exact ih _ (full128_set h _ (full128_get ht (by omega))) h2

theorem cleanL_iff : ∀ xs : List T, T.cleanL xs = true ↔ ∀ x ∈ xs, x.clean = true
  | [] => by simp [T.cleanL]
  | x :: xs => by simp [T.cleanL, cleanL_iff xs]

theorem cleanL_app1 {xs : List T} {x : T} (h : T.cleanL xs = true) (hx : x.clean = true) : T.cleanL (xs ++ [x]) = true :=
  (cleanL_iff _).2 fun y hy => (List.mem_append.1 hy).elim ((cleanL_iff _).1 h y) (fun h' => by simp at h'; subst h'; exact hx)

theorem cleanL_set1 {xs : List T} {x : T} {i : Nat} (h : T.cleanL xs = true) (hx : x.clean = true) : T.cleanL (xs.set i x) = true :=
  (cleanL_iff _).2 fun y hy => (List.mem_or_eq_of_mem_set hy).elim ((cleanL_iff _).1 h y) (fun h' => h' ▸ hx)

theorem getD_set_ne {α : Type} {l : List α} {i j : Nat} {x y : α} (h : i ≠ j) : (l.set i x).getD j y = l.getD j y := by
  simp [List.getD_eq_getElem?_getD, List.getElem?_set_ne h]

theorem layP_at {q : Nat} (p : List (Int × List UInt8)) : ∀ s : List (List UInt8), (∀ w ∈ p, w.1.toNat ≠ q) → (layP s p).getD q [] = s.getD q [] := by
  induction p with
  | nil => intro s _; rfl
  | cons w p ih =>
    intro s h
    simp only [layP, List.foldl_cons] at ih ⊢
    rw [ih _ (fun x hx => h x (by simp [hx])), getD_set_ne (h w (by simp))]

theorem layK_at {q : Nat} (p : List ((Int × List UInt8) × Int)) : ∀ s : List (List UInt8), (∀ w ∈ p, w.1.1.toNat ≠ q) → (layK s p).getD q [] = s.getD q [] := by
  induction p with
  | nil => intro s _; rfl
  | cons w p ih =>
    intro s h
    simp only [layK, List.foldl_cons] at ih ⊢
    rw [ih _ (fun x hx => h x (by simp [hx]))]
    unfold keep1
    rw [getD_set_ne (h w (by simp))]

theorem layO_at {q : Nat} (t : List (List UInt8)) (p : List (Int × List UInt8)) : ∀ s : List (List UInt8), (∀ w ∈ p, w.1.toNat ≠ q) → (layO t s p).getD q [] = s.getD q [] := by
  induction p with
  | nil => intro s _; rfl
  | cons w p ih =>
    intro s h
    simp only [layO, List.foldl_cons] at ih ⊢
    rw [ih _ (fun x hx => h x (by simp [hx]))]
    unfold over1
    rw [getD_set_ne (h w (by simp))]

theorem layP_full (p : List (Int × List UInt8)) : ∀ s : List (List UInt8), full128 s = true → full128P p = true → full128 (layP s p) = true := by
  induction p with
  | nil => intro s h _; exact h
  | cons w p ih =>
    intro s h hp
    simp only [layP, List.foldl_cons] at ih ⊢
    have h1 := full128P_get hp (k := 0) (w := w) rfl
    have h2 : full128P p = true := by simp only [full128P, List.all_cons, Bool.and_eq_true] at hp ⊢; exact hp.2
    exact ih _ (full128_set h _ h1) h2

theorem zip_fst {α β : Type} {l : List α} {m : List β} {x : α × β} (h : x ∈ l.zip m) : x.1 ∈ l := (List.of_mem_zip (a := x.1) (b := x.2) h).1

-- C27o
/-- A thing so many times (a name that simp leaves alone). -/
def rep {α : Type} (n : Nat) (x : α) : List α := List.replicate n x

theorem rep_len {α : Type} (n : Nat) (x : α) : (rep n x).length = n := by simp [rep]

theorem rep_snoc {α : Type} (n : Nat) (x : α) : rep n x ++ [x] = rep (n + 1) x := by rw [rep, rep, List.replicate_succ']

theorem rep_map {α β : Type} (f : α → β) (n : Nat) (x : α) : (rep n x).map f = rep n (f x) := by simp [rep]

def rp1 (w : Int × List UInt8) : T := .st [.int .i64 w.1, .str w.2]

def rdk (s : List (List UInt8)) (p : List (Int × List UInt8)) (l : Int) (off : Bool) : T := .st [.sq 1 (s.map T.str), .sq 2 (p.map rp1), .int .i64 l, .bool off]

def nAt (ks : List Int) (wh : Bool) (i : Nat) : Int := if wh = true then 128 else if 128 < ks.getD i 0 then 128 else ks.getD i 0

def laid1 (out : List (List UInt8)) (w : Int × List UInt8) (n : Int) : List (List UInt8) :=
  if 0 < n then out.set w.1.toNat (w.2.take n.toNat ++ (out.getD w.1.toNat []).drop n.toNat) else out

def laidN (out : List (List UInt8)) (p : List (Int × List UInt8)) (ks : List Int) (wh : Bool) : Nat → List (List UInt8)
  | 0 => out
  | i + 1 => laid1 (laidN out p ks wh i) (p.getD i (0, [])) (nAt ks wh i)

theorem laid1_len (o : List (List UInt8)) (w : Int × List UInt8) (n : Int) : (laid1 o w n).length = o.length := by unfold laid1; split <;> simp

theorem laidN_len (o : List (List UInt8)) (p : List (Int × List UInt8)) (ks : List Int) (wh : Bool) : ∀ i, (laidN o p ks wh i).length = o.length
  | 0 => rfl
  | i + 1 => by simp only [laidN, laid1_len, laidN_len o p ks wh i]

theorem nAt_le (ks : List Int) (wh : Bool) (i : Nat) : nAt ks wh i ≤ 128 := by unfold nAt; split <;> (try split) <;> omega

theorem laid1_full {o : List (List UInt8)} {w : Int × List UInt8} {n : Int} (h : full128 o = true) (h1 : 0 ≤ w.1) (h2 : w.1 < o.length) (h3 : w.2.length = 128) (hn : n ≤ 128) : full128 (laid1 o w n) = true := by
  unfold laid1
  split
  · refine full128_set h _ ?_
    have := full128_get h (i := w.1.toNat) (by omega)
    simp only [List.length_append, List.length_take, List.length_drop, h3, this]; omega
  · exact h

theorem laidN_full {o : List (List UInt8)} {p : List (Int × List UInt8)} (ks : List Int) (wh : Bool) (h : full128 o = true) (hf : fitP o.length p = true) (hp : full128P p = true) : ∀ i, i ≤ p.length → full128 (laidN o p ks wh i) = true
  | 0, _ => h
  | i + 1, hi => by
    obtain ⟨w, hw⟩ : ∃ w, p[i]? = some w := ⟨_, List.getElem?_eq_getElem (by omega)⟩
    have h1 := fitP_get hf hw
    have h2 := full128P_get hp hw
    simp only [laidN]
    have : p.getD i (0, []) = w := by simp [List.getD_eq_getElem?_getD, hw]
    rw [this]
    exact laid1_full (laidN_full ks wh h hf hp i (by omega)) h1.1 (by rw [laidN_len]; exact h1.2) h2 (nAt_le _ _ _)

def asStrs : List T → Option (List (List UInt8))
  | [] => some []
  | .str l :: xs => (asStrs xs).map (l :: ·)
  | _ :: _ => none

def asRps : List T → Option (List (Int × List UInt8))
  | [] => some []
  | .st [.int .i64 i, .str l] :: xs => (asRps xs).map ((i, l) :: ·)
  | _ :: _ => none

theorem asStrs_map (l : List (List UInt8)) : asStrs (l.map T.str) = some l := by
  induction l with
  | nil => rfl
  | cons x l ih => simp only [List.map_cons, asStrs, ih]; rfl

theorem asRps_map (l : List (Int × List UInt8)) : asRps (l.map rp1) = some l := by
  induction l with
  | nil => rfl
  | cons x l ih => simp only [List.map_cons, rp1, asRps]; rw [ih]; rfl

theorem asStrs_inv : ∀ {xs : List T} {l : List (List UInt8)}, asStrs xs = some l → xs = l.map T.str
  | [], l, h => by simp [asStrs] at h; subst h; rfl
  | x :: xs, l, h => by
    unfold asStrs at h
    split at h
    · rename_i hh; cases hh
    · rename_i b ys hh
      cases hh
      simp only [Option.map_eq_some_iff] at h
      obtain ⟨l', h', rfl⟩ := h
      rw [asStrs_inv h']; rfl
    · cases h

theorem asRps_inv : ∀ {xs : List T} {l : List (Int × List UInt8)}, asRps xs = some l → xs = l.map rp1
  | [], l, h => by simp [asRps] at h; subst h; rfl
  | x :: xs, l, h => by
    unfold asRps at h
    split at h
    · rename_i hh; cases hh
    · rename_i i b ys hh
      cases hh
      simp only [Option.map_eq_some_iff] at h
      obtain ⟨l', h', rfl⟩ := h
      rw [asRps_inv h']; rfl
    · cases h

-- C27p
structure RD where
  s : List (List UInt8)
  p : List (Int × List UInt8)
  l : Int
  off : Bool

def RD.T (d : RD) : T := rdk d.s d.p d.l d.off

def RD.ok (d : RD) : Bool := fitP d.s.length d.p && full128 d.s && full128P d.p && decide (d.s.length ≤ 1000000) && decide (d.p.length ≤ 100000)

def asRD : T → Option RD
  | .st [.sq 1 ls, .sq 2 ws, .int .i64 l, .bool off] => match asStrs ls with
    | some s => match asRps ws with
      | some p => if (RD.mk s p l off).ok = true then some ⟨s, p, l, off⟩ else none
      | none => none
    | none => none
  | _ => none

theorem asRD_T {d : RD} (h : d.ok = true) : asRD d.T = some d := by
  simp only [RD.T, rdk, asRD, asStrs_map, asRps_map]
  rw [if_pos h]

theorem asRD_inv {t : T} {d : RD} (h : asRD t = some d) : t = d.T ∧ d.ok = true := by
  unfold asRD at h
  split at h
  · split at h
    · rename_i s hs
      split at h
      · rename_i p hp
        split at h
        · rename_i hok
          cases h
          rw [asStrs_inv hs, asRps_inv hp]
          exact ⟨rfl, hok⟩
        · cases h
      · cases h
    · cases h
  · cases h

theorem RD.ok_iff {d : RD} : d.ok = true ↔ fitP d.s.length d.p = true ∧ full128 d.s = true ∧ full128P d.p = true ∧ d.s.length ≤ 1000000 ∧ d.p.length ≤ 100000 := by
  simp only [RD.ok, Bool.and_eq_true, decide_eq_true_eq]
  constructor
  · rintro ⟨⟨⟨⟨a, b⟩, c⟩, d⟩, e⟩; exact ⟨a, b, c, d, e⟩
  · rintro ⟨a, b, c, d, e⟩; exact ⟨⟨⟨⟨a, b⟩, c⟩, d⟩, e⟩

def nowR (d : RD) : List (List UInt8) := laidN d.s d.p [] true d.p.length

def rsp (l : Int) (off : Bool) : Int × Bool × Bool := if off = true then (l, true, false) else if l = 0 then (l, true, false) else if 0 < l then (l - 1, false, true) else (l, false, true)

-- C27r
def readN (p : List (Int × List UInt8)) (i : Int) : Nat → Option (List UInt8)
  | 0 => none
  | k + 1 => if (p.getD k (0, [])).1 = i then some (p.getD k (0, [])).2 else readN p i k

def readR (d : RD) (i : Int) : List UInt8 := (readN d.p i d.p.length).getD (d.s.getD i.toNat [])

theorem full128_flat {N : List (List UInt8)} (h : full128 N = true) : N.flatten.length = 128 * N.length := by
  induction N with
  | nil => rfl
  | cons x N ih =>
    simp only [full128, List.all_cons, Bool.and_eq_true, beq_iff_eq] at h ih
    simp only [List.flatten_cons, List.length_append, List.length_cons, ih h.2, h.1]; omega

theorem full128_take {N : List (List UInt8)} (h : full128 N = true) (i : Nat) : full128 (N.take i) = true := by
  simp only [full128, List.all_eq_true] at h ⊢
  exact fun x hx => h x (List.mem_of_mem_take hx)

theorem nowR_full {d : RD} (h : d.ok = true) : full128 (nowR d) = true := by
  obtain ⟨h1, h2, h3, h4, h5⟩ := RD.ok_iff.1 h
  exact laidN_full [] true h2 h1 h3 _ (by omega)

theorem nowR_len (d : RD) : (nowR d).length = d.s.length := laidN_len _ _ _ _ _

-- C27s
def putR (d : RD) (i : Int) (b : List UInt8) : RD × Int :=
  if i < 0 ∨ (d.s.length : Int) ≤ i ∨ b.length ≠ 128 then (d, 1)
  else if (rsp d.l d.off).2.2 = false then (⟨d.s, d.p, (rsp d.l d.off).1, (rsp d.l d.off).2.1⟩, 7)
  else (⟨d.s, d.p ++ [(i, b)], (rsp d.l d.off).1, (rsp d.l d.off).2.1⟩, 0)

def syncR (d : RD) : RD × Int :=
  if (rsp d.l d.off).2.2 = false then (⟨d.s, d.p, (rsp d.l d.off).1, (rsp d.l d.off).2.1⟩, 7)
  else (⟨nowR d, [], (rsp d.l d.off).1, (rsp d.l d.off).2.1⟩, 0)

-- C27t
theorem getD_of {α : Type} {l : List α} {i : Nat} {x d : α} (h : l[i]? = some x) : l.getD i d = x := by simp [List.getD_eq_getElem?_getD, h]

theorem set_getD_self {l : List (List UInt8)} {i : Nat} : l.set i (l.getD i []) = l := by
  apply List.ext_getElem?
  intro j
  rw [List.getElem?_set]
  split
  · rename_i e; subst e
    split
    · rename_i h; simp [List.getD_eq_getElem?_getD, h]
    · rename_i h; rw [List.getElem?_eq_none (by omega)]
  · rfl

theorem laid1_keep (X : List (List UInt8)) (w : Int × List UInt8) (k : Int) : laid1 X w (if 128 < k then 128 else k) = keep1 X (w, k) := by
  have e : ((if 128 < k then (128 : Int) else k)).toNat = keepN k := by
    unfold keepN
    by_cases h1 : 128 < k
    · rw [if_pos h1, if_neg (show ¬ 0 > k by omega), if_pos h1]
    · by_cases h2 : 0 > k
      · rw [if_neg h1, if_pos h2, if_neg (show ¬ (128 : Int) < 0 by omega)]; omega
      · rw [if_neg h1, if_neg h2, if_neg h1]
  generalize (if 128 < k then (128 : Int) else k) = m at e
  unfold laid1 keep1
  by_cases h : 0 < m
  · rw [if_pos h, e]
  · rw [if_neg h]
    have e0 : keepN k = 0 := by rw [← e]; omega
    simp only [e0, List.take_zero, List.drop_zero, List.nil_append]
    exact set_getD_self.symm

theorem set_self128 {o : List (List UInt8)} {w : Int × List UInt8} (ho : full128 o = true) (h1 : w.1.toNat < o.length) (h2 : w.2.length = 128) : laid1 o w 128 = o.set w.1.toNat w.2 := by
  have := full128_get ho h1
  unfold laid1
  rw [if_pos (by omega)]
  have e1 : w.2.take (128 : Int).toNat = w.2 := List.take_of_length_le (by omega)
  have e2 : (o.getD w.1.toNat []).drop (128 : Int).toNat = [] := List.drop_eq_nil_of_le (by omega)
  rw [e1, e2, List.append_nil]

theorem laidN_now {s : List (List UInt8)} {p : List (Int × List UInt8)} (h : full128 s = true) (hf : fitP s.length p = true) (hp : full128P p = true) (ks : List Int) : ∀ i, i ≤ p.length → laidN s p ks true i = layP s (p.take i)
  | 0, _ => rfl
  | i + 1, hi => by
    have hip : i < p.length := by omega
    obtain ⟨w, hw⟩ : ∃ w, p[i]? = some w := ⟨_, List.getElem?_eq_getElem hip⟩
    have ih := laidN_now h hf hp ks i (by omega)
    have h3 := laidN_full ks true h hf hp i (by omega)
    have h4 := laidN_len s p ks true i
    have h1 := fitP_get hf hw
    simp only [laidN, getD_of hw]
    have e : nAt ks true i = 128 := rfl
    rw [e, set_self128 h3 (by omega) (full128P_get hp hw), ih]
    have : p.take (i + 1) = p.take i ++ [w] := by rw [List.take_add_one, hw]; rfl
    rw [this, layP_snoc]

theorem nowR_lay {d : RD} (h : d.ok = true) : nowR d = layP d.s d.p := by
  obtain ⟨h1, h2, h3, h4, h5⟩ := RD.ok_iff.1 h
  rw [nowR, laidN_now h2 h1 h3 [] d.p.length (by omega), List.take_length]

theorem laidN_keep {s : List (List UInt8)} {p : List (Int × List UInt8)} (ks : List Int) : ∀ i, i ≤ p.length → laidN s p ks false i = layK s ((p.zip ks).take i)
  | 0, _ => rfl
  | i + 1, hi => by
    have hip : i < p.length := by omega
    obtain ⟨w, hw⟩ : ∃ w, p[i]? = some w := ⟨_, List.getElem?_eq_getElem hip⟩
    have ih := laidN_keep (s := s) (p := p) ks i (by omega)
    simp only [laidN, getD_of hw, ih]
    by_cases hk : i < ks.length
    · obtain ⟨k, hkk⟩ : ∃ k, ks[i]? = some k := ⟨_, List.getElem?_eq_getElem hk⟩
      have hz : (p.zip ks)[i]? = some (w, k) := by simp [List.getElem?_zip_eq_some, hw, hkk]
      rw [List.take_add_one, hz]
      simp only [Option.toList_some, layK, List.foldl_append, List.foldl_cons, List.foldl_nil]
      have : nAt ks false i = if 128 < k then 128 else k := by simp [nAt, List.getD_eq_getElem?_getD, hkk]
      rw [this]
      exact laid1_keep _ w k
    · have hz : (p.zip ks).length ≤ i := by simp; omega
      rw [List.take_of_length_le (Nat.le_trans hz (Nat.le_succ i)), List.take_of_length_le hz]
      have : nAt ks false i = 0 := by simp [nAt, List.getD_eq_getElem?_getD, List.getElem?_eq_none (show ks.length ≤ i by omega)]
      rw [this]
      simp [laid1]

theorem laidN_crash {s : List (List UInt8)} {p : List (Int × List UInt8)} (ks : List Int) : laidN s p ks false p.length = layK s (p.zip ks) := by
  rw [laidN_keep ks p.length (by omega), List.take_of_length_le (by simp; omega)]

/-- Behind a crash what is read is what is safe. -/
theorem layO_hit {t : List (List UInt8)} {q : Nat} (p : List (Int × List UInt8)) : ∀ n : List (List UInt8), t.length = n.length → ((∃ w ∈ p, w.1.toNat = q) ∨ n.getD q [] = t.getD q []) → (layO t n p).getD q [] = t.getD q [] := by
  induction p with
  | nil => intro n _ h; rcases h with ⟨w, hw, _⟩ | h; · simp at hw
           · exact h
  | cons w p ih =>
    intro n hl h
    simp only [layO, List.foldl_cons] at ih ⊢
    apply ih
    · simp [over1, hl]
    · by_cases hq : w.1.toNat = q
      · right
        subst hq
        unfold over1
        simp only [List.getD_eq_getElem?_getD, List.getElem?_set]
        by_cases hb : w.1.toNat < n.length
        · simp [hb]
        · simp [hb]; rw [List.getElem?_eq_none (by omega)]; rfl
      · rcases h with ⟨v, hv, hvq⟩ | h
        · rcases List.mem_cons.1 hv with rfl | hv
          · exact absurd hvq hq
          · exact .inl ⟨v, hv, hvq⟩
        · right
          unfold over1
          rw [getD_set_ne hq]; exact h

theorem layO_crash (s : List (List UInt8)) (p : List (Int × List UInt8)) (ks : List Int) : layO (layK s (p.zip ks)) (layP s p) p = layK s (p.zip ks) := by
  have hl : (layO (layK s (p.zip ks)) (layP s p) p).length = (layK s (p.zip ks)).length := by rw [layO_len, layP_len, layK_len]
  apply List.ext_getElem hl
  intro q h1 h2
  have key : (layO (layK s (p.zip ks)) (layP s p) p).getD q [] = (layK s (p.zip ks)).getD q [] := by
    apply layO_hit
    · rw [layK_len, layP_len]
    · by_cases hw : ∃ w ∈ p, w.1.toNat = q
      · exact .inl hw
      · right
        have hn : ∀ w ∈ p, w.1.toNat ≠ q := fun w hw' h => hw ⟨w, hw', h⟩
        rw [layP_at p s hn, layK_at (p.zip ks) s (fun w hw' => hn _ (zip_fst hw'))]
  rw [List.getD_eq_getElem?_getD, List.getD_eq_getElem?_getD, List.getElem?_eq_getElem h1, List.getElem?_eq_getElem h2] at key
  exact key

/-- What is read: the last one written there, else what is safe. -/
theorem readN_lay {s : List (List UInt8)} {p : List (Int × List UInt8)} {i : Int} (h0 : 0 ≤ i) (h1 : i < s.length) (hf : fitP s.length p = true) : ∀ k, k ≤ p.length → (readN p i k).getD (s.getD i.toNat []) = (layP s (p.take k)).getD i.toNat []
  | 0, _ => rfl
  | k + 1, hk => by
    obtain ⟨w, hw⟩ : ∃ w, p[k]? = some w := ⟨_, List.getElem?_eq_getElem (by omega)⟩
    have ih := readN_lay h0 h1 hf k (by omega)
    have hw1 := fitP_get hf hw
    have e : p.take (k + 1) = p.take k ++ [w] := by rw [List.take_add_one, hw]; rfl
    rw [e, layP_snoc]
    simp only [readN, getD_of hw]
    by_cases hq : w.1 = i
    · rw [if_pos hq, hq]
      have hl : i.toNat < (layP s (p.take k)).length := by rw [layP_len]; omega
      simp [List.getD_eq_getElem?_getD, hl]
    · rw [if_neg hq, getD_set_ne (by omega)]
      exact ih

theorem readR_lay {d : RD} {i : Int} (h : d.ok = true) (h0 : 0 ≤ i) (h1 : i < d.s.length) : readR d i = (layP d.s d.p).getD i.toNat [] := by
  have := readN_lay h0 h1 (RD.ok_iff.1 h).1 d.p.length (by omega)
  rw [List.take_length] at this
  exact this

theorem rsp_spL {l : Int} {off : Bool} (h : off = true → l = 0) : rsp l off = spL l off := by
  unfold rsp spL
  cases off
  · simp
  · have := h rfl; subst this; simp

theorem spL_off {l : Int} {off : Bool} (h : off = true → l = 0) : (spL l off).2.1 = true → (spL l off).1 = 0 := by
  unfold spL
  split
  · intro _; assumption
  · split
    · intro h2; exact h (by assumption)
    · split
      · intro h2; rename_i h3 _; exact absurd h2 h3
      · intro h2; rename_i h3 _; exact absurd h2 h3

-- C27u
theorem cleanL_str (l : List (List UInt8)) : T.cleanL (List.map T.str l) = true := (cleanL_iff _).2 fun y hy => by simp only [List.mem_map] at hy; obtain ⟨z, _, rfl⟩ := hy; rfl

theorem cleanL_rp (l : List (Int × List UInt8)) : T.cleanL (List.map rp1 l) = true := (cleanL_iff _).2 fun y hy => by simp only [List.mem_map] at hy; obtain ⟨z, _, rfl⟩ := hy; rfl

end Go.Fw

end

section
/- Disks in memory; what is done to them. Plain laws. -/
namespace Go.Fw
open Go
set_option linter.unusedVariables false
set_option linter.unusedSimpArgs false

/-- A disk's blocks. -/
def dH (d : RD) : List Blk := [.bx (.st [.own 1, .own 2, .own 3, .t (.int .i64 d.l), .t (.bool d.off)]), .sq 128 (d.s.map (T.ba 128)), .sq 128 ((layP d.s d.p).map (T.ba 128)), .sq 129 (d.p.map pnd1)]
/-- The same, its pending writes in a row of their own. -/
def dN (d : RD) : List Blk := [.bx (.st [.own 1, .own 2, .own 4, .t (.int .i64 d.l), .t (.bool d.off)]), .sq 128 (d.s.map (T.ba 128)), .sq 128 ((layP d.s d.p).map (T.ba 128)), .no, .sq 129 (d.p.map pnd1)]
theorem sect_inj {a b : List (List UInt8)} (h : a.map (T.ba 128) = b.map (T.ba 128)) : a = b := by
  have h1 := asSect_map a
  have h2 := asSect_map b
  simp only [sect] at h1 h2
  rw [h, h2] at h1
  exact (Option.some.inj h1).symm
theorem pnd_inj {a b : List (Int × List UInt8)} (h : a.map pnd1 = b.map pnd1) : a = b := by
  have h1 := asPnd_map a
  have h2 := asPnd_map b
  simp only [pnd] at h1 h2
  rw [h, h2] at h1
  exact (Option.some.inj h1).symm
theorem dH_inj (a b : RD) (h : dH a = dH b) : a = b := by
  obtain ⟨s, p, l, o⟩ := a
  obtain ⟨s', p', l', o'⟩ := b
  unfold dH at h
  simp only [List.cons.injEq, Blk.bx.injEq, AV.st.injEq, AV.t.injEq, T.int.injEq, T.bool.injEq, Blk.sq.injEq, true_and, and_true] at h
  obtain ⟨⟨h1, h2⟩, h3, _, h4⟩ := h
  rw [h1, h2, sect_inj h3, pnd_inj h4]
/-- A disk as it may be. -/
def RD.good (d : RD) : Bool := d.ok && (!d.off || decide (d.l = 0)) && decide (-9223372036854775808 ≤ d.l) && decide (d.l ≤ 9223372036854775807)
theorem good_iff {d : RD} : d.good = true ↔ d.ok = true ∧ (d.off = true → d.l = 0) ∧ -9223372036854775808 ≤ d.l ∧ d.l ≤ 9223372036854775807 := by
  unfold RD.good
  simp only [Bool.and_eq_true, decide_eq_true_eq, Bool.or_eq_true, Bool.not_eq_true']
  constructor
  · rintro ⟨⟨⟨h1, h2⟩, h3⟩, h4⟩
    refine ⟨h1, fun h => ?_, h3, h4⟩
    rcases h2 with h2 | h2
    · rw [h] at h2; cases h2
    · exact h2
  · rintro ⟨h1, h2, h3, h4⟩
    refine ⟨⟨⟨h1, ?_⟩, h3⟩, h4⟩
    cases ho : d.off
    · exact .inl rfl
    · exact .inr (h2 ho)
def newD (n : Nat) : RD := ⟨List.replicate n (zby 128), [], -1, false⟩
def spR (d : RD) : RD × Bool := (⟨d.s, d.p, (rsp d.l d.off).1, (rsp d.l d.off).2.1⟩, (rsp d.l d.off).2.2)
def fuR (d : RD) (k : Int) : RD := ⟨d.s, d.p, if d.off = true then d.l else if 0 > k then 0 else k, d.off⟩
/-- A sector read. -/
def getD (d : RD) (i : Int) : List UInt8 × Int := if i < 0 ∨ (d.s.length : Int) ≤ i then ([], 1) else if d.off = true then ([], 7) else ((layP d.s d.p).getD i.toNat [], 0)
theorem layP_nil (s : List (List UInt8)) : layP s [] = s := rfl
theorem layK_nil (s : List (List UInt8)) : layK s [] = s := rfl
theorem layO_nil (t n : List (List UInt8)) : layO t n [] = n := rfl
theorem newD_H (n : Nat) : dH (newD n) = [.bx (.st [.own 1, .own 2, .own 3, .t (.int .i64 (-1)), .t (.bool false)]), .sq 128 (List.replicate n (.ba 128 (zby 128))), .sq 128 (List.replicate n (.ba 128 (zby 128))), .sq 129 []] := by
  unfold dH newD
  simp [layP]

end Go.Fw

end

section
/- nil in a box, taken for an empty slice without room. -/
namespace Go.Fw
open Go
set_option linter.unusedVariables false

theorem Weak.exBx {kp N : Nat} {S : AS} {v v' : AV} (i : Nat) (p : List Nat) (o : Nat) (B : T) (hi : S.H[i]? = some (.bx v)) (hg : AV.get v p = some (.t .nil)) (ho : AV.off v p = some o) (hs' : AV.set v p (.ex B) = some v')
    (hB : B = .by [] ∨ ∃ sz, 0 < sz ∧ B = .sq sz []) : Weak kp N S ⟨S.s, S.H.set i (.bx v')⟩ := by
  intro c hc m w a hinv hs
  refine ⟨m, ?_, hs⟩
  obtain ⟨b, cur, e, hd, hh, hM, hw, hcs, hcc⟩ := hinv.ok _ _ hi
  obtain ⟨k1, k2, k3, k4⟩ := AV.set_ok p v _ _ v' o hw hg ho hs' (by simp only [AV.wf]) (by simp only [AV.size]; rfl)
  have hold : ∀ j c', (AV.t T.nil).cells[j]? = some c' → v.cells[o + j]? = some c' := (AV.get_ok p v _ o hw hg ho).2
  refine hinv.upd (w' := w) hi rfl rfl rfl rfl rfl (fun _ _ => rfl) ⟨b, cur, e, hd, hh, hM, k1, by rw [hcs, k2], fun j d hj => ?_⟩
  rw [k4 j] at hj
  by_cases hr : o ≤ j ∧ j < o + (AV.ex B).cells.length
  · rw [if_pos hr] at hj
    simp only [AV.cells, List.length_cons, List.length_nil] at hj hr
    have hj0 : j = o := by omega
    subst hj0
    simp at hj
    subst hj
    obtain ⟨u, hu, hru⟩ := hcc j (.t .nil) (by have := hold 0 (.t .nil) rfl; simpa using this)
    have := hru.t_inv
    cases this
    refine ⟨_, hu, .ex ?_⟩
    rcases hB with rfl | ⟨sz, hsz, rfl⟩
    · exact .byn
    · exact .sqn hsz
  · rw [if_neg hr] at hj
    exact hcc j d hj

end Go.Fw

end

section
/- A row of the call's own that a box names: told anew as the last of all blocks. -/
namespace Go.Fw
open Go
set_option linter.unusedVariables false

theorem Weak.moveBx {kp N : Nat} {S : AS} {v v' : AV} (j i : Nat) (p : List Nat) (o : Nat) (B : Blk) (hi : S.H[i]? = some B) (hl : B.live = true) (hj : S.H[j]? = some (.bx v)) (hij : j ≠ i) (hg : AV.get v p = some (.own i)) (ho : AV.off v p = some o) (hs' : AV.set v p (.own S.H.length) = some v') :
    Weak kp N S ⟨S.s, ((S.H.set i .no).set j (.bx v')) ++ [B]⟩ := by
  intro c hc m w a hinv hs
  have hlt := (List.getElem?_eq_some_iff.1 hi).1
  have hjlt := (List.getElem?_eq_some_iff.1 hj).1
  have hext := Ext.push m (m.η i)
  have h1 : Inv c (m.push (m.η i)) w (S.H.set i .no ++ [B]) := by
    refine hinv.put (fun b => blk (m.η i) = some b) rfl rfl rfl (Nat.le_refl _) (fun b hb _ => rfl) (by simp) (fun k B' hk hl' => ?_) (fun k B' hk hl' => ?_) (fun b hb => ?_) ?_ (fun b _ hb => .inr hb)
    · rw [List.getElem?_set] at hk
      split at hk
      · cases hk; simp [Blk.live] at hl'
      · rename_i hne
        exact ⟨hk, fun b hb hb' => hne (hinv.disj i k B B' b hi hk hl hl' hb' hb)⟩
    · rw [List.getElem?_set] at hk
      split at hk
      · cases hk; exact .inr rfl
      · exact .inl hk
    · exact ⟨((hinv.ok i B hi).at hl hb).1, hinv.own i B b hi hl hb⟩
    · exact (hinv.ok i B hi).on (hext.M) (fun k hk => ⟨Nat.lt_of_lt_of_le (hinv.blk_lt hi k hk) hext.n, hext.η k (hinv.blk_lt hi k hk)⟩) (fun b hlb hb => ⟨((hinv.ok i B hi).at hlb hb).1, rfl⟩)
  refine ⟨m.push (m.η i), ?_, hs.mono hext⟩
  have hj1 : (S.H.set i .no ++ [B])[j]? = some (.bx v) := by
    rw [List.getElem?_append_left (by simpa using hjlt), List.getElem?_set, if_neg (fun h => hij h.symm)]; exact hj
  obtain ⟨b, cur, e, hd, hh, hM, hw, hcs, hcc⟩ := h1.ok _ _ hj1
  obtain ⟨k1, k2, k3, k4⟩ := AV.set_ok p v _ _ v' o hw hg ho hs' (by trivial) rfl
  have hold : ∀ j c', (AV.own i).cells[j]? = some c' → v.cells[o + j]? = some c' := (AV.get_ok p v _ o hw hg ho).2
  have := h1.upd (w' := w) (B1 := .bx v') hj1 rfl rfl rfl rfl rfl (fun _ _ => rfl) ⟨b, cur, e, hd, hh, hM, k1, by rw [hcs, k2], fun q d hq => by
    rw [k4 q] at hq
    by_cases hr : o ≤ q ∧ q < o + (AV.own S.H.length).cells.length
    · rw [if_pos hr] at hq
      have hq0 : q = o := by simp [AV.cells] at hr; omega
      subst hq0
      simp [AV.cells] at hq
      subst hq
      obtain ⟨u, hu, hru⟩ := hcc q (.own i) (by have := hold 0 (.own i) rfl; simpa using this)
      have he := hru.own_inv.1
      rw [hext.η i (by rw [hinv.len]; exact hlt)] at he
      subst he
      exact ⟨_, hu, push_own hinv.len _⟩
    · rw [if_neg hr] at hq
      exact hcc q d hq⟩
  rw [List.set_append_left _ _ (by simpa using hjlt)] at this
  exact this

/-- A block that is no longer needed. -/
theorem Weak.drop {kp N : Nat} {S : AS} (i : Nat) (B : Blk) (hi : S.H[i]? = some B) (hl : B.live = true) : Weak kp N S ⟨S.s, S.H.set i .no⟩ := by
  intro c hc m w a hinv hs
  exact ⟨m, hinv.upd (w' := w) hi hl rfl rfl rfl rfl (fun _ _ => rfl) trivial, hs⟩

end Go.Fw

end

section
/- A store on a disk: what is computed. Plain laws. -/
namespace Go.Fw
open Go
set_option linter.unusedVariables false
set_option linter.unusedSimpArgs false

/-- Sectors of the lists of so many slots. -/
def lstN (n : Nat) : Nat := (4 * (n + 1) + 127) / 128
def fitsN (sec n : Nat) : Bool := decide (1 + lstN (n + 1) + 2 * (n + 1) ≤ sec)
def sltN (sec : Nat) : Nat → Nat → Nat
  | 0, n => n
  | f + 1, n => if fitsN sec n = true then sltN sec f (n + 1) else n
/-- How many slots a disk has. -/
def slots (sec : Nat) : Nat := sltN sec sec 0
theorem sltN_le (sec : Nat) : ∀ f n, n ≤ sltN sec f n ∧ sltN sec f n ≤ n + f
  | 0, n => ⟨Nat.le_refl _, Nat.le_refl _⟩
  | f + 1, n => by
    unfold sltN
    split
    · have := sltN_le sec f (n + 1); omega
    · omega
theorem fitsN_lt {sec n : Nat} (h : fitsN sec n = true) : n < sec := by
  unfold fitsN at h
  have := of_decide_eq_true h
  omega
theorem slt_step {sec n : Nat} (h : n ≤ sec) (hf : fitsN sec n = true) : sltN sec (sec - n) n = sltN sec (sec - (n + 1)) (n + 1) := by
  have := fitsN_lt hf
  rw [show sec - n = (sec - (n + 1)) + 1 by omega, sltN, if_pos hf]
theorem slt_stop {sec n : Nat} (hf : fitsN sec n = false) : sltN sec (sec - n) n = n := by
  cases h : sec - n with
  | zero => rfl
  | succ f => rw [sltN, if_neg (by rw [hf]; simp)]
theorem sltN_fit (sec : Nat) : ∀ f n, (n = 0 ∨ fitsN sec (n - 1) = true) → sltN sec f n = 0 ∨ fitsN sec (sltN sec f n - 1) = true
  | 0, n, h => h
  | f + 1, n, h => by
    unfold sltN
    split
    · rename_i hf
      exact sltN_fit sec f (n + 1) (.inr (by simpa using hf))
    · exact h
/-- The slots and all that belongs to them lie on the disk. -/
theorem slots_fit {sec : Nat} (h : 0 < slots sec) : 1 + lstN (slots sec) + 2 * slots sec ≤ sec := by
  have := sltN_fit sec sec 0 (.inl rfl)
  unfold slots at h ⊢
  rcases this with h0 | h1
  · omega
  · unfold fitsN at h1
    have h2 := of_decide_eq_true h1
    rw [show sltN sec sec 0 - 1 + 1 = sltN sec sec 0 by omega] at h2
    exact h2

/-- A disk while calls are made, up to the first error. -/
structure TP where
  d : RD
  e : Int
def padS (b : List UInt8) : List UInt8 := b ++ List.replicate (128 - b.length) 0
theorem padS_len {b : List UInt8} (h : b.length ≤ 128) : (padS b).length = 128 := by simp [padS]; omega
def putT (t : TP) (i : Int) (b : List UInt8) : TP := if t.e = 0 then ⟨(putR t.d i (padS b)).1, (putR t.d i (padS b)).2⟩ else t
def syncT (t : TP) : TP := if t.e = 0 then ⟨(syncR t.d).1, (syncR t.d).2⟩ else t
def flagT (t : TP) (on : UInt8) : TP := syncT (putT t 0 [on])
/-- Sectors read, one behind the other, up to the first error. -/
def getT : Nat → Int → RD → Int → List UInt8 × Int
  | 0, _, _, e => ([], e)
  | n + 1, i, d, e => if e = 0 then ((getD d i).1 ++ (getT n (i + 1) d (getD d i).2).1, (getT n (i + 1) d (getD d i).2).2) else ([], e)
def numAt (b : List UInt8) (at_ : Nat) : Nat := num ((b.drop at_).take 4)
/-- The slots that the lists name. -/
def namN (b : List UInt8) (n : Nat) : Nat → Nat → List Nat → Option (List Nat)
  | 0, _, acc => some acc
  | f + 1, k, acc => if n ≤ numAt b (4 * (k + 1)) then none else namN b n f (k + 1) (acc ++ [numAt b (4 * (k + 1))])
def named (b : List UInt8) (n : Nat) : Option (List Nat) := if n < numAt b 0 then none else namN b n (numAt b 0) 0 []
/-- What slots had is given back. -/
def backN (n : Nat) : Nat → List Nat → TP → TP
  | _, [], t => t
  | k, i :: l, t => backN n (k + 1) l (putT ⟨t.d, (getT 1 ((1 + lstN n + n + k : Nat) : Int) t.d t.e).2⟩ ((1 + lstN n + i : Nat) : Int) (getT 1 ((1 + lstN n + n + k : Nat) : Int) t.d t.e).1)
def undoT (n : Nat) (t : TP) : TP :=
  let f := getT 1 0 t.d t.e
  if f.2 ≠ 0 ∨ f.1.getD 0 0 = 0 then ⟨t.d, f.2⟩
  else
    let l := getT (lstN n) 1 t.d f.2
    if l.2 ≠ 0 then ⟨t.d, l.2⟩
    else match named l.1 n with
      | none => ⟨t.d, 3⟩
      | some s => flagT (syncT (backN n 0 s ⟨t.d, l.2⟩)) 0

/-- A sector's part of bytes. -/
def partB (b : List UInt8) (i : Nat) : List UInt8 := (b.drop (128 * i)).take 128
theorem partB_len {b : List UInt8} {i : Nat} (h : 128 * (i + 1) ≤ b.length) : (partB b i).length = 128 := by
  unfold partB
  rw [List.length_take, List.length_drop]; omega
/-- An image as the slots' bytes. -/
def spreadB (n : Nat) (b : List UInt8) : List UInt8 := le 4 (b.length : Int) ++ b ++ List.replicate (n * 128 - 4 - b.length) 0
theorem spreadB_len {n : Nat} {b : List UInt8} (h : b.length + 4 ≤ n * 128) : (spreadB n b).length = n * 128 := by
  unfold spreadB
  simp [le_len]; omega
/-- The slots whose bytes are other ones. -/
def chgN (was want : List UInt8) (n : Nat) : List Nat := (List.range n).filter fun i => partB was i != partB want i
def oldN (n : Nat) (was : List UInt8) : Nat → List Nat → TP → TP
  | _, [], t => t
  | k, i :: l, t => oldN n was (k + 1) l (putT t ((1 + lstN n + n + k : Nat) : Int) (partB was i))
def newN (n : Nat) (want : List UInt8) : List Nat → TP → TP
  | [], t => t
  | i :: l, t => newN n want l (putT t ((1 + lstN n + i : Nat) : Int) (partB want i))
def lsN (b : List UInt8) : Nat → Nat → TP → TP
  | 0, _, t => t
  | m + 1, i, t => lsN b m (i + 1) (putT t ((1 + i : Nat) : Int) (partB b i))
/-- The lists' bytes. -/
def listB (n : Nat) (c : List Nat) : List UInt8 :=
  let l := le 4 (c.length : Int) ++ (c.map fun i : Nat => le 4 (i : Int)).flatten
  l ++ List.replicate (lstN n * 128 - l.length) 0
def turnT (n : Nat) (was want : List UInt8) (t : TP) : TP :=
  let c := chgN was want n
  if c = [] then t
  else flagT (syncT (newN n want c (flagT (syncT (lsN (listB n c) (lstN n) 0 (oldN n was 0 c t))) 1))) 0
def roomN (n : Nat) : Int := (n : Int) * 128 - 4
/-- A store: how many slots, the image, whether a call of it failed. -/
structure SS where
  n : Nat
  img : List UInt8
  broken : Bool
def saveS (s : SS) (d : RD) (b : List UInt8) : SS × RD × Int :=
  if roomN s.n < (b.length : Int) then (s, d, 4)
  else if s.broken = true then (s, d, 7)
  else
    let w := getT s.n ((1 + lstN s.n : Nat) : Int) d 0
    let t := if w.2 = 0 then turnT s.n w.1 (spreadB s.n b) ⟨d, 0⟩ else ⟨d, w.2⟩
    if t.e ≠ 0 then (⟨s.n, s.img, true⟩, t.d, t.e) else (⟨s.n, b, false⟩, t.d, 0)
def openS (d : RD) : Option SS × RD × Int :=
  let n := slots d.s.length
  if n = 0 then (none, d, 1)
  else
    let t := undoT n ⟨d, 0⟩
    let w := getT n ((1 + lstN n : Nat) : Int) t.d t.e
    if w.2 ≠ 0 then (none, t.d, w.2)
    else if roomN n < (numAt w.1 0 : Int) then (none, t.d, 3)
    else (some ⟨n, (w.1.drop 4).take (numAt w.1 0), false⟩, t.d, 0)

end Go.Fw

end

section
/- A store on a disk: what stays. Plain laws. -/
namespace Go.Fw
open Go
set_option linter.unusedVariables false
set_option linter.unusedSimpArgs false

/-- A disk that a store is on: good, and few writes are pending. -/
structure RD.few (d : RD) (w m : Nat) : Prop where
  g : d.good = true
  w : d.s.length = w
  p : d.p.length ≤ m
theorem rsp_off {l : Int} {off : Bool} (h : off = true → l = 0) : (rsp l off).2.1 = true → (rsp l off).1 = 0 := by
  unfold rsp
  cases off with
  | true => intro _; exact h rfl
  | false =>
    by_cases h0 : l = 0
    · subst h0; intro _; rfl
    · by_cases h1 : 0 < l <;> simp [h0, h1]
theorem rsp_rng {l : Int} {off : Bool} (h1 : -9223372036854775808 ≤ l) (h2 : l ≤ 9223372036854775807) : -9223372036854775808 ≤ (rsp l off).1 ∧ (rsp l off).1 ≤ 9223372036854775807 := by
  unfold rsp
  cases off with
  | true => exact ⟨h1, h2⟩
  | false =>
    by_cases h0 : l = 0
    · simp [h0]
    · by_cases h3 : 0 < l
      · simp [h0, h3]; omega
      · simp [h0, h3]; omega
theorem putR_few {d : RD} {w m : Nat} (h : d.few w m) (hm : m + 1 ≤ 99999) {i : Int} {b : List UInt8} : (putR d i b).1.few w (m + 1) := by
  obtain ⟨hg, hw, hp⟩ := h
  obtain ⟨hok, ho, h1, h2⟩ := good_iff.1 hg
  obtain ⟨q1, q2, q3, q4, q5⟩ := RD.ok_iff.1 hok
  unfold putR
  split
  · exact ⟨hg, hw, by show d.p.length ≤ m + 1; omega⟩
  · rename_i hc
    have ro := rsp_off ho
    have rr := rsp_rng (off := d.off) h1 h2
    split
    · exact ⟨good_iff.2 ⟨RD.ok_iff.2 ⟨q1, q2, q3, q4, q5⟩, ro, rr⟩, hw, by show d.p.length ≤ m + 1; omega⟩
    · refine ⟨good_iff.2 ⟨RD.ok_iff.2 ⟨?_, q2, ?_, q4, ?_⟩, ro, rr⟩, hw, ?_⟩
      · exact List.all_eq_true.2 (fun y hy => (List.mem_append.1 hy).elim (fun h => List.all_eq_true.1 q1 y h) (fun h => by simp at h; subst h; simp; omega))
      · exact List.all_eq_true.2 (fun y hy => (List.mem_append.1 hy).elim (fun h => List.all_eq_true.1 q3 y h) (fun h => by simp at h; subst h; simp; omega))
      · show (d.p ++ [(i, b)]).length ≤ 100000
        simp; omega
      · show (d.p ++ [(i, b)]).length ≤ m + 1
        simp; omega
theorem syncR_few {d : RD} {w m : Nat} (h : d.few w m) : (syncR d).1.few w m := by
  obtain ⟨hg, hw, hp⟩ := h
  obtain ⟨hok, ho, h1, h2⟩ := good_iff.1 hg
  obtain ⟨q1, q2, q3, q4, q5⟩ := RD.ok_iff.1 hok
  unfold syncR
  have ro := rsp_off ho
  have rr := rsp_rng (off := d.off) h1 h2
  split
  · exact ⟨good_iff.2 ⟨RD.ok_iff.2 ⟨q1, q2, q3, q4, q5⟩, ro, rr⟩, hw, by show d.p.length ≤ m; omega⟩
  · refine ⟨good_iff.2 ⟨RD.ok_iff.2 ⟨rfl, nowR_full hok, rfl, ?_, Nat.zero_le _⟩, ro, rr⟩, ?_, Nat.zero_le _⟩
    · show (nowR d).length ≤ 1000000
      rw [nowR_len]; exact q4
    · show (nowR d).length = w
      rw [nowR_len]; exact hw
theorem putT_few {t : TP} {w m : Nat} (h : t.d.few w m) (hm : m + 1 ≤ 99999) {i : Int} {b : List UInt8} : (putT t i b).d.few w (m + 1) := by
  unfold putT
  split
  · exact putR_few h hm
  · exact ⟨h.g, h.w, Nat.le_succ_of_le h.p⟩
theorem syncT_few {t : TP} {w m : Nat} (h : t.d.few w m) : (syncT t).d.few w m := by
  unfold syncT
  split
  · exact syncR_few h
  · exact h
theorem flagT_few {t : TP} {w m : Nat} (h : t.d.few w m) (hm : m + 1 ≤ 99999) {on : UInt8} : (flagT t on).d.few w (m + 1) := syncT_few (putT_few h hm)
theorem backN_few {n w : Nat} : ∀ (l : List Nat) (k m : Nat) (t : TP), t.d.few w m → m + l.length ≤ 99999 → (backN n k l t).d.few w (m + l.length)
  | [], k, m, t, h, _ => h
  | i :: l, k, m, t, h, hm => by
    rw [List.length_cons] at hm ⊢
    have := backN_few (n := n) l (k + 1) (m + 1) (putT ⟨t.d, (getT 1 ((1 + lstN n + n + k : Nat) : Int) t.d t.e).2⟩ ((1 + lstN n + i : Nat) : Int) (getT 1 ((1 + lstN n + n + k : Nat) : Int) t.d t.e).1) (putT_few (show (TP.mk t.d (getT 1 ((1 + lstN n + n + k : Nat) : Int) t.d t.e).2).d.few w m from h) (by omega)) (by omega)
    rw [show m + (l.length + 1) = m + 1 + l.length by omega]
    exact this
theorem oldN_few {n w : Nat} {was : List UInt8} : ∀ (l : List Nat) (k m : Nat) (t : TP), t.d.few w m → m + l.length ≤ 99999 → (oldN n was k l t).d.few w (m + l.length)
  | [], k, m, t, h, _ => h
  | i :: l, k, m, t, h, hm => by
    rw [List.length_cons] at hm ⊢
    have := oldN_few (n := n) (was := was) l (k + 1) (m + 1) _ (putT_few (i := ((1 + lstN n + n + k : Nat) : Int)) (b := partB was i) h (by omega)) (by omega)
    rw [show m + (l.length + 1) = m + 1 + l.length by omega]
    exact this
theorem newN_few {n w : Nat} {want : List UInt8} : ∀ (l : List Nat) (m : Nat) (t : TP), t.d.few w m → m + l.length ≤ 99999 → (newN n want l t).d.few w (m + l.length)
  | [], m, t, h, _ => h
  | i :: l, m, t, h, hm => by
    rw [List.length_cons] at hm ⊢
    have := newN_few (n := n) (want := want) l (m + 1) _ (putT_few (i := ((1 + lstN n + i : Nat) : Int)) (b := partB want i) h (by omega)) (by omega)
    rw [show m + (l.length + 1) = m + 1 + l.length by omega]
    exact this
theorem lsN_few {b : List UInt8} {w : Nat} : ∀ (c i m : Nat) (t : TP), t.d.few w m → m + c ≤ 99999 → (lsN b c i t).d.few w (m + c)
  | 0, i, m, t, h, _ => h
  | c + 1, i, m, t, h, hm => by
    have := lsN_few (b := b) c (i + 1) (m + 1) _ (putT_few (i := ((1 + i : Nat) : Int)) (b := partB b i) h (by omega)) (by omega)
    rw [show m + (c + 1) = m + 1 + c by omega]
    exact this

/-! ### What is read. -/
def rdB : Nat → Int → RD → List UInt8
  | 0, _, _ => []
  | n + 1, i, d => (getD d i).1 ++ rdB n (i + 1) d
theorem getD_on {d : RD} (ho : d.off = false) {i : Int} (h0 : 0 ≤ i) (h1 : i < d.s.length) : getD d i = ((layP d.s d.p).getD i.toNat [], 0) := by
  unfold getD
  rw [if_neg (by omega), if_neg (by rw [ho]; simp)]
theorem getD_down {d : RD} (ho : d.off = true) {i : Int} (h0 : 0 ≤ i) (h1 : i < d.s.length) : getD d i = ([], 7) := by
  unfold getD
  rw [if_neg (by omega), if_pos ho]
theorem getT_err (n : Nat) (i : Int) (d : RD) {e : Int} (h : e ≠ 0) : getT n i d e = ([], e) := by
  cases n with
  | zero => rfl
  | succ n => rw [getT, if_neg h]
theorem getT_on {d : RD} (ho : d.off = false) : ∀ (n : Nat) (i : Int), 0 ≤ i → i + n ≤ d.s.length → getT n i d 0 = (rdB n i d, 0)
  | 0, i, _, _ => rfl
  | n + 1, i, h0, h1 => by
    have h := getD_on ho h0 (by omega)
    have ih := getT_on ho n (i + 1) (by omega) (by omega)
    rw [getT, if_pos rfl, rdB, h, ih]
theorem getT_down {d : RD} (ho : d.off = true) {n : Nat} (hn : 0 < n) {i : Int} (h0 : 0 ≤ i) (h1 : i < d.s.length) : getT n i d 0 = ([], 7) := by
  cases n with
  | zero => omega
  | succ n =>
    have h := getD_down ho h0 h1
    rw [getT, if_pos rfl, h, getT_err n _ d (by decide)]
    rfl
theorem getT_snoc (d : RD) : ∀ (n : Nat) (i e : Int), getT (n + 1) i d e = ((getT n i d e).1 ++ (if (getT n i d e).2 = 0 then (getD d (i + n)).1 else []), if (getT n i d e).2 = 0 then (getD d (i + n)).2 else (getT n i d e).2)
  | 0, i, e => by
    simp only [getT, Int.add_zero, Int.ofNat_zero, Int.natCast_zero]
    by_cases h : e = 0
    · simp [h]
    · simp [h]
  | n + 1, i, e => by
    by_cases h : e = 0
    · subst h
      have ih := getT_snoc d n (i + 1) (getD d i).2
      rw [getT, if_pos rfl, ih, getT, if_pos rfl]
      dsimp only
      rw [show i + 1 + (n : Int) = i + ((n + 1 : Nat) : Int) by omega, List.append_assoc]
    · rw [getT_err _ _ d h, getT_err _ _ d h]
      simp [h]
theorem now_len {d : RD} (h : d.good = true) {i : Nat} (hi : i < d.s.length) : ((layP d.s d.p).getD i []).length = 128 := by
  obtain ⟨hok, _⟩ := good_iff.1 h
  obtain ⟨_, q2, q3, _⟩ := RD.ok_iff.1 hok
  exact full128_get (layP_full d.p d.s q2 q3) (by rw [layP_len]; exact hi)
theorem getD_len {d : RD} (h : d.good = true) (i : Int) : (getD d i).1.length ≤ 128 ∧ ((getD d i).2 = 0 → (getD d i).1.length = 128) := by
  unfold getD
  split
  · exact ⟨Nat.zero_le _, fun h => by cases h⟩
  · split
    · exact ⟨Nat.zero_le _, fun h => by cases h⟩
    · have := now_len h (i := i.toNat) (by omega)
      exact ⟨Nat.le_of_eq this, fun _ => this⟩
theorem getT_len {d : RD} (h : d.good = true) : ∀ (n : Nat) (i e : Int), (getT n i d e).1.length ≤ 128 * n ∧ ((getT n i d e).2 = 0 → (getT n i d e).1.length = 128 * n)
  | 0, i, e => ⟨Nat.zero_le _, fun _ => rfl⟩
  | n + 1, i, e => by
    have ih := getT_len h n (i + 1) (getD d i).2
    have h1 := getD_len h i
    unfold getT
    split
    · dsimp only
      rw [List.length_append]
      refine ⟨by omega, fun he => ?_⟩
      have h2 := ih.2 he
      have h3 : (getD d i).2 = 0 := by
        by_cases hz : (getD d i).2 = 0
        · exact hz
        · rw [getT_err n _ d hz] at he; exact (hz he).elim
      have := h1.2 h3
      omega
    · exact ⟨Nat.zero_le _, fun he => by rename_i hne; exact (hne he).elim⟩

end Go.Fw

end

section
/- The document's store: what it computes is what the program's does. Plain laws. -/
namespace Go.Fw
open Go
set_option linter.unusedVariables false
set_option linter.unusedSimpArgs false

def putU (t : TP) (i : Int) (b : List UInt8) : TP := if t.e = 0 then ⟨(putR t.d i b).1, (putR t.d i b).2⟩ else t
theorem putU_pad (t : TP) (i : Int) (b : List UInt8) : putU t i (padS b) = putT t i b := rfl
theorem padS_full {b : List UInt8} (h : b.length = 128) : padS b = b := by unfold padS; simp [h]
theorem putU_full (t : TP) (i : Int) {b : List UInt8} (h : b.length = 128) : putU t i b = putT t i b := by rw [← putU_pad, padS_full h]
theorem putT_e {t : TP} (i : Int) (b : List UInt8) (h : t.e ≠ 0) : putT t i b = t := if_neg h
theorem syncT_e {t : TP} (h : t.e ≠ 0) : syncT t = t := if_neg h
theorem rsp_yes {l : Int} {off : Bool} (h : (rsp l off).2.2 = true) : (rsp l off).2.1 = false := by
  revert h
  unfold rsp
  cases off with
  | true => intro h; cases h
  | false =>
    by_cases h0 : l = 0
    · subst h0; intro h; cases h
    · by_cases h1 : 0 < l <;> simp [h0, h1]
theorem putR_on {d : RD} {i : Int} {b : List UInt8} (h : (putR d i b).2 = 0) : (putR d i b).1.off = false := by
  revert h
  unfold putR
  split
  · intro h; cases h
  · split
    · intro h; cases h
    · rename_i h1 h2
      intro _
      exact rsp_yes (by simpa using h2)
/-- As long as no call failed, the power holds. -/
def TP.on (t : TP) : Prop := t.e = 0 → t.d.off = false
theorem putT_on {t : TP} (h : t.on) (i : Int) (b : List UInt8) : (putT t i b).on := by
  unfold putT
  split
  · exact fun he => putR_on he
  · exact h
theorem syncT_on {t : TP} (h : t.on) : (syncT t).on := by
  unfold syncT
  split
  · intro he
    revert he
    unfold syncR
    split
    · intro he; cases he
    · rename_i h2
      intro _
      exact rsp_yes (by simpa using h2)
  · exact h
def backU (n : Nat) : Nat → List Nat → TP → TP
  | _, [], t => t
  | k, i :: l, t => if t.e = 0 then backU n (k + 1) l (putU t ((1 + lstN n + i : Nat) : Int) (rdB 1 ((1 + lstN n + n + k : Nat) : Int) t.d)) else t
theorem rdB_one {d : RD} (i : Int) : rdB 1 i d = (getD d i).1 := by simp [rdB]
theorem backN_e (n : Nat) : ∀ (l : List Nat) (k : Nat) (t : TP), t.e ≠ 0 → backN n k l t = t
  | [], _, _, _ => rfl
  | i :: l, k, t, h => by
    rw [backN, getT_err 1 _ t.d h, putT_e _ _ h]
    exact backN_e n l (k + 1) t h
theorem backN_U {n w : Nat} (hw : 1 + lstN n + 2 * n ≤ w) : ∀ (l : List Nat) (k m : Nat) (t : TP), t.d.few w m → t.on → k + l.length ≤ n → m + l.length ≤ 99999 → backN n k l t = backU n k l t
  | [], _, _, _, _, _, _, _ => rfl
  | i :: l, k, m, t, h, ho, hk, hm => by
    rw [List.length_cons] at hk hm
    by_cases he : t.e = 0
    · have hof := ho he
      have hg := getT_on hof 1 ((1 + lstN n + n + k : Nat) : Int) (by omega) (by rw [h.w]; omega)
      have hr : (rdB 1 ((1 + lstN n + n + k : Nat) : Int) t.d).length = 128 := by
        rw [rdB_one]
        exact (getD_len h.g _).2 (by rw [getD_on hof (by omega) (by rw [h.w]; omega)])
      rw [backN, backU, if_pos he, he, hg, ← he]
      show backN n (k + 1) l (putT t _ _) = _
      rw [putU_full t _ hr]
      exact backN_U hw l (k + 1) (m + 1) _ (putT_few h (by omega)) (putT_on ho _ _) (by omega) (by omega)
    · rw [backN_e n _ k t he, backU, if_neg he]

/-- What an opening does first, as the document says. -/
def backD (n : Nat) (d : RD) : TP :=
  let f := getD d 0
  if f.2 ≠ 0 ∨ f.1.getD 0 0 = 0 then ⟨d, f.2⟩
  else match named (rdB (lstN n) 1 d) n with
    | none => ⟨d, 3⟩
    | some s => flagT (syncT (backU n 0 s ⟨d, 0⟩)) 0
theorem namN_len {b : List UInt8} {n : Nat} : ∀ (f k : Nat) (acc s : List Nat), namN b n f k acc = some s → s.length = acc.length + f
  | 0, _, acc, s, h => by cases h; rfl
  | f + 1, k, acc, s, h => by
    unfold namN at h
    split at h
    · cases h
    · have := namN_len f (k + 1) _ s h
      rw [this, List.length_append]; simp; omega
theorem named_len {b : List UInt8} {n : Nat} {s : List Nat} (h : named b n = some s) : s.length ≤ n := by
  unfold named at h
  split at h
  · cases h
  · have := namN_len _ _ _ _ h
    simp at this; omega
theorem undo_back {d : RD} {n w m : Nat} (h : d.few w m) (hn : 0 < n) (hw : 1 + lstN n + 2 * n ≤ w) (hm : m + n ≤ 99999) : undoT n ⟨d, 0⟩ = backD n d := by
  have hlp : 0 < lstN n := by unfold lstN; omega
  unfold undoT backD
  dsimp only
  have e1 : getT 1 0 d 0 = ((getD d 0).1, (getD d 0).2) := by simp [getT]
  rw [e1]
  dsimp only
  split
  · rfl
  · rename_i hc
    have hf0 : (getD d 0).2 = 0 := by
      by_cases hz : (getD d 0).2 = 0
      · exact hz
      · exact (hc (.inl hz)).elim
    have hof : d.off = false := by
      cases ho : d.off with
      | false => rfl
      | true => rw [getD_down ho (by omega) (by rw [h.w]; omega)] at hf0; cases hf0
    rw [hf0, getT_on hof (lstN n) 1 (by omega) (by rw [h.w]; omega)]
    dsimp only
    rw [if_neg (by simp)]
    cases hnm : named (rdB (lstN n) 1 d) n with
    | none => rfl
    | some s =>
      dsimp only
      have hs := named_len hnm
      rw [backN_U hw s 0 m ⟨d, 0⟩ h (fun _ => hof) (by omega) (by omega)]

/-! ### Step by step. -/
theorem oldN_snoc (n : Nat) (was : List UInt8) (x : Nat) : ∀ (l : List Nat) (k : Nat) (t : TP), oldN n was k (l ++ [x]) t = putT (oldN n was k l t) ((1 + lstN n + n + (k + l.length) : Nat) : Int) (partB was x)
  | [], k, t => rfl
  | i :: l, k, t => by
    rw [List.cons_append, oldN, oldN_snoc n was x l (k + 1), oldN, List.length_cons]
    congr 2
    omega
theorem newN_snoc (n : Nat) (want : List UInt8) (x : Nat) : ∀ (l : List Nat) (t : TP), newN n want (l ++ [x]) t = putT (newN n want l t) ((1 + lstN n + x : Nat) : Int) (partB want x)
  | [], t => rfl
  | i :: l, t => by rw [List.cons_append, newN, newN_snoc n want x l, newN]
theorem lsN_snoc (b : List UInt8) : ∀ (m i : Nat) (t : TP), lsN b (m + 1) i t = putT (lsN b m i t) ((1 + (i + m) : Nat) : Int) (partB b (i + m))
  | 0, i, t => rfl
  | m + 1, i, t => by
    rw [lsN, lsN_snoc b m (i + 1), lsN]
    rw [show i + 1 + m = i + (m + 1) by omega]
theorem backN_snoc (n : Nat) (x : Nat) : ∀ (l : List Nat) (k : Nat) (t : TP), backN n k (l ++ [x]) t = (let u := backN n k l t; let g := getT 1 ((1 + lstN n + n + (k + l.length) : Nat) : Int) u.d u.e; putT ⟨u.d, g.2⟩ ((1 + lstN n + x : Nat) : Int) g.1)
  | [], k, t => rfl
  | i :: l, k, t => by
    rw [List.cons_append, backN, backN_snoc n x l (k + 1), backN, List.length_cons]
    rw [show k + 1 + l.length = k + (l.length + 1) by omega]
theorem chgN_succ (was want : List UInt8) (n : Nat) : chgN was want (n + 1) = chgN was want n ++ (if partB was n != partB want n then [n] else []) := by
  unfold chgN
  rw [List.range_succ, List.filter_append, List.filter_cons, List.filter_nil]
theorem chgN_le (was want : List UInt8) (n : Nat) : (chgN was want n).length ≤ n := by
  unfold chgN
  exact Nat.le_trans (List.length_filter_le _ _) (by simp)
theorem chgN_lt {was want : List UInt8} {n i : Nat} (h : i ∈ chgN was want n) : i < n := by
  unfold chgN at h
  rw [List.mem_filter, List.mem_range] at h
  exact h.1
theorem listB_len {n : Nat} {c : List Nat} (h : c.length ≤ n) : (listB n c).length = lstN n * 128 := by
  have hf : ((c.map fun i : Nat => le 4 (i : Int)).flatten).length = 4 * c.length := by
    clear h
    induction c with
    | nil => rfl
    | cons x c ih => rw [List.map_cons, List.flatten_cons, List.length_append, ih, le_len, List.length_cons]; omega
  unfold listB
  dsimp only
  rw [List.length_append, List.length_append, hf, le_len, List.length_replicate]
  have : 4 + 4 * c.length ≤ lstN n * 128 := by unfold lstN; omega
  omega
/-! ### What a save comes to. -/
theorem saveS_on {s : SS} {d : RD} {b : List UInt8} (h1 : ¬ roomN s.n < (b.length : Int)) (h2 : s.broken = false) (ho : d.off = false) (hw : 1 + lstN s.n + s.n ≤ d.s.length) :
    saveS s d b = (let t := turnT s.n (rdB s.n ((1 + lstN s.n : Nat) : Int) d) (spreadB s.n b) ⟨d, 0⟩; if t.e ≠ 0 then (⟨s.n, s.img, true⟩, t.d, t.e) else (⟨s.n, b, false⟩, t.d, 0)) := by
  unfold saveS
  rw [if_neg h1, if_neg (by rw [h2]; simp), getT_on ho s.n _ (by omega) (by omega)]
  dsimp only
  rw [if_pos rfl]
theorem saveS_down {s : SS} {d : RD} {b : List UInt8} (h1 : ¬ roomN s.n < (b.length : Int)) (ho : d.off = true) (hn : 0 < s.n) (hw : 1 + lstN s.n + s.n ≤ d.s.length) : saveS s d b = (⟨s.n, s.img, true⟩, d, 7) := by
  unfold saveS
  rw [if_neg h1]
  split
  · rename_i h
    obtain ⟨n, i, br⟩ := s
    dsimp only at h
    rw [h]
  · rw [getT_down ho hn (by omega) (by omega)]
    rfl

end Go.Fw

end

section
/- A store on a disk whose power holds: what is saved is opened. Plain laws. -/
namespace Go.Fw
open Go
set_option linter.unusedVariables false
set_option linter.unusedSimpArgs false

/-- What is read of a disk. -/
def NW (d : RD) : List (List UInt8) := layP d.s d.p
theorem NW_len (d : RD) : (NW d).length = d.s.length := layP_len _ _
/-- The power holds, and no fuse is laid. -/
structure Well (t : TP) (w m : Nat) : Prop where
  f : t.d.few w m
  e : t.e = 0
  o : t.d.off = false
  l : t.d.l < 0
theorem rsp_well {l : Int} (h : l < 0) : rsp l false = (l, false, true) := by
  unfold rsp
  rw [if_neg (by simp), if_neg (by omega), if_neg (by omega)]
theorem put_well {t : TP} {w m : Nat} (h : Well t w m) (hm : m + 1 ≤ 99999) {i : Int} (h0 : 0 ≤ i) (h1 : i < w) {b : List UInt8} (hb : b.length ≤ 128) : Well (putT t i b) w (m + 1) ∧ NW (putT t i b).d = (NW t.d).set i.toNat (padS b) := by
  have hf := putT_few h.f hm (i := i) (b := b)
  have hp : putR t.d i (padS b) = (⟨t.d.s, t.d.p ++ [(i, padS b)], t.d.l, false⟩, 0) := by
    unfold putR
    rw [if_neg (by rw [padS_len hb, h.f.w]; omega), h.o, rsp_well h.l]
    rfl
  have e : putT t i b = ⟨⟨t.d.s, t.d.p ++ [(i, padS b)], t.d.l, false⟩, 0⟩ := by
    unfold putT
    rw [if_pos h.e, hp]
  rw [e] at hf ⊢
  exact ⟨⟨hf, rfl, rfl, h.l⟩, layP_snoc _ _ _⟩
theorem sync_well {t : TP} {w m : Nat} (h : Well t w m) : Well (syncT t) w m ∧ NW (syncT t).d = NW t.d ∧ (syncT t).d.p = [] := by
  have hf := syncT_few h.f
  have hn := nowR_lay (good_iff.1 h.f.g).1
  have e : syncT t = ⟨⟨NW t.d, [], t.d.l, false⟩, 0⟩ := by
    unfold syncT syncR
    rw [if_pos h.e, h.o, rsp_well h.l]
    dsimp only
    rw [if_neg (by simp), hn]
    rfl
  rw [e] at hf ⊢
  exact ⟨⟨hf, rfl, rfl, h.l⟩, rfl, rfl⟩
theorem flag_well {t : TP} {w m : Nat} (h : Well t w m) (hm : m + 1 ≤ 99999) (hw : 0 < w) (on : UInt8) : Well (flagT t on) w (m + 1) ∧ NW (flagT t on).d = (NW t.d).set 0 (padS [on]) ∧ (flagT t on).d.p = [] := by
  obtain ⟨h1, h2⟩ := put_well h hm (i := 0) (by omega) (by omega) (b := [on]) (by simp)
  obtain ⟨h3, h4, h5⟩ := sync_well h1
  exact ⟨h3, by unfold flagT; rw [h4, h2]; rfl, h5⟩
/-- Many writes, at other places than one. -/
theorem oldN_well {n w : Nat} {was : List UInt8} (hl : was.length = n * 128) (hw : 1 + lstN n + 2 * n ≤ w) : ∀ (l : List Nat) (k m : Nat) (t : TP), Well t w m → k + l.length ≤ n → m + l.length ≤ 99999 → (∀ i ∈ l, i < n) →
    Well (oldN n was k l t) w (m + l.length) ∧ ∀ q, q < 1 + lstN n + n → (NW (oldN n was k l t).d).getD q [] = (NW t.d).getD q []
  | [], k, m, t, h, _, _, _ => ⟨h, fun _ _ => rfl⟩
  | i :: l, k, m, t, h, hk, hm, hi => by
    rw [List.length_cons] at hk hm ⊢
    have hil := hi i (by simp)
    have hpl : (partB was i).length = 128 := partB_len (by rw [hl]; omega)
    obtain ⟨h1, h2⟩ := put_well h (by omega) (i := ((1 + lstN n + n + k : Nat) : Int)) (by omega) (by omega) (b := partB was i) (by omega)
    obtain ⟨h3, h4⟩ := oldN_well hl hw l (k + 1) (m + 1) _ h1 (by omega) (by omega) (fun j hj => hi j (by simp [hj]))
    rw [show m + (l.length + 1) = m + 1 + l.length by omega]
    refine ⟨h3, fun q hq => ?_⟩
    rw [oldN, h4 q hq, h2, getD_set_ne (by omega)]
theorem lsN_well {n w : Nat} {b : List UInt8} (hw : 1 + lstN n + 2 * n ≤ w) : ∀ (c i m : Nat) (t : TP), Well t w m → i + c ≤ lstN n → 128 * (i + c) ≤ b.length → m + c ≤ 99999 →
    Well (lsN b c i t) w (m + c) ∧ ∀ q, (q = 0 ∨ 1 + lstN n ≤ q) → (NW (lsN b c i t).d).getD q [] = (NW t.d).getD q []
  | 0, i, m, t, h, _, _, _ => ⟨h, fun _ _ => rfl⟩
  | c + 1, i, m, t, h, hk, hl, hm => by
    have hpl : (partB b i).length = 128 := partB_len (by omega)
    obtain ⟨h1, h2⟩ := put_well h (by omega) (i := ((1 + i : Nat) : Int)) (by omega) (by omega) (b := partB b i) (by omega)
    obtain ⟨h3, h4⟩ := lsN_well (b := b) hw c (i + 1) (m + 1) _ h1 (by omega) (by omega) (by omega)
    rw [show m + (c + 1) = m + 1 + c by omega]
    refine ⟨h3, fun q hq => ?_⟩
    rw [lsN, h4 q hq, h2, getD_set_ne (by omega)]
theorem newN_well {n w : Nat} {want : List UInt8} (hl : want.length = n * 128) (hw : 1 + lstN n + 2 * n ≤ w) : ∀ (l : List Nat) (m : Nat) (t : TP), Well t w m → m + l.length ≤ 99999 → (∀ i ∈ l, i < n) →
    Well (newN n want l t) w (m + l.length) ∧ ∀ q, (NW (newN n want l t).d).getD q [] = if 1 + lstN n ≤ q ∧ q - (1 + lstN n) ∈ l then partB want (q - (1 + lstN n)) else (NW t.d).getD q []
  | [], m, t, h, _, _ => ⟨h, fun q => by rw [if_neg (by simp)]; rfl⟩
  | i :: l, m, t, h, hm, hi => by
    rw [List.length_cons] at hm ⊢
    have hil := hi i (by simp)
    have hpl : (partB want i).length = 128 := partB_len (by rw [hl]; omega)
    obtain ⟨h1, h2⟩ := put_well h (by omega) (i := ((1 + lstN n + i : Nat) : Int)) (by omega) (by omega) (b := partB want i) (by omega)
    obtain ⟨h3, h4⟩ := newN_well hl hw l (m + 1) _ h1 (by omega) (fun j hj => hi j (by simp [hj]))
    rw [show m + (l.length + 1) = m + 1 + l.length by omega]
    refine ⟨h3, fun q => ?_⟩
    rw [newN, h4 q, h2, padS_full hpl]
    by_cases hq : 1 + lstN n ≤ q ∧ q - (1 + lstN n) ∈ l
    · rw [if_pos hq, if_pos ⟨hq.1, List.mem_cons_of_mem _ hq.2⟩]
    · rw [if_neg hq]
      by_cases hqi : q = 1 + lstN n + i
      · subst hqi
        rw [if_pos ⟨by omega, by rw [show 1 + lstN n + i - (1 + lstN n) = i by omega]; simp⟩, show 1 + lstN n + i - (1 + lstN n) = i by omega, Int.toNat_natCast]
        have : 1 + lstN n + i < (NW t.d).length := by rw [NW_len, h.f.w]; omega
        simp [List.getD_eq_getElem?_getD, this]
      · rw [Int.toNat_natCast, getD_set_ne (by omega), if_neg]
        rintro ⟨a1, a2⟩
        rcases List.mem_cons.1 a2 with a3 | a3
        · exact hqi (by omega)
        · exact hq ⟨a1, a3⟩
/-- What stands in a store's sectors behind a save whose power holds. -/
theorem turn_well {n w m : Nat} {was want : List UInt8} {t : TP} (h : Well t w m) (hw : 1 + lstN n + 2 * n ≤ w) (hl1 : was.length = n * 128) (hl2 : want.length = n * 128) (hm : m + 2 * n + lstN n + 2 ≤ 99999)
    (h0 : ((NW t.d).getD 0 []).getD 0 0 = 0) (hs : ∀ i, i < n → (NW t.d).getD (1 + lstN n + i) [] = partB was i) :
    Well (turnT n was want t) w (m + 2 * n + lstN n + 2) ∧ ((NW (turnT n was want t).d).getD 0 []).getD 0 0 = 0 ∧ (∀ i, i < n → (NW (turnT n was want t).d).getD (1 + lstN n + i) [] = partB want i) ∧ (t.d.p = [] → (turnT n was want t).d.p = []) := by
  have hcl := chgN_le was want n
  have hcm : ∀ i ∈ chgN was want n, i < n := fun i hi => chgN_lt hi
  have hsame : ∀ i, i < n → i ∉ chgN was want n → partB was i = partB want i := fun i hi hn => by
    by_cases he : partB was i = partB want i
    · exact he
    · exact (hn (by unfold chgN; rw [List.mem_filter, List.mem_range]; exact ⟨hi, by rw [bne_iff_ne]; exact he⟩)).elim
  unfold turnT
  dsimp only
  by_cases hc : chgN was want n = []
  · rw [if_pos hc]
    refine ⟨⟨⟨h.f.g, h.f.w, Nat.le_trans h.f.p (by omega)⟩, h.e, h.o, h.l⟩, h0, fun i hi => ?_, fun h => h⟩
    rw [hs i hi]
    exact hsame i hi (by rw [hc]; simp)
  · rw [if_neg hc]
    have hbl := listB_len hcl
    generalize chgN was want n = c at *
    obtain ⟨a1, a2⟩ := oldN_well (was := was) hl1 hw c 0 m t h (by omega) (by omega) hcm
    obtain ⟨b1, b2⟩ := lsN_well (b := listB n c) hw (lstN n) 0 _ _ a1 (by omega) (by omega) (by omega)
    obtain ⟨c1, c2, _⟩ := sync_well b1
    obtain ⟨d1, d2, _⟩ := flag_well c1 (by omega) (by omega) 1
    obtain ⟨e1, e2⟩ := newN_well (want := want) hl2 hw c _ _ d1 (by omega) hcm
    obtain ⟨f1, f2, _⟩ := sync_well e1
    obtain ⟨g1, g2, g3⟩ := flag_well f1 (by omega) (by omega) 0
    refine ⟨⟨⟨g1.f.g, g1.f.w, Nat.le_trans g1.f.p (by omega)⟩, g1.e, g1.o, g1.l⟩, ?_, fun i hi => ?_, fun _ => g3⟩
    · rw [g2]
      have : 0 < (NW (syncT (newN n want c (flagT (syncT (lsN (listB n c) (lstN n) 0 (oldN n was 0 c t))) 1))).d).length := by rw [NW_len, f1.f.w]; omega
      simp [List.getD_eq_getElem?_getD, this, padS]
    · rw [g2, getD_set_ne (by omega), f2, e2]
      rw [show 1 + lstN n + i - (1 + lstN n) = i by omega]
      by_cases hic : i ∈ c
      · rw [if_pos ⟨by omega, hic⟩]
      · rw [if_neg (fun h => hic h.2), d2, getD_set_ne (by omega), c2, b2 _ (.inr (by omega)), a2 _ (by omega), hs i hi]
        exact hsame i hi hic

/-! ### What is read of it. -/
theorem getD_NW {d : RD} (ho : d.off = false) {i : Nat} (h1 : i < d.s.length) : getD d (i : Int) = ((NW d).getD i [], 0) := by
  rw [getD_on ho (by omega) (by omega), Int.toNat_natCast]; rfl
theorem NW_128 {d : RD} (h : d.good = true) {i : Nat} (hi : i < d.s.length) : ((NW d).getD i []).length = 128 := now_len h hi
theorem rdB_len {d : RD} (h : d.good = true) (ho : d.off = false) : ∀ (c i : Nat), i + c ≤ d.s.length → (rdB c (i : Int) d).length = c * 128
  | 0, _, _ => by simp [rdB]
  | c + 1, i, hi => by
    have ih := rdB_len h ho c (i + 1) (by omega)
    rw [rdB, getD_NW ho (by omega), List.length_append]
    dsimp only
    rw [NW_128 h (by omega), show ((i : Int) + 1) = ((i + 1 : Nat) : Int) by omega, ih]
    omega
theorem rdB_part {d : RD} (h : d.good = true) (ho : d.off = false) : ∀ (c i k : Nat), i + c ≤ d.s.length → k < c → partB (rdB c (i : Int) d) k = (NW d).getD (i + k) []
  | 0, _, _, _, hk => by omega
  | c + 1, i, k, hi, hk => by
    have hl := NW_128 h (show i < d.s.length by omega)
    rw [rdB, getD_NW ho (by omega)]
    dsimp only
    rw [show ((i : Int) + 1) = ((i + 1 : Nat) : Int) by omega]
    cases k with
    | zero =>
      unfold partB
      rw [Nat.mul_zero, List.drop_zero, List.take_append_of_le_length (by omega), List.take_of_length_le (by omega)]
      rfl
    | succ k =>
      have ih := rdB_part h ho c (i + 1) k (by omega) (by omega)
      rw [show i + (k + 1) = i + 1 + k by omega, ← ih]
      have hd : ((NW d).getD i [] ++ rdB c ((i + 1 : Nat) : Int) d).drop 128 = rdB c ((i + 1 : Nat) : Int) d := by
        rw [List.drop_append_of_le_length (by omega), List.drop_of_length_le (by omega)]; rfl
      unfold partB
      rw [show 128 * (k + 1) = 128 + 128 * k by omega, ← List.drop_drop, hd]
theorem rdB_all {d : RD} {n f : Nat} {want : List UInt8} (ho : d.off = false) (hl : want.length = n * 128) (hf : f + n ≤ d.s.length) (hs : ∀ i, i < n → (NW d).getD (f + i) [] = partB want i) : ∀ c i, i + c = n → rdB c ((f + i : Nat) : Int) d = want.drop (128 * i)
  | 0, i, h => by rw [rdB, List.drop_of_length_le (by omega)]
  | c + 1, i, h => by
    have ih := rdB_all ho hl hf hs c (i + 1) (by omega)
    rw [rdB, getD_NW ho (by omega)]
    dsimp only
    rw [hs i (by omega), show (((f + i : Nat) : Int) + 1) = ((f + (i + 1) : Nat) : Int) by omega, ih]
    unfold partB
    rw [show 128 * (i + 1) = 128 * i + 128 by omega, ← List.drop_drop, List.take_append_drop]
/-- A store's disk: its flag is not set, and in its slots stand these bytes. -/
structure Holds (d : RD) (n : Nat) (want : List UInt8) : Prop where
  flag : ((NW d).getD 0 []).getD 0 0 = 0
  slot : ∀ i, i < n → (NW d).getD (1 + lstN n + i) [] = partB want i
theorem open_well {d : RD} {w m n : Nat} {want : List UInt8} (h : Well ⟨d, 0⟩ w m) (hn : slots w = n) (hn0 : 0 < n) (hh : Holds d n want) (hl : want.length = n * 128) (hr : ¬ roomN n < (numAt want 0 : Int)) :
    openS d = (some ⟨n, (want.drop 4).take (numAt want 0), false⟩, d, 0) := by
  have hw := slots_fit (sec := w) (by omega)
  rw [hn] at hw
  have hlen := h.f.w
  have ho : d.off = false := h.o
  dsimp only at hlen
  have hu : undoT n ⟨d, 0⟩ = ⟨d, 0⟩ := by
    unfold undoT
    dsimp only
    have e1 : getT 1 0 d 0 = ((NW d).getD 0 [], 0) := by
      rw [getT_on ho 1 0 (by omega) (by omega), rdB_one]
      have := getD_NW ho (i := 0) (by omega)
      rw [show ((0 : Nat) : Int) = 0 from rfl] at this
      rw [this]
    rw [e1]
    dsimp only
    rw [if_pos (.inr hh.flag)]
  have hg : getT n ((1 + lstN n : Nat) : Int) d 0 = (want, 0) := by
    rw [getT_on ho n _ (by omega) (by omega)]
    have := rdB_all ho hl (by omega) hh.slot n 0 (by omega)
    rw [Nat.add_zero, Nat.mul_zero, List.drop_zero] at this
    rw [this]
  unfold openS
  rw [hlen, hn]
  dsimp only
  rw [if_neg (by omega), hu]
  dsimp only
  rw [hg]
  dsimp only
  rw [if_neg (by simp), if_neg hr]
set_option maxHeartbeats 400000 in
theorem save_well {d : RD} {w m n : Nat} {b img : List UInt8} (h : Well ⟨d, 0⟩ w m) (hn : slots w = n) (hn0 : 0 < n) (hf : ((NW d).getD 0 []).getD 0 0 = 0) (hb : ¬ roomN n < (b.length : Int)) (hm : m + 2 * n + lstN n + 2 ≤ 99999) :
    ∃ d', saveS ⟨n, img, false⟩ d b = (⟨n, b, false⟩, d', 0) ∧ Well ⟨d', 0⟩ w (m + 2 * n + lstN n + 2) ∧ Holds d' n (spreadB n b) ∧ (d.p = [] → d'.p = []) := by
  have hw := slots_fit (sec := w) (by omega)
  rw [hn] at hw
  have hlen := h.f.w
  have ho : d.off = false := h.o
  dsimp only at hlen
  have hbl : b.length + 4 ≤ n * 128 := by unfold roomN at hb; omega
  rw [saveS_on (s := ⟨n, img, false⟩) hb rfl ho (by dsimp only; omega)]
  dsimp only
  obtain ⟨h1, h2, h3, h4⟩ := turn_well h hw (rdB_len h.f.g ho n (1 + lstN n) (by dsimp only; omega)) (spreadB_len hbl) hm hf (fun i hi => (rdB_part h.f.g ho n (1 + lstN n) i (by dsimp only; omega) hi).symm)
  generalize turnT n (rdB n ((1 + lstN n : Nat) : Int) d) (spreadB n b) ⟨d, 0⟩ = t at *
  have he := h1.e
  rw [if_neg (by rw [he]; simp)]
  refine ⟨t.d, rfl, ?_, ⟨h2, h3⟩, h4⟩
  obtain ⟨d', e'⟩ := t
  dsimp only at he
  subst he
  exact h1
theorem spread_num {n : Nat} {b : List UInt8} (h : b.length < 4294967296) : numAt (spreadB n b) 0 = b.length ∧ ((spreadB n b).drop 4).take b.length = b := by
  have hl := le_len 4 (b.length : Int)
  have hn := num_le 4 (b.length : Int) (by omega) (by simp; omega)
  unfold numAt spreadB
  rw [List.drop_zero, List.append_assoc, List.take_append_of_le_length (by omega), List.take_of_length_le (by omega)]
  refine ⟨by omega, ?_⟩
  rw [List.drop_append_of_le_length (by omega), List.drop_of_length_le (by omega), List.nil_append, List.take_append_of_le_length (by omega), List.take_of_length_le (by omega)]
/-- What was saved is opened. -/
theorem save_open {d : RD} {w m n : Nat} {b img : List UInt8} (h : Well ⟨d, 0⟩ w m) (hn : slots w = n) (hn0 : 0 < n) (hn1 : n ≤ 1000000) (hf : ((NW d).getD 0 []).getD 0 0 = 0) (hb : ¬ roomN n < (b.length : Int)) (hm : m + 2 * n + lstN n + 2 ≤ 99999) :
    ∃ d', saveS ⟨n, img, false⟩ d b = (⟨n, b, false⟩, d', 0) ∧ Well ⟨d', 0⟩ w (m + 2 * n + lstN n + 2) ∧ Holds d' n (spreadB n b) ∧ openS d' = (some ⟨n, b, false⟩, d', 0) ∧ (d.p = [] → d'.p = []) := by
  obtain ⟨d', h1, h2, h3, h4⟩ := save_well (img := img) h hn hn0 hf hb hm
  have hbl : b.length + 4 ≤ n * 128 := by unfold roomN at hb; omega
  obtain ⟨s1, s2⟩ := spread_num (n := n) (b := b) (by omega)
  have := open_well h2 hn hn0 h3 (spreadB_len hbl) (by rw [s1]; exact hb)
  rw [s1, s2] at this
  exact ⟨d', h1, h2, h3, this, h4⟩

/-! ### Opened once more. -/
theorem namN_lt {b : List UInt8} {n : Nat} : ∀ (f k : Nat) (acc s : List Nat), (∀ i ∈ acc, i < n) → namN b n f k acc = some s → ∀ i ∈ s, i < n
  | 0, _, acc, s, ha, h => by cases h; exact ha
  | f + 1, k, acc, s, ha, h => by
    unfold namN at h
    split at h
    · cases h
    · rename_i hlt
      refine namN_lt f (k + 1) _ s (fun i hi => ?_) h
      rcases List.mem_append.1 hi with hi | hi
      · exact ha i hi
      · simp at hi; omega
theorem named_lt {b : List UInt8} {n : Nat} {s : List Nat} (h : named b n = some s) : ∀ i ∈ s, i < n := by
  unfold named at h
  split at h
  · cases h
  · exact namN_lt _ _ _ _ (by simp) h
theorem backN_well {n w : Nat} (hw : 1 + lstN n + 2 * n ≤ w) : ∀ (l : List Nat) (k m : Nat) (t : TP), Well t w m → k + l.length ≤ n → m + l.length ≤ 99999 → (∀ i ∈ l, i < n) → Well (backN n k l t) w (m + l.length)
  | [], k, m, t, h, _, _, _ => h
  | i :: l, k, m, t, h, hk, hm, hi => by
    rw [List.length_cons] at hk hm ⊢
    have hil := hi i (by simp)
    have hlen := h.f.w
    have hg := getT_on h.o 1 ((1 + lstN n + n + k : Nat) : Int) (by omega) (by omega)
    have hr : (rdB 1 ((1 + lstN n + n + k : Nat) : Int) t.d).length = 128 := by
      have := rdB_len h.f.g h.o 1 (1 + lstN n + n + k) (by omega)
      omega
    rw [backN, h.e, hg]
    dsimp only
    have ht : (⟨t.d, 0⟩ : TP) = t := by obtain ⟨d, e⟩ := t; have := h.e; dsimp only at this; rw [this]
    rw [ht]
    obtain ⟨h1, _⟩ := put_well h (by omega) (i := ((1 + lstN n + i : Nat) : Int)) (by omega) (by omega) (b := rdB 1 ((1 + lstN n + n + k : Nat) : Int) t.d) (by omega)
    have := backN_well hw l (k + 1) (m + 1) _ h1 (by omega) (by omega) (fun j hj => hi j (by simp [hj]))
    rw [show m + (l.length + 1) = m + 1 + l.length by omega]
    exact this
theorem undo_zero {d : RD} {w m n : Nat} (h : Well ⟨d, 0⟩ w m) (hw : 0 < w) (hf : ((NW d).getD 0 []).getD 0 0 = 0) : undoT n ⟨d, 0⟩ = ⟨d, 0⟩ := by
  have hlen := h.f.w
  have ho : d.off = false := h.o
  dsimp only at hlen
  unfold undoT
  dsimp only
  have e1 : getT 1 0 d 0 = ((NW d).getD 0 [], 0) := by
    rw [getT_on ho 1 0 (by omega) (by omega), rdB_one]
    have := getD_NW ho (i := 0) (by omega)
    rw [show ((0 : Nat) : Int) = 0 from rfl] at this
    rw [this]
  rw [e1]
  dsimp only
  rw [if_pos (.inr hf)]
/-- Behind an opening that was not refused for what the lists name, the flag is not set. -/
theorem undo_well {d : RD} {w m n : Nat} (h : Well ⟨d, 0⟩ w m) (hn : 0 < n) (hw : 1 + lstN n + 2 * n ≤ w) (hm : m + n + 1 ≤ 99999) :
    (undoT n ⟨d, 0⟩ = ⟨d, 3⟩) ∨ (Well (undoT n ⟨d, 0⟩) w (m + n + 1) ∧ ((NW (undoT n ⟨d, 0⟩).d).getD 0 []).getD 0 0 = 0) := by
  have hlen := h.f.w
  have ho : d.off = false := h.o
  dsimp only at hlen
  by_cases hf : ((NW d).getD 0 []).getD 0 0 = 0
  · rw [undo_zero h (by omega) hf]
    exact .inr ⟨⟨⟨h.f.g, h.f.w, Nat.le_trans h.f.p (by omega)⟩, h.e, h.o, h.l⟩, hf⟩
  have e1 : getT 1 0 d 0 = ((NW d).getD 0 [], 0) := by
    rw [getT_on ho 1 0 (by omega) (by omega), rdB_one]
    have := getD_NW ho (i := 0) (by omega)
    rw [show ((0 : Nat) : Int) = 0 from rfl] at this
    rw [this]
  have e2 := getT_on ho (lstN n) 1 (by omega) (by omega)
  unfold undoT
  dsimp only
  rw [e1]
  dsimp only
  rw [if_neg (by rintro (h | h); · exact h rfl
                 · exact hf h), e2]
  dsimp only
  rw [if_neg (by simp)]
  cases hnm : named (rdB (lstN n) 1 d) n with
  | none => exact .inl rfl
  | some s =>
    dsimp only
    have hs := named_len hnm
    have h1 := backN_well hw s 0 m ⟨d, 0⟩ h (by omega) (by omega) (named_lt hnm)
    obtain ⟨h2, h3, _⟩ := sync_well h1
    obtain ⟨h4, h5, _⟩ := flag_well h2 (by omega) (by omega) 0
    refine .inr ⟨⟨⟨h4.f.g, h4.f.w, Nat.le_trans h4.f.p (by omega)⟩, h4.e, h4.o, h4.l⟩, ?_⟩
    rw [h5]
    have : 0 < (NW (syncT (backN n 0 s ⟨d, 0⟩)).d).length := by rw [NW_len, h2.f.w]; omega
    simp [List.getD_eq_getElem?_getD, this, padS]
theorem open_again {d : RD} {w m : Nat} (h : Well ⟨d, 0⟩ w m) (hm : m + w + 1 ≤ 99999) : openS (openS d).2.1 = (openS d) := by
  have hlen := h.f.w
  dsimp only at hlen
  by_cases hn : slots w = 0
  · unfold openS
    rw [hlen]
    dsimp only
    rw [if_pos hn]
    dsimp only
    rw [hlen, if_pos hn]
  have hw := slots_fit (sec := w) (by omega)
  generalize hsn : slots w = n at *
  have hn' : 0 < n := by omega
  rcases undo_well h hn' hw (by omega) with hu | ⟨h1, h2⟩
  · have e : openS d = (none, d, 3) := by
      unfold openS
      rw [hlen, hsn]
      dsimp only
      rw [if_neg hn, hu]
      dsimp only
      rw [getT_err n _ d (by decide)]
      dsimp only
      rw [if_pos (by decide)]
    rw [e]
    exact e
  · generalize hT : undoT n ⟨d, 0⟩ = t at *
    obtain ⟨d', e'⟩ := t
    have he : e' = 0 := h1.e
    subst he
    have hlen' := h1.f.w
    dsimp only at hlen' h2
    have e1 : (openS d).2.1 = d' := by
      unfold openS
      rw [hlen, hsn]
      dsimp only
      rw [if_neg hn, hT]
      dsimp only
      split
      · rfl
      · split <;> rfl
    rw [e1]
    unfold openS
    rw [hlen, hlen', hsn]
    dsimp only
    rw [if_neg hn, if_neg hn, hT, undo_zero h1 (by omega) h2]

/-! ### A fresh disk. -/
theorem NW_new (n : Nat) : NW (newD n) = List.replicate n (zby 128) := rfl
theorem newD_well {n : Nat} (h0 : n ≤ 8192) : Well ⟨newD n, 0⟩ n 0 := by
  refine ⟨⟨good_iff.2 ⟨RD.ok_iff.2 ⟨rfl, ?_, rfl, ?_, Nat.zero_le _⟩, (fun h => by cases h), by show (-9223372036854775808 : Int) ≤ -1; omega, by show (-1 : Int) ≤ 9223372036854775807; omega⟩, ?_, Nat.le_refl _⟩, rfl, rfl, by show (-1 : Int) < 0; omega⟩
  · unfold full128 newD
    rw [List.all_eq_true]
    intro x hx
    rw [List.eq_of_mem_replicate hx, zby128]; rfl
  · show (List.replicate n (zby 128)).length ≤ 1000000
    rw [List.length_replicate]; omega
  · show (List.replicate n (zby 128)).length = n
    rw [List.length_replicate]
theorem newD_holds {w n : Nat} (hw : 1 + lstN n + 2 * n ≤ w) : Holds (newD w) n (List.replicate (n * 128) 0) := by
  refine ⟨?_, fun i hi => ?_⟩
  · rw [NW_new, List.getD_eq_getElem?_getD]
    simp [show 0 < w by omega, zby]
  · rw [NW_new, List.getD_eq_getElem?_getD, List.getElem?_replicate, if_pos (by omega)]
    unfold partB zby
    rw [List.drop_replicate, List.take_replicate]
    show List.replicate 128 0 = _
    congr 1
    omega
theorem newD_open {w n : Nat} (hw : w ≤ 8192) (hn : slots w = n) (hn0 : 0 < n) : openS (newD w) = (some ⟨n, [], false⟩, newD w, 0) := by
  have hf := slots_fit (sec := w) (by omega)
  rw [hn] at hf
  have hnum : numAt (List.replicate (n * 128) (0 : UInt8)) 0 = 0 := by
    unfold numAt
    rw [List.drop_zero, List.take_replicate, Nat.min_eq_left (by omega)]
    rfl
  have := open_well (newD_well hw) hn hn0 (newD_holds hf) (by simp) (by rw [hnum]; unfold roomN; omega)
  rw [hnum, List.take_zero] at this
  exact this
theorem NW_nil {d : RD} (h : d.p = []) : NW d = d.s := by unfold NW; rw [h]; rfl

end Go.Fw

end

section
/- Any order of a region: the rule, also where two operations write no slot. -/
namespace Go.Fw
set_option linter.unusedVariables false
set_option linter.unusedSimpArgs false
open Go

def depOk2 (ops : List Oper) : Bool :=
  (List.range ops.length).all fun j => match ops[j]? with
    | none => true
    | some o => (aft o).all (fun i => decide (i < j)) &&
      (List.range ops.length).all fun i => match ops[i]? with
        | none => true
        | some p => (decide (i = j) || decide (p.dst ≠ o.dst) || p.dst.isNone) &&
          (match p.dst with
            | none => true
            | some d => !((o.looksAt ops.toArray).contains d) || (decide (i < j) && (aft o).contains i) || (decide (j < i) && (aft p).contains j))

theorem depOk2_ok {ops : List Oper} (h : depOk2 ops = true) : DepOk ops := by
  simp only [depOk2, List.all_eq_true, List.mem_range] at h
  have get : ∀ (j : Nat) (o : Oper), ops[j]? = some o → j < ops.length := fun j o hj => (List.getElem?_eq_some_iff.1 hj).1
  refine ⟨fun j o i hj hi => ?_, fun i j p o d hi hj hp ho => ?_, fun i j p o d hi hj hp hd => ?_⟩
  · have := h j (get j o hj)
    rw [hj] at this
    simp only [Bool.and_eq_true, List.all_eq_true] at this
    simpa using this.1 i hi
  · have := h j (get j o hj)
    rw [hj] at this
    simp only [Bool.and_eq_true, List.all_eq_true, List.mem_range] at this
    have := this.2 i (get i p hi)
    rw [hi] at this
    simp only [Bool.and_eq_true, Bool.or_eq_true, decide_eq_true_eq] at this
    rcases this.1 with (h1 | h1) | h1
    · exact h1
    · exact (h1 (by rw [hp, ho])).elim
    · rw [hp] at h1; simp at h1
  · have := h j (get j o hj)
    rw [hj] at this
    simp only [Bool.and_eq_true, List.all_eq_true, List.mem_range] at this
    have := this.2 i (get i p hi)
    rw [hi] at this
    simp only [Bool.and_eq_true, hp] at this
    have h2 := this.2
    have hc : (o.looksAt ops.toArray).contains d = true := by simpa using hd
    rw [hc] at h2
    simp at h2
    rcases h2 with h2 | h2
    · exact .inl h2
    · exact .inr h2

def dOk2 (ops : List Oper) (fs : List Info) : Bool :=
  depOk2 ops && (fs.length == ops.length) && ((List.range ops.length).all fun j => match ops[j]?, fs[j]? with
    | some o, some f => f.looks.all (fun t => (o.looksAt ops.toArray).contains t) &&
      f.anc.all (fun a => (aft o).contains a || (aft o).any fun b => match fs[b]? with | some g => g.anc.contains a | none => false) &&
      (f.cls != 2 || (List.range ops.length).all fun k => (k == j) || match fs[k]? with
        | some g => (g.cls == 0) || (if k < j then f.anc.contains k else g.anc.contains j)
        | none => true) && decide (f.cls ≤ 2)
    | _, _ => false) && fs.all fun f => (f.cls != 0) || f.st.all fun i => fs.all fun g => (g.cls != 2) || g.st.contains i

theorem dOk2_ok {ops : List Oper} {fs : List Info} (h : dOk2 ops fs = true) : DOk ops fs := by
  unfold dOk2 at h
  rw [Bool.and_eq_true] at h
  obtain ⟨h, h5⟩ := h
  simp only [Bool.and_eq_true, beq_iff_eq, List.all_eq_true, List.mem_range] at h
  obtain ⟨⟨h1, h2⟩, h3⟩ := h
  have get : ∀ (j : Nat) (f : Info), fs[j]? = some f → j < ops.length := fun j f hj => by have := (List.getElem?_eq_some_iff.1 hj).1; omega
  have each : ∀ (j : Nat) (o : Oper) (f : Info), ops[j]? = some o → fs[j]? = some f → (((∀ t ∈ f.looks, (o.looksAt ops.toArray).contains t = true) ∧ (∀ a ∈ f.anc, ((aft o).contains a || (aft o).any fun b => match fs[b]? with | some g => g.anc.contains a | none => false) = true)) ∧
      (f.cls != 2 || (List.range ops.length).all fun k => (k == j) || match fs[k]? with
        | some g => (g.cls == 0) || (if k < j then f.anc.contains k else g.anc.contains j)
        | none => true) = true) ∧ f.cls ≤ 2 := by
    intro j o f ho hf
    have := h3 j (get j f hf)
    rw [ho, hf] at this
    simp only [Bool.and_eq_true, List.all_eq_true, decide_eq_true_eq] at this
    exact this
  refine ⟨depOk2_ok h1, h2, fun j o f ho hf t ht => ?_, fun j o f ho hf a ha => ?_, fun j f hf hc k g hg hg0 hkj => ?_, fun j f hj => ?_, fun j f hf hc i hi k g hg hgc => ?_⟩
  · have := (each j o f ho hf).1.1.1 t ht
    simpa using this
  · have := (each j o f ho hf).1.1.2 a ha
    simp only [Bool.or_eq_true, List.any_eq_true] at this
    rcases this with h | ⟨b, hb, h⟩
    · exact .inl (by simpa using h)
    · right
      cases hg : fs[b]? with
      | none => rw [hg] at h; simp at h
      | some g => rw [hg] at h; exact ⟨b, hb, g, hg, by simpa using h⟩
  · have hlt := get j f hf
    have := (each j _ f (List.getElem?_eq_getElem hlt) hf).1.2
    simp only [Bool.or_eq_true, bne_iff_ne, ne_eq, List.all_eq_true, List.mem_range, beq_iff_eq] at this
    rcases this with h | h
    · exact (h hc).elim
    · have h4 := h k (get k g hg)
      rcases h4 with h4 | h4
      · exact (hkj h4).elim
      · rw [hg] at h4
        simp only [Bool.or_eq_true, beq_iff_eq] at h4
        rcases h4 with h4 | h4
        · exact (hg0 h4).elim
        · split at h4
          · rename_i hlt'; exact .inl ⟨hlt', by simpa using h4⟩
          · exact .inr ⟨by omega, by simpa using h4⟩
  · have hlt := get j f hj
    exact (each j _ f (List.getElem?_eq_getElem hlt) hj).2
  · have h6 := List.all_eq_true.1 h5 f (List.mem_of_getElem? hf)
    rw [hc] at h6
    simp only [bne_self_eq_false, Bool.false_or] at h6
    have h7 := List.all_eq_true.1 (List.all_eq_true.1 h6 i hi) g (List.mem_of_getElem? hg)
    rw [hgc] at h7
    simpa using h7

section
variable {P : Program} {E : Env} {q : List TypeId} {gl : GCalls} {N : Nat} {ops : List Oper} {fs : List Info} {s0 sN : Slots} {H0 HN : List Blk}
theorem AWP.gdraw2 {kp : Nat} (hX : XOk P E q) (hcl : GClOk P gl) (keep : List Nat) (hmix : P.follows .mixedOrders = true) {id : Nat} {l : List Oper} (fs : List Info) (hdep : dOk2 l fs = true) {Q : Exit → AS → Prop} {S S' : AS}
    (h : drunP E q gl N keep l fs S = some S') (hQ : Q .normal S') : AWP kp P N (.region id l.toArray true) Q S := by
  unfold drunP at h
  split at h
  case h_2 => cases h
  rename_i S1 hq
  cases h
  have hd := dOk2_ok hdep
  obtain ⟨T⟩ := dt_of hd.len (sN := S1.s) (HN := S1.H) hq
  intro c hc m w a hi hs
  refine wp_region_any hmix ?_
  have hcount : countF (Array.replicate l.toArray.size false) = l.toArray.size := by simp [countF]
  have hfalse : ∀ k, (Array.replicate l.toArray.size false).getD k false = false := by
    intro k
    rw [Array.getD_eq_getD_getElem?, Array.getElem?_replicate]
    split <;> rfl
  obtain ⟨τ, t1, t2, t3, t4⟩ := next_turn fs l.length 0 (by omega)
  have hstill : ∀ k g, 0 ≤ k → k < τ → fs[k]? = some g → g.cls ≤ 1 := fun k g h1 h2 h3 => by
    have := hd.top k g h3; have := t3 k g h1 h2 h3; omega
  obtain ⟨R, hR⟩ := T.prefix_ hd 0 τ t2 t1 hstill
  have h00 : T.hp 0 = S.H := T.zero.2
  rw [h00] at hR
  obtain ⟨m2, e2, i2⟩ := hi.drawn.pad R.length
  have hck : c.k ≤ S.H.length := by
    rcases Nat.eq_zero_or_pos c.k with h0 | h0
    · omega
    · have := (hi.keep (c.k - 1) (by omega)).1; rw [hi.len] at this; omega
  refine d_order hX hcl hck T hd (fun t k hk => ?_) (fun m' w' a' h1 h2 => ⟨m', ⟨prune keep S1.s, S1.H⟩, h1, h2.prune keep, hQ⟩) _ _ a _ m2 0 τ _ (by simp) hcount ?_ i2 ?_ hs.1 hs.2.1 ?_ ?_
  · have := (hs.2.2 t).idxs_lt k hk
    rw [hi.len] at this; exact this
  · intro j o hj hl i _
    rw [hfalse] at hl; cases hl
  · refine ⟨t1, t2, fun k g _ _ hk => by omega, fun k g _ _ _ => hfalse k, hstill, t4, by rw [hR]; simp, fun i hi' => ?_, fun k i hk1 hk2 hi1 hi2 => ?_, fun i B hi' hB k hk => ?_⟩
    · rw [h00] at hi'
      rw [hR, List.getElem?_append_left hi', List.getElem?_append_left hi']
    · have g1 := T.mono hd 0 k (by omega) (by omega)
      have g2 := T.mono hd (k + 1) τ (by omega) t2
      rw [h00] at g1
      have g3 : (T.hp τ).length = S.H.length + R.length := by rw [hR]; simp
      rw [if_neg (by rw [hfalse]; simp), List.getElem?_append_right (by omega), List.getElem?_replicate, if_pos (by omega)]
    · rw [h00] at hB ⊢
      have := hi.blk_lt hB k hk
      rw [hi.len] at this; exact this
  · intro i o d hj hl _
    rw [hfalse] at hl; cases hl
  · intro t _
    exact (hs.2.2 t).mono e2

end
end Go.Fw

end
