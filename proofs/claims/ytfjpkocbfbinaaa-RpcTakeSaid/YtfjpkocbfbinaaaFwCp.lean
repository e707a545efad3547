/- The abstract machine, and the contracts of the code: part 46. -/
import Derived.Test.YtfjpkocbfbinaaaFwT
set_option linter.unusedVariables false
set_option linter.unusedSimpArgs false

section
namespace Go.Fw
open Go
def shrB : Nat → Int → Int
 | 0, x => x
 | k + 1, x => (shrB k x).fdiv 256
def le : Nat → Int → List UInt8
 | 0, _ => []
 | k + 1, x => le k x ++ [UInt8.ofNat (IntKind.u8.wrap (shrB k x)).toNat]
theorem le_len (k : Nat) (x : Int) : (le k x).length = k := by
 induction k with
 | zero => rfl
 | succ k ih => simp [le, ih]
theorem shrB_range (k : Nat) (x : Int) (h0 : 0 ≤ x) (h1 : x ≤ 18446744073709551615) : 0 ≤ shrB k x ∧ shrB k x ≤ 18446744073709551615 := by
 induction k with
 | zero => exact ⟨h0, h1⟩
 | succ k ih =>
   simp only [shrB]
   rw [Int.fdiv_eq_ediv_of_nonneg _ (by omega)]
   omega
theorem inK_u8 {n : Int} (h : inK .u8 n) : 0 ≤ n ∧ n ≤ 255 := by simpa [inK, IntKind.min, IntKind.max, IntKind.signed, IntKind.bits] using h
theorem inK_u16 {n : Int} (h : inK .u16 n) : 0 ≤ n ∧ n ≤ 65535 := by simpa [inK, IntKind.min, IntKind.max, IntKind.signed, IntKind.bits] using h
theorem inK_u32 {n : Int} (h : inK .u32 n) : 0 ≤ n ∧ n ≤ 4294967295 := by simpa [inK, IntKind.min, IntKind.max, IntKind.signed, IntKind.bits] using h
theorem inK_u64 {n : Int} (h : inK .u64 n) : 0 ≤ n ∧ n ≤ 18446744073709551615 := by simpa [inK, IntKind.min, IntKind.max, IntKind.signed, IntKind.bits] using h
theorem inK_i64 {n : Int} (h : inK .i64 n) : -9223372036854775808 ≤ n ∧ n ≤ 9223372036854775807 := by simpa [inK, IntKind.min, IntKind.max, IntKind.signed, IntKind.bits] using h
theorem wrap_u8 {n : Int} (h1 : 0 ≤ n) (h2 : n ≤ 255) : IntKind.u8.wrap n = n := by simp only [IntKind.wrap, IntKind.signed, IntKind.bits]; simp; omega
theorem wrap_u16 {n : Int} (h1 : 0 ≤ n) (h2 : n ≤ 65535) : IntKind.u16.wrap n = n := by simp only [IntKind.wrap, IntKind.signed, IntKind.bits]; simp; omega
theorem wrap_u32 {n : Int} (h1 : 0 ≤ n) (h2 : n ≤ 4294967295) : IntKind.u32.wrap n = n := by simp only [IntKind.wrap, IntKind.signed, IntKind.bits]; simp; omega
def sizeB (n : Int) : List UInt8 :=
 if n < 253 then le 1 n else if n < 65536 then le 1 253 ++ le 2 n else if n < 4294967296 then le 1 254 ++ le 4 n else le 1 255 ++ le 8 n
theorem sizeB_len (n : Int) : (sizeB n).length ≤ 9 := by
 unfold sizeB
 split
 · simp [le_len]
 · split
   · simp [le_len]
   · split <;> simp [le_len]
def flat : List (List UInt8) → List UInt8
 | [] => []
 | x :: l => sizeB x.length ++ x ++ flat l
theorem flat_snoc (l : List (List UInt8)) (x : List UInt8) : flat (l ++ [x]) = flat l ++ (sizeB x.length ++ x) := by
 induction l with
 | nil => simp [flat]
 | cons y l ih => simp [flat, ih]
def strs (l : List (List UInt8)) : T := .sq 1 (l.map .by)
def asBys : List T → Option (List (List UInt8))
 | [] => some []
 | .by l :: r => match asBys r with
   | some ls => some (l :: ls)
   | none => none
 | _ => none
theorem asBys_map (l : List (List UInt8)) : asBys (l.map .by) = some l := by
 induction l with
 | nil => rfl
 | cons x l ih => simp [asBys, ih]
theorem asBys_inv {xs : List T} {l : List (List UInt8)} (h : asBys xs = some l) : xs = l.map .by := by
 induction xs generalizing l with
 | nil => cases h; rfl
 | cons x xs ih =>
   unfold asBys at h
   split at h
   · rename_i heq; cases heq
   · rename_i y r heq
     cases heq
     split at h
     · rename_i ls hls; cases h; simp [ih hls]
     · cases h
   · cases h
theorem flat_take_len (l : List (List UInt8)) (k : Nat) : (flat (l.take k)).length ≤ (flat l).length := by
 induction l generalizing k with
 | nil => simp [flat]
 | cons x l ih =>
   cases k with
   | zero => simp [flat]
   | succ k => simp only [List.take_succ_cons, flat, List.length_append]; have := ih k; omega
theorem take_getD (l : List (List UInt8)) (k : Nat) (h : k < l.length) : l.take (k + 1) = l.take k ++ [l.getD k []] := by
 rw [List.take_succ_eq_append_getElem h]; simp [h]
theorem flat_take (l : List (List UInt8)) (k : Nat) (h : k < l.length) : flat (l.take (k + 1)) = flat (l.take k) ++ (sizeB (l.getD k []).length ++ l.getD k []) := by
 rw [take_getD l k h, flat_snoc]
theorem map_getD (l : List (List UInt8)) (k : Nat) (h : k < l.length) : (l.map T.by).getD k default = .by (l.getD k []) := by simp [h]
theorem flat_get_len (l : List (List UInt8)) (k : Nat) (h : k < l.length) : (flat (l.take k)).length + (l.getD k []).length ≤ (flat l).length := by
 have h1 := flat_take_len l (k + 1)
 rw [flat_take l k h] at h1
 simp only [List.length_append] at h1
 omega
theorem len_le_flat (l : List (List UInt8)) : l.length ≤ (flat l).length := by
 induction l with
 | nil => simp
 | cons x l ih =>
   have : 1 ≤ (sizeB x.length).length := by
     unfold sizeB
     split
     · simp [le_len]
     · split
       · simp [le_len]
       · split <;> simp [le_len]
   simp only [List.length_cons, flat, List.length_append]; omega
theorem tdiv_256 {n : Int} (h : 0 ≤ n) : n.tdiv 256 = n.fdiv 256 := by
 rw [Int.tdiv_eq_ediv_of_nonneg h, Int.fdiv_eq_ediv_of_nonneg _ (by omega)]
def spE (b : List UInt8) (n : Int) : Int := if n < 0 then 1 else if (b.length : Int) < n then 2 else 0
def spA (b : List UInt8) (n : Int) : List UInt8 := if n < 0 then [] else if (b.length : Int) < n then [] else b.take n.toNat
def spB (b : List UInt8) (n : Int) : List UInt8 := if n < 0 then [] else if (b.length : Int) < n then [] else b.drop n.toNat
theorem spA_len (b : List UInt8) (n : Int) : (spA b n).length ≤ b.length := by unfold spA; split <;> (try split) <;> simp <;> omega
theorem spB_len (b : List UInt8) (n : Int) : (spB b n).length ≤ b.length := by unfold spB; split <;> (try split) <;> simp
theorem spA_le (b : List UInt8) (n : Int) (m : Nat) (h : n ≤ m) : (spA b n).length ≤ m := by unfold spA; split <;> (try split) <;> simp <;> omega
def num : List UInt8 → Nat
 | [] => 0
 | c :: l => c.toNat + 256 * num l
theorem num_lt (l : List UInt8) : num l < 256 ^ l.length := by
 induction l with
 | nil => simp [num]
 | cons c l ih =>
   have hc : c.toNat < 256 := c.toNat_lt
   simp only [num, List.length_cons, Nat.pow_succ]
   omega
theorem num_lt8 (l : List UInt8) (h : l.length ≤ 8) : num l ≤ 18446744073709551615 := by
 have h1 := num_lt l
 have h2 : 256 ^ l.length ≤ 256 ^ 8 := Nat.pow_le_pow_right (by omega) h
 have h3 : (256 : Nat) ^ 8 = 18446744073709551616 := by decide
 omega
theorem num_snoc (l : List UInt8) (c : UInt8) : num (l ++ [c]) = num l + c.toNat * 256 ^ l.length := by
 induction l with
 | nil => simp [num]
 | cons d l ih => simp only [List.cons_append, num, ih, List.length_cons, Nat.pow_succ, Nat.mul_add]; rw [Nat.mul_left_comm, Nat.mul_comm 256 (256 ^ l.length)]; omega
theorem num_drop (l : List UInt8) (k : Nat) (h : k < l.length) : num (l.drop k) = (l.getD k 0).toNat + 256 * num (l.drop (k + 1)) := by
 rw [List.drop_eq_getElem_cons h]; simp [num, h]
theorem num_take (l : List UInt8) (k : Nat) (h : k < l.length) : num (l.take (k + 1)) = num (l.take k) + (l.getD k 0).toNat * 256 ^ k := by
 rw [List.take_succ_eq_append_getElem h, num_snoc]; simp [h]; rw [Nat.min_eq_left (by omega)]
theorem pow256 (k : Nat) : (256 : Nat) ^ k = 2 ^ (8 * k) := by rw [Nat.pow_mul]
theorem or_step (a c k : Nat) (ha : a < 256 ^ k) (hs : a + c * 256 ^ k < 18446744073709551616) : arith .or .u64 (a : Int) ((c * 256 ^ k : Nat) : Int) = some (.int .u64 ((a + c * 256 ^ k : Nat) : Int)) := by
 simp only [arith, abits, IntKind.bits]
 have h1 : ((a : Int) % 2 ^ 64).toNat = a := by omega
 have h2 : (((c * 256 ^ k : Nat) : Int) % 2 ^ 64).toNat = c * 256 ^ k := by omega
 rw [h1, h2]
 have h3 : a ||| c * 256 ^ k = a + c * 256 ^ k := by
   have := Nat.two_pow_add_eq_or_of_lt (i := 8 * k) (b := a) (by rw [← pow256]; exact ha) c
   rw [Nat.or_comm, pow256, Nat.mul_comm c, ← this]; omega
 rw [h3, wrap_u64 (by omega) (by omega)]
theorem shl_step (c k : Nat) (hk : k ≤ 8) (hs : c * 256 ^ k < 18446744073709551616) : arith .shl .u64 (c : Int) ((8 * k : Nat) : Int) = some (.int .u64 ((c * 256 ^ k : Nat) : Int)) := by
 simp only [arith, IntKind.bits]
 rw [if_neg (by omega)]
 have h1 : min ((8 * k : Nat) : Int).toNat 64 = 8 * k := by omega
 have h2 : (c : Int) * 2 ^ (8 * k) = ((c * 256 ^ k : Nat) : Int) := by rw [pow256]; push_cast; rfl
 rw [h1, h2, wrap_u64 (by omega) (by omega)]
theorem mul_step (k : Nat) (hk : k ≤ 8) : arith .mul .i64 8 (k : Int) = some (.int .i64 ((8 * k : Nat) : Int)) := by
 simp only [arith]
 rw [wrap_i64 (by omega) (by omega)]; push_cast; rfl
theorem num_lt4 (l : List UInt8) (h : l.length ≤ 4) : num l ≤ 4294967295 := by
 have h1 := num_lt l
 have h2 : 256 ^ l.length ≤ 256 ^ 4 := Nat.pow_le_pow_right (by omega) h
 have h3 : (256 : Nat) ^ 4 = 4294967296 := by decide
 omega
def rdR (b : List UInt8) (long : Int) (least : Nat) : Nat × List UInt8 × Int :=
 if spE b long ≠ 0 then (0, [], spE b long) else if num (spA b long) < least then (0, [], 3) else (num (spA b long), spB b long, 0)
def sz (b : List UInt8) : Nat × List UInt8 × Int :=
 if spE b 1 ≠ 0 then (0, [], spE b 1) else if num (spA b 1) = 253 then rdR (spB b 1) 2 253 else if num (spA b 1) = 254 then rdR (spB b 1) 4 65536
 else if num (spA b 1) = 255 then rdR (spB b 1) 8 4294967296 else (num (spA b 1), spB b 1, 0)
theorem sp_bad {b : List UInt8} {n : Int} (h : spE b n ≠ 0) : spA b n = [] ∧ spB b n = [] := by
 unfold spE at h; unfold spA spB
 split
 · exact ⟨rfl, rfl⟩
 · split
   · exact ⟨rfl, rfl⟩
   · rename_i h1 h2; rw [if_neg h1, if_neg h2] at h; exact absurd rfl h
theorem num_lt1 (l : List UInt8) (h : l.length ≤ 1) : num l ≤ 255 := by
 have h1 := num_lt l
 have h2 : 256 ^ l.length ≤ 256 ^ 1 := Nat.pow_le_pow_right (by omega) h
 have h3 : (256 : Nat) ^ 1 = 256 := by decide
 omega
theorem rdR_len (b : List UInt8) (n : Int) (k : Nat) : (rdR b n k).2.1.length ≤ b.length := by
 have := spB_len b n
 unfold rdR; split
 · simp
 · split <;> simp <;> omega
theorem rdR_lt (b : List UInt8) (n : Int) (k : Nat) (hn : n ≤ 8) : (rdR b n k).1 ≤ 18446744073709551615 := by
 have := num_lt8 (spA b n) (spA_le b n 8 hn)
 unfold rdR; split
 · simp
 · split <;> simp <;> omega
theorem sz_len (b : List UInt8) : (sz b).2.1.length ≤ b.length := by
 have := spB_len b 1
 have h1 := rdR_len (spB b 1) 2 253
 have h2 := rdR_len (spB b 1) 4 65536
 have h3 := rdR_len (spB b 1) 8 4294967296
 unfold sz; repeat' split
 all_goals first | (simp; done) | omega | (simp only; omega)
theorem sz_lt (b : List UInt8) : (sz b).1 ≤ 18446744073709551615 := by
 have h0 := num_lt1 (spA b 1) (spA_le b 1 1 (by omega))
 have h1 := rdR_lt (spB b 1) 2 253 (by omega)
 have h2 := rdR_lt (spB b 1) 4 65536 (by omega)
 have h3 := rdR_lt (spB b 1) 8 4294967296 (by omega)
 unfold sz; repeat' split
 all_goals first | (simp; done) | omega | (simp only; omega)
def bnd (b : List UInt8) (most : Int) : Nat × List UInt8 × Int :=
 if (sz b).2.2 ≠ 0 then (0, [], (sz b).2.2) else if most < 0 ∨ most < ((sz b).1 : Int) then (0, [], 4) else ((sz b).1, (sz b).2.1, 0)
def lim (b : List UInt8) (most : Int) : List UInt8 × List UInt8 × Int :=
 if (bnd b most).2.2 ≠ 0 then ([], [], (bnd b most).2.2)
 else (spA (bnd b most).2.1 (bnd b most).1, spB (bnd b most).2.1 (bnd b most).1, spE (bnd b most).2.1 (bnd b most).1)
theorem bnd_len (b : List UInt8) (most : Int) : (bnd b most).2.1.length ≤ b.length := by
 have := sz_len b
 unfold bnd; repeat' split
 all_goals first | (simp; done) | omega | (simp only; omega)
theorem bnd_lt (b : List UInt8) (most : Int) (h : most ≤ 9223372036854775807) : ((bnd b most).1 : Int) ≤ 9223372036854775807 := by
 unfold bnd; split
 · simp
 · split
   · simp
   · rename_i hn; simp only; omega
theorem lim_len (b : List UInt8) (most : Int) : (lim b most).1.length ≤ b.length ∧ (lim b most).2.1.length ≤ b.length := by
 have h0 := bnd_len b most
 have h1 := spA_len (bnd b most).2.1 (bnd b most).1
 have h2 := spB_len (bnd b most).2.1 (bnd b most).1
 unfold lim; split
 · simp
 · simp only; omega
theorem wf_rows {l : List (List UInt8)} (h : (T.sq 1 (l.map .by)).wf) : l.length ≤ maxLen := by
 simp only [T.wf] at h; simpa using h.2.1
def smallB (l : List (List UInt8)) : Bool := decide (l.length ≤ 40) && l.all fun x => decide (x.length ≤ 300)
theorem flat_small (l : List (List UInt8)) (h : smallB l = true) : (flat l).length ≤ 40 * 309 := by
 simp only [smallB, Bool.and_eq_true, decide_eq_true_eq, List.all_eq_true] at h
 obtain ⟨h1, h2⟩ := h
 have : ∀ l : List (List UInt8), (∀ x ∈ l, x.length ≤ 300) → (flat l).length ≤ l.length * 309 := by
   intro l
   induction l with
   | nil => simp [flat]
   | cons x l ih =>
     intro h
     have a := h x (by simp)
     have b := ih (fun y hy => h y (by simp [hy]))
     have c := sizeB_len (x.length : Int)
     simp only [flat, List.length_append, List.length_cons]
     omega
 exact Nat.le_trans (this l h2) (Nat.mul_le_mul_right 309 h1)
def tkF (most : Int) : Nat → List (List UInt8) → List UInt8 → List (List UInt8) × List UInt8 × Int
 | 0, acc, b => (acc, b, 0)
 | n + 1, acc, b => if (lim b most).2.2 ≠ 0 then ([], [], (lim b most).2.2) else tkF most n (acc ++ [(lim b most).1]) (lim b most).2.1
def lst (b : List UInt8) (many most : Int) : List (List UInt8) × List UInt8 × Int :=
 if (bnd b many).2.2 ≠ 0 then ([], [], (bnd b many).2.2) else tkF most (bnd b many).1 [] (bnd b many).2.1
theorem rdR_eat {b : List UInt8} {n : Int} {k : Nat} (h : (rdR b n k).2.2 = 0) : (rdR b n k).2.1.length ≤ b.length := rdR_len b n k
theorem sp1_eat {b : List UInt8} (h : spE b 1 = 0) : (spB b 1).length + 1 ≤ b.length := by
 unfold spE at h
 rw [if_neg (by omega)] at h
 split at h
 · cases h
 · rename_i hn
   unfold spB
   rw [if_neg (by omega), if_neg hn]
   simp; omega
theorem sz_eat {b : List UInt8} (h : (sz b).2.2 = 0) : (sz b).2.1.length + 1 ≤ b.length := by
 have h1 := rdR_len (spB b 1) 2 253
 have h2 := rdR_len (spB b 1) 4 65536
 have h3 := rdR_len (spB b 1) 8 4294967296
 unfold sz at h ⊢
 split at h
 · rename_i hn; exact absurd h hn
 · rename_i hn
   rw [if_neg hn]
   have h0 := sp1_eat (b := b) (by simpa using hn)
   repeat' split
   all_goals first | omega | (simp only; omega)
theorem bnd_eat {b : List UInt8} {most : Int} (h : (bnd b most).2.2 = 0) : (bnd b most).2.1.length + 1 ≤ b.length := by
 unfold bnd at h ⊢
 split at h
 · rename_i hn; exact absurd h hn
 · rename_i hn
   rw [if_neg hn]
   split at h
   · cases h
   · rename_i hn2
     rw [if_neg hn2]
     exact sz_eat (by simpa using hn)
theorem lim_eat {b : List UInt8} {most : Int} (h : (lim b most).2.2 = 0) : (lim b most).2.1.length + 1 ≤ b.length := by
 unfold lim at h ⊢
 split at h
 · rename_i hn; exact absurd h hn
 · rename_i hn
   rw [if_neg hn]
   have h1 := bnd_eat (b := b) (most := most) (by simpa using hn)
   have h2 := spB_len (bnd b most).2.1 (bnd b most).1
   simp only; omega
theorem tkF_succ (most : Int) (n : Nat) (acc : List (List UInt8)) (b : List UInt8) : tkF most (n + 1) acc b = if (lim b most).2.2 ≠ 0 then ([], [], (lim b most).2.2) else tkF most n (acc ++ [(lim b most).1]) (lim b most).2.1 := rfl
theorem map_snoc (acc : List (List UInt8)) (x : List UInt8) : acc.map T.by ++ [T.by x] = (acc ++ [x]).map T.by := by simp
theorem shrB_fdiv (k : Nat) (x : Int) : shrB k (x.fdiv 256) = shrB (k + 1) x := by
 induction k with
 | zero => rfl
 | succ k ih => simp only [shrB] at ih ⊢; rw [ih]
theorem le_cons (k : Nat) (x : Int) : le (k + 1) x = UInt8.ofNat (IntKind.u8.wrap x).toNat :: le k (x.fdiv 256) := by
 induction k generalizing x with
 | zero => rfl
 | succ k ih =>
   have h1 : le (k + 1 + 1) x = le (k + 1) x ++ [UInt8.ofNat (IntKind.u8.wrap (shrB (k + 1) x)).toNat] := rfl
   have h2 : le (k + 1) (x.fdiv 256) = le k (x.fdiv 256) ++ [UInt8.ofNat (IntKind.u8.wrap (shrB k (x.fdiv 256))).toNat] := rfl
   rw [h1, ih, h2, shrB_fdiv]; rfl
theorem byte_of (c : UInt8) (n : Nat) : UInt8.ofNat (IntKind.u8.wrap ((c.toNat + 256 * n : Nat) : Int)).toNat = c := by
 have hc := c.toNat_lt
 have : (IntKind.u8.wrap ((c.toNat + 256 * n : Nat) : Int)).toNat = c.toNat := by
   simp only [IntKind.wrap, IntKind.signed, IntKind.bits]; simp; omega
 rw [this]; simp
theorem le_num (l : List UInt8) : le l.length (num l : Nat) = l := by
 induction l with
 | nil => rfl
 | cons c l ih =>
   have hc := c.toNat_lt
   rw [List.length_cons, le_cons]
   have h2 : ((num (c :: l) : Nat) : Int).fdiv 256 = (num l : Nat) := by
     rw [Int.fdiv_eq_ediv_of_nonneg _ (by omega)]; simp only [num]; omega
   rw [h2, ih]
   congr 1
   exact byte_of c (num l)
theorem num_le (k : Nat) (x : Int) (h0 : 0 ≤ x) (h1 : x < ((256 ^ k : Nat) : Int)) : (num (le k x) : Int) = x := by
 induction k generalizing x with
 | zero => simp [le, num] at *; omega
 | succ k ih =>
   rw [le_cons]
   have hd : x.fdiv 256 = x / 256 := Int.fdiv_eq_ediv_of_nonneg _ (by omega)
   have hp : (256 ^ (k + 1) : Nat) = 256 * 256 ^ k := by rw [Nat.pow_succ, Nat.mul_comm]
   rw [hp] at h1
   have h3 := ih (x.fdiv 256) (by rw [hd]; omega) (by rw [hd]; omega)
   have hw : (IntKind.u8.wrap x).toNat = (x % 256).toNat := by simp only [IntKind.wrap, IntKind.signed, IntKind.bits]; simp
   have hb : (UInt8.ofNat (IntKind.u8.wrap x).toNat).toNat = (x % 256).toNat := by
     rw [hw]; simp; omega
   simp only [num]
   rw [hb]
   omega
theorem spE_app (a b : List UInt8) : spE (a ++ b) a.length = 0 := by
 unfold spE; rw [if_neg (by omega), if_neg (by simp; omega)]
theorem spA_app (a b : List UInt8) : spA (a ++ b) a.length = a := by
 unfold spA; rw [if_neg (by omega), if_neg (by simp; omega)]; simp
theorem spB_app (a b : List UInt8) : spB (a ++ b) a.length = b := by
 unfold spB; rw [if_neg (by omega), if_neg (by simp; omega)]; simp
theorem sp_ok {b : List UInt8} {n : Int} (h : spE b n = 0) : 0 ≤ n ∧ spA b n ++ spB b n = b ∧ ((spA b n).length : Int) = n := by
 unfold spE at h
 split at h
 · cases h
 · split at h
   · cases h
   · rename_i h1 h2
     unfold spA spB
     simp only [if_neg h1, if_neg h2]
     refine ⟨by omega, by simp, ?_⟩
     simp; omega
theorem rdR_put {k : Nat} {least : Nat} {x : Int} (r : List UInt8) (h0 : 0 ≤ x) (h1 : x < ((256 ^ k : Nat) : Int)) (h2 : (least : Int) ≤ x) : rdR (le k x ++ r) k least = (x.toNat, r, 0) := by
 have hl := le_len k x
 have e := spE_app (le k x) r
 have a := spA_app (le k x) r
 have c := spB_app (le k x) r
 rw [hl] at e a c
 have hn := num_le k x h0 h1
 unfold rdR
 rw [if_neg (by rw [e]; simp), a, c, if_neg (by omega)]
 rw [show num (le k x) = x.toNat by omega]
theorem le1 (x : Int) (h0 : 0 ≤ x) (h1 : x ≤ 255) : le 1 x = [UInt8.ofNat x.toNat] := by
 simp only [le, shrB, List.nil_append]
 rw [wrap_u8 h0 h1]
theorem sz_put (n : Int) (r : List UInt8) (h0 : 0 ≤ n) (h1 : n ≤ 18446744073709551615) : sz (sizeB n ++ r) = (n.toNat, r, 0) := by
 have key : ∀ (x : Int) (s : List UInt8), 0 ≤ x → x ≤ 255 → spE (le 1 x ++ s) 1 = 0 ∧ spB (le 1 x ++ s) 1 = s ∧ (num (spA (le 1 x ++ s) 1) : Int) = x := by
   intro x s hx0 hx1
   have hl := le_len 1 x
   have e := spE_app (le 1 x) s
   have a := spA_app (le 1 x) s
   have c := spB_app (le 1 x) s
   rw [hl] at e a c
   exact ⟨e, c, by rw [show ((1 : Nat) : Int) = 1 from rfl] at a; rw [a]; exact num_le 1 x hx0 (by omega)⟩
 unfold sizeB
 split
 · obtain ⟨k1, k2, k3⟩ := key n r h0 (by omega)
   unfold sz
   rw [if_neg (by rw [k1]; simp), if_neg (by omega), if_neg (by omega), if_neg (by omega), k2]
   rw [show num (spA (le 1 n ++ r) 1) = n.toNat by omega]
 · split
   · obtain ⟨k1, k2, k3⟩ := key 253 (le 2 n ++ r) (by omega) (by omega)
     rw [List.append_assoc]
     unfold sz
     rw [if_neg (by rw [k1]; simp), if_pos (by omega), k2]
     exact rdR_put r h0 (by omega) (by omega)
   · split
     · obtain ⟨k1, k2, k3⟩ := key 254 (le 4 n ++ r) (by omega) (by omega)
       rw [List.append_assoc]
       unfold sz
       rw [if_neg (by rw [k1]; simp), if_neg (by omega), if_pos (by omega), k2]
       exact rdR_put r h0 (by omega) (by omega)
     · obtain ⟨k1, k2, k3⟩ := key 255 (le 8 n ++ r) (by omega) (by omega)
       rw [List.append_assoc]
       unfold sz
       rw [if_neg (by rw [k1]; simp), if_neg (by omega), if_neg (by omega), if_pos (by omega), k2]
       exact rdR_put r h0 (by omega) (by omega)
theorem rdR_only {b : List UInt8} {k : Nat} {least : Nat} (h : (rdR b k least).2.2 = 0) : (least : Int) ≤ (rdR b k least).1 ∧ le k ((rdR b k least).1 : Nat) ++ (rdR b k least).2.1 = b := by
 unfold rdR at h ⊢
 split at h
 · rename_i hn; exact absurd h hn
 · rename_i hn
   rw [if_neg hn]
   split at h
   · cases h
   · rename_i h2
     rw [if_neg h2]
     obtain ⟨q1, q2, q3⟩ := sp_ok (b := b) (n := k) (by simpa using hn)
     have hk : (spA b k).length = k := by omega
     have := le_num (spA b k)
     rw [hk] at this
     exact ⟨by simp only; omega, by simp only; rw [this]; exact q2⟩
theorem sz_only {b : List UInt8} (h : (sz b).2.2 = 0) : sizeB ((sz b).1 : Nat) ++ (sz b).2.1 = b := by
 have hlt := num_lt1 (spA b 1) (spA_le b 1 1 (by omega))
 have l2 := rdR_lt (spB b 1) 2 253 (by omega)
 unfold sz at h ⊢
 split at h
 · rename_i hn; exact absurd h hn
 · rename_i hn
   rw [if_neg hn]
   obtain ⟨q1, q2, q3⟩ := sp_ok (b := b) (n := 1) (by simpa using hn)
   have hk : (spA b 1).length = 1 := by omega
   have hone := le_num (spA b 1)
   rw [hk] at hone
   have b2 : (rdR (spB b 1) 2 253).1 < 65536 := by
     unfold rdR; split
     · simp
     · split
       · simp
       · have := num_lt (spA (spB b 1) 2)
         have hl := spA_le (spB b 1) 2 2 (by omega)
         have hp : 256 ^ (spA (spB b 1) 2).length ≤ 256 ^ 2 := Nat.pow_le_pow_right (by omega) hl
         simp only; omega
   have b4 : (rdR (spB b 1) 4 65536).1 < 4294967296 := by
     unfold rdR; split
     · simp
     · split
       · simp
       · have := num_lt4 (spA (spB b 1) 4) (spA_le (spB b 1) 4 4 (by omega))
         simp only; omega
   split at h
   · rename_i e
     rw [if_pos e]
     obtain ⟨r1, r2⟩ := rdR_only (k := 2) h
     unfold sizeB
     have r1' : (253 : Int) ≤ (rdR (spB b 1) 2 253).1 := r1
     rw [if_neg (by omega), if_pos (by omega), List.append_assoc]
     rw [show ((2 : Nat) : Int) = 2 from rfl] at r2
     rw [r2]; conv => rhs; rw [← q2]
     congr 1
     rw [← hone, e]; rfl
   · rename_i e
     rw [if_neg e]
     split at h
     · rename_i e4
       rw [if_pos e4]
       obtain ⟨r1, r2⟩ := rdR_only (k := 4) h
       unfold sizeB
       have r1' : (65536 : Int) ≤ (rdR (spB b 1) 4 65536).1 := r1
       rw [if_neg (by omega), if_neg (by omega), if_pos (by omega), List.append_assoc]
       rw [show ((4 : Nat) : Int) = 4 from rfl] at r2
       rw [r2]; conv => rhs; rw [← q2]
       congr 1
       rw [← hone, e4]; rfl
     · rename_i e4
       rw [if_neg e4]
       split at h
       · rename_i e8
         rw [if_pos e8]
         obtain ⟨r1, r2⟩ := rdR_only (k := 8) h
         unfold sizeB
         have r1' : (4294967296 : Int) ≤ (rdR (spB b 1) 8 4294967296).1 := r1
         rw [if_neg (by omega), if_neg (by omega), if_neg (by omega), List.append_assoc]
         rw [show ((8 : Nat) : Int) = 8 from rfl] at r2
         rw [r2]; conv => rhs; rw [← q2]
         congr 1
         rw [← hone, e8]; rfl
       · rename_i e8
         rw [if_neg e8]
         unfold sizeB
         simp only
         rw [if_pos (by omega), hone, q2]
theorem bnd_only {b : List UInt8} {most : Int} (h : (bnd b most).2.2 = 0) : sizeB ((bnd b most).1 : Nat) ++ (bnd b most).2.1 = b ∧ ((bnd b most).1 : Int) ≤ most := by
 unfold bnd at h ⊢
 split at h
 · rename_i hn; exact absurd h hn
 · rename_i hn
   rw [if_neg hn]
   split at h
   · cases h
   · rename_i h2
     rw [if_neg h2]
     exact ⟨sz_only (by simpa using hn), by simp only; omega⟩
theorem lim_only {b : List UInt8} {most : Int} (h : (lim b most).2.2 = 0) : sizeB ((lim b most).1.length : Int) ++ (lim b most).1 ++ (lim b most).2.1 = b := by
 unfold lim at h ⊢
 split at h
 · rename_i hn; exact absurd h hn
 · rename_i hn
   rw [if_neg hn]
   obtain ⟨q1, q2, q3⟩ := sp_ok (b := (bnd b most).2.1) (n := (bnd b most).1) h
   have h1 := (bnd_only (b := b) (most := most) (by simpa using hn)).1
   simp only
   rw [q3, List.append_assoc, q2, h1]
theorem tkF_bad {most : Int} : ∀ (n : Nat) (acc : List (List UInt8)) (b : List UInt8), (tkF most n acc b).2.2 ≠ 0 → (tkF most n acc b).1 = [] ∧ (tkF most n acc b).2.1 = []
 | 0, acc, b, h => by simp [tkF] at h
 | n + 1, acc, b, h => by
   unfold tkF at h ⊢
   split at h
   · rename_i hn; rw [if_pos hn]; exact ⟨rfl, rfl⟩
   · rename_i hn; rw [if_neg hn]; exact tkF_bad n _ _ h
theorem tkF_only {most : Int} : ∀ (n : Nat) (acc : List (List UInt8)) (b : List UInt8), (tkF most n acc b).2.2 = 0 →
   (tkF most n acc b).1.length = acc.length + n ∧ flat (tkF most n acc b).1 ++ (tkF most n acc b).2.1 = flat acc ++ b
 | 0, acc, b, h => by simp [tkF]
 | n + 1, acc, b, h => by
   unfold tkF at h ⊢
   split at h
   · rename_i hn; exact absurd h hn
   · rename_i hn
     rw [if_neg hn]
     obtain ⟨h1, h2⟩ := tkF_only n _ _ h
     refine ⟨by rw [h1]; simp; omega, ?_⟩
     rw [h2, flat_snoc, List.append_assoc]
     have h3 := lim_only (b := b) (most := most) (by simpa using hn)
     rw [h3]
theorem lst_bad {b : List UInt8} {many most : Int} (h : (lst b many most).2.2 ≠ 0) : (lst b many most).1 = [] ∧ (lst b many most).2.1 = [] := by
 unfold lst at h ⊢
 split at h
 · rename_i hn; rw [if_pos hn]; exact ⟨rfl, rfl⟩
 · rename_i hn; rw [if_neg hn]; exact tkF_bad _ _ _ h
theorem lst_only {b : List UInt8} {many most : Int} (h : (lst b many most).2.2 = 0) :
   ((lst b many most).1.length : Int) ≤ many ∧ sizeB ((lst b many most).1.length : Int) ++ flat (lst b many most).1 ++ (lst b many most).2.1 = b := by
 unfold lst at h ⊢
 split at h
 · rename_i hn; exact absurd h hn
 · rename_i hn
   rw [if_neg hn]
   obtain ⟨h1, h2⟩ := bnd_only (b := b) (most := many) (by simpa using hn)
   obtain ⟨h3, h4⟩ := tkF_only _ _ _ h
   simp only [List.length_nil, Nat.zero_add] at h3
   rw [List.append_assoc, h4, h3]
   exact ⟨h2, by simpa [flat] using h1⟩
end Go.Fw

end

section
namespace Go.Fw
open Go
def depOk2 (ops : List Oper) : Bool :=
 (List.range ops.length).all fun j => match ops[j]? with
   | none => true
   | some o => (aft o).all (fun i => decide (i < j)) &&
     (List.range ops.length).all fun i => match ops[i]? with
       | none => true
       | some p => (decide (i = j) || decide (p.dst ≠ o.dst) || p.dst.isNone) &&
         (match p.dst with
           | none => true
           | some d => !((o.looksAt ops.toArray).contains d) || (decide (i < j) && (aft o).contains i) || (decide (j < i) && (aft p).contains j))
theorem depOk2_ok {ops : List Oper} (h : depOk2 ops = true) : DepOk ops := by
 simp only [depOk2, List.all_eq_true, List.mem_range] at h
 have get : ∀ (j : Nat) (o : Oper), ops[j]? = some o → j < ops.length := fun j o hj => (List.getElem?_eq_some_iff.1 hj).1
 refine ⟨fun j o i hj hi => ?_, fun i j p o d hi hj hp ho => ?_, fun i j p o d hi hj hp hd => ?_⟩
 · have := h j (get j o hj)
   rw [hj] at this
   simp only [Bool.and_eq_true, List.all_eq_true] at this
   simpa using this.1 i hi
 · have := h j (get j o hj)
   rw [hj] at this
   simp only [Bool.and_eq_true, List.all_eq_true, List.mem_range] at this
   have := this.2 i (get i p hi)
   rw [hi] at this
   simp only [Bool.and_eq_true, Bool.or_eq_true, decide_eq_true_eq] at this
   rcases this.1 with (h1 | h1) | h1
   · exact h1
   · exact (h1 (by rw [hp, ho])).elim
   · rw [hp] at h1; simp at h1
 · have := h j (get j o hj)
   rw [hj] at this
   simp only [Bool.and_eq_true, List.all_eq_true, List.mem_range] at this
   have := this.2 i (get i p hi)
   rw [hi] at this
   simp only [Bool.and_eq_true, hp] at this
   have h2 := this.2
   have hc : (o.looksAt ops.toArray).contains d = true := by simpa using hd
   rw [hc] at h2
   simp at h2
   rcases h2 with h2 | h2
   · exact .inl h2
   · exact .inr h2
def dOk2 (ops : List Oper) (fs : List Info) : Bool :=
 depOk2 ops && (fs.length == ops.length) && ((List.range ops.length).all fun j => match ops[j]?, fs[j]? with
   | some o, some f => f.looks.all (fun t => (o.looksAt ops.toArray).contains t) &&
     f.anc.all (fun a => (aft o).contains a || (aft o).any fun b => match fs[b]? with | some g => g.anc.contains a | none => false) &&
     (f.cls != 2 || (List.range ops.length).all fun k => (k == j) || match fs[k]? with
       | some g => (g.cls == 0) || (if k < j then f.anc.contains k else g.anc.contains j)
       | none => true) && decide (f.cls ≤ 2)
   | _, _ => false) && fs.all fun f => (f.cls != 0) || f.st.all fun i => fs.all fun g => (g.cls != 2) || g.st.contains i
theorem dOk2_ok {ops : List Oper} {fs : List Info} (h : dOk2 ops fs = true) : DOk ops fs := by
 unfold dOk2 at h
 rw [Bool.and_eq_true] at h
 obtain ⟨h, h5⟩ := h
 simp only [Bool.and_eq_true, beq_iff_eq, List.all_eq_true, List.mem_range] at h
 obtain ⟨⟨h1, h2⟩, h3⟩ := h
 have get : ∀ (j : Nat) (f : Info), fs[j]? = some f → j < ops.length := fun j f hj => by have := (List.getElem?_eq_some_iff.1 hj).1; omega
 have each : ∀ (j : Nat) (o : Oper) (f : Info), ops[j]? = some o → fs[j]? = some f → (((∀ t ∈ f.looks, (o.looksAt ops.toArray).contains t = true) ∧ (∀ a ∈ f.anc, ((aft o).contains a || (aft o).any fun b => match fs[b]? with | some g => g.anc.contains a | none => false) = true)) ∧
     (f.cls != 2 || (List.range ops.length).all fun k => (k == j) || match fs[k]? with
       | some g => (g.cls == 0) || (if k < j then f.anc.contains k else g.anc.contains j)
       | none => true) = true) ∧ f.cls ≤ 2 := by
   intro j o f ho hf
   have := h3 j (get j f hf)
   rw [ho, hf] at this
   simp only [Bool.and_eq_true, List.all_eq_true, decide_eq_true_eq] at this
   exact this
 refine ⟨depOk2_ok h1, h2, fun j o f ho hf t ht => ?_, fun j o f ho hf a ha => ?_, fun j f hf hc k g hg hg0 hkj => ?_, fun j f hj => ?_, fun j f hf hc i hi k g hg hgc => ?_⟩
 · have := (each j o f ho hf).1.1.1 t ht
   simpa using this
 · have := (each j o f ho hf).1.1.2 a ha
   simp only [Bool.or_eq_true, List.any_eq_true] at this
   rcases this with h | ⟨b, hb, h⟩
   · exact .inl (by simpa using h)
   · right
     cases hg : fs[b]? with
     | none => rw [hg] at h; simp at h
     | some g => rw [hg] at h; exact ⟨b, hb, g, hg, by simpa using h⟩
 · have hlt := get j f hf
   have := (each j _ f (List.getElem?_eq_getElem hlt) hf).1.2
   simp only [Bool.or_eq_true, bne_iff_ne, ne_eq, List.all_eq_true, List.mem_range, beq_iff_eq] at this
   rcases this with h | h
   · exact (h hc).elim
   · have h4 := h k (get k g hg)
     rcases h4 with h4 | h4
     · exact (hkj h4).elim
     · rw [hg] at h4
       simp only [Bool.or_eq_true, beq_iff_eq] at h4
       rcases h4 with h4 | h4
       · exact (hg0 h4).elim
       · split at h4
         · rename_i hlt'; exact .inl ⟨hlt', by simpa using h4⟩
         · exact .inr ⟨by omega, by simpa using h4⟩
 · have hlt := get j f hj
   exact (each j _ f (List.getElem?_eq_getElem hlt) hj).2
 · have h6 := List.all_eq_true.1 h5 f (List.mem_of_getElem? hf)
   rw [hc] at h6
   simp only [bne_self_eq_false, Bool.false_or] at h6
   have h7 := List.all_eq_true.1 (List.all_eq_true.1 h6 i hi) g (List.mem_of_getElem? hg)
   rw [hgc] at h7
   simpa using h7
section
variable {P : Program} {E : Env} {q : List TypeId} {gl : GCalls} {N : Nat} {ops : List Oper} {fs : List Info} {s0 sN : Slots} {H0 HN : List Blk}
theorem AWP.gdraw2 {kp : Nat} (hX : XOk P E q) (hcl : GClOk P gl) (keep : List Nat) (hmix : P.follows .mixedOrders = true) {id : Nat} {l : List Oper} (fs : List Info) (hdep : dOk2 l fs = true) {Q : Exit → AS → Prop} {S S' : AS}
   (h : drunP E q gl N keep l fs S = some S') (hQ : Q .normal S') : AWP kp P N (.region id l.toArray true) Q S := by
 unfold drunP at h
 split at h
 case h_2 => cases h
 rename_i S1 hq
 cases h
 have hd := dOk2_ok hdep
 obtain ⟨T⟩ := dt_of hd.len (sN := S1.s) (HN := S1.H) hq
 intro c hc m w a hi hs
 refine wp_region_any hmix ?_
 have hcount : countF (Array.replicate l.toArray.size false) = l.toArray.size := by simp [countF]
 have hfalse : ∀ k, (Array.replicate l.toArray.size false).getD k false = false := by
   intro k
   rw [Array.getD_eq_getD_getElem?, Array.getElem?_replicate]
   split <;> rfl
 obtain ⟨τ, t1, t2, t3, t4⟩ := next_turn fs l.length 0 (by omega)
 have hstill : ∀ k g, 0 ≤ k → k < τ → fs[k]? = some g → g.cls ≤ 1 := fun k g h1 h2 h3 => by
   have := hd.top k g h3; have := t3 k g h1 h2 h3; omega
 obtain ⟨R, hR⟩ := T.prefix_ hd 0 τ t2 t1 hstill
 have h00 : T.hp 0 = S.H := T.zero.2
 rw [h00] at hR
 obtain ⟨m2, e2, i2⟩ := hi.drawn.pad R.length
 have hck : c.k ≤ S.H.length := by
   rcases Nat.eq_zero_or_pos c.k with h0 | h0
   · omega
   · have := (hi.keep (c.k - 1) (by omega)).1; rw [hi.len] at this; omega
 refine d_order hX hcl hck T hd (fun t k hk => ?_) (fun m' w' a' h1 h2 => ⟨m', ⟨prune keep S1.s, S1.H⟩, h1, h2.prune keep, hQ⟩) _ _ a _ m2 0 τ _ (by simp) hcount ?_ i2 ?_ hs.1 hs.2.1 ?_ ?_
 · have := (hs.2.2 t).idxs_lt k hk
   rw [hi.len] at this; exact this
 · intro j o hj hl i _
   rw [hfalse] at hl; cases hl
 · refine ⟨t1, t2, fun k g _ _ hk => by omega, fun k g _ _ _ => hfalse k, hstill, t4, by rw [hR]; simp, fun i hi' => ?_, fun k i hk1 hk2 hi1 hi2 => ?_, fun i B hi' hB k hk => ?_⟩
   · rw [h00] at hi'
     rw [hR, List.getElem?_append_left hi', List.getElem?_append_left hi']
   · have g1 := T.mono hd 0 k (by omega) (by omega)
     have g2 := T.mono hd (k + 1) τ (by omega) t2
     rw [h00] at g1
     have g3 : (T.hp τ).length = S.H.length + R.length := by rw [hR]; simp
     rw [if_neg (by rw [hfalse]; simp), List.getElem?_append_right (by omega), List.getElem?_replicate, if_pos (by omega)]
   · rw [h00] at hB ⊢
     have := hi.blk_lt hB k hk
     rw [hi.len] at this; exact this
 · intro i o d hj hl _
   rw [hfalse] at hl; cases hl
 · intro t _
   exact (hs.2.2 t).mono e2
end
end Go.Fw

end

section
namespace Go.Fw
open Go
theorem bnd_put {n most : Int} (r : List UInt8) (h0 : 0 ≤ n) (h1 : n ≤ most) (h2 : most ≤ 9223372036854775807) : bnd (sizeB n ++ r) most = (n.toNat, r, 0) := by
 have h := sz_put n r h0 (by omega)
 unfold bnd
 rw [h]
 simp only [ne_eq, not_true_eq_false, if_false]
 rw [if_neg (by omega)]
theorem lim_put {x : List UInt8} {most : Int} (r : List UInt8) (h1 : (x.length : Int) ≤ most) (h2 : most ≤ 9223372036854775807) : lim (sizeB x.length ++ x ++ r) most = (x, r, 0) := by
 have h := bnd_put (n := x.length) (most := most) (x ++ r) (by omega) h1 h2
 rw [List.append_assoc]
 unfold lim
 rw [h]
 simp only [ne_eq, not_true_eq_false, if_false, Int.toNat_natCast, spA_app, spB_app, spE_app]
theorem tkF_put {most : Int} (h2 : most ≤ 9223372036854775807) : ∀ (l acc : List (List UInt8)) (r : List UInt8), (∀ x ∈ l, (x.length : Int) ≤ most) → tkF most l.length acc (flat l ++ r) = (acc ++ l, r, 0)
 | [], acc, r, _ => by simp [tkF, flat]
 | x :: l, acc, r, h => by
   have h1 := lim_put (x := x) (most := most) (flat l ++ r) (h x (by simp)) h2
   simp only [List.length_cons, tkF_succ, flat]
   rw [List.append_assoc, h1]
   simp only [ne_eq, not_true_eq_false, if_false]
   rw [tkF_put h2 l (acc ++ [x]) r (fun y hy => h y (by simp [hy]))]
   simp
theorem lst_put {l : List (List UInt8)} {many most : Int} (r : List UInt8) (hm : (l.length : Int) ≤ many) (hm2 : many ≤ 9223372036854775807) (h2 : most ≤ 9223372036854775807) (h : ∀ x ∈ l, (x.length : Int) ≤ most) :
   lst (sizeB l.length ++ flat l ++ r) many most = (l, r, 0) := by
 have h1 := bnd_put (n := l.length) (most := many) (flat l ++ r) (by omega) hm hm2
 rw [List.append_assoc]
 unfold lst
 rw [h1]
 simp only [ne_eq, not_true_eq_false, if_false, Int.toNat_natCast]
 rw [tkF_put h2 l [] r h]; simp
theorem sp_cut {b : List UInt8} {n : Int} (h : (b.length : Int) < n) : spE b n = 2 ∧ spA b n = [] ∧ spB b n = [] := by
 unfold spE spA spB
 rw [if_neg (by omega), if_pos h, if_neg (by omega), if_pos h, if_neg (by omega), if_pos h]
 exact ⟨rfl, rfl, rfl⟩
theorem rdR_cut {b : List UInt8} {n : Int} {least : Nat} (h : (b.length : Int) < n) : rdR b n least = (0, [], 2) := by
 unfold rdR
 rw [(sp_cut h).1, if_pos (by omega)]
theorem sz_nil : sz [] = (0, [], 2) := by
 unfold sz
 rw [(sp_cut (b := []) (n := 1) (by simp)).1, if_pos (by omega)]
theorem sz_cut {n : Int} (h0 : 0 ≤ n) {k : Nat} (hk : k < (sizeB n).length) : sz ((sizeB n).take k) = (0, [], 2) := by
 cases k with
 | zero => exact sz_nil
 | succ k =>
   have key : ∀ (x : Int) (s : List UInt8), 0 ≤ x → x ≤ 255 → spE (le 1 x ++ s) 1 = 0 ∧ spB (le 1 x ++ s) 1 = s ∧ (num (spA (le 1 x ++ s) 1) : Int) = x := by
     intro x s hx0 hx1
     have hl := le_len 1 x
     have e := spE_app (le 1 x) s
     have a := spA_app (le 1 x) s
     have c := spB_app (le 1 x) s
     rw [hl] at e a c
     exact ⟨e, c, by rw [show ((1 : Nat) : Int) = 1 from rfl] at a; rw [a]; exact num_le 1 x hx0 (by omega)⟩
   have tk : ∀ (x : Int) (s : List UInt8), (le 1 x ++ s).take (k + 1) = le 1 x ++ s.take k := fun x s => by
     have hl := le_len 1 x
     rw [List.take_append, hl, List.take_of_length_le (by omega)]; simp
   unfold sizeB at hk ⊢
   split
   · rename_i h; rw [if_pos h, le_len] at hk; omega
   · rename_i h
     rw [if_neg h] at hk
     split
     · rename_i h2
       rw [if_pos h2] at hk
       simp only [List.length_append, le_len] at hk
       obtain ⟨k1, k2, k3⟩ := key 253 ((le 2 n).take k) (by omega) (by omega)
       rw [tk]
       unfold sz
       rw [if_neg (by rw [k1]; simp), if_pos (by omega), k2]
       exact rdR_cut (by simp [le_len]; omega)
     · rename_i h2
       rw [if_neg h2] at hk
       split
       · rename_i h3
         rw [if_pos h3] at hk
         simp only [List.length_append, le_len] at hk
         obtain ⟨k1, k2, k3⟩ := key 254 ((le 4 n).take k) (by omega) (by omega)
         rw [tk]
         unfold sz
         rw [if_neg (by rw [k1]; simp), if_neg (by omega), if_pos (by omega), k2]
         exact rdR_cut (by simp [le_len]; omega)
       · rename_i h3
         rw [if_neg h3] at hk
         simp only [List.length_append, le_len] at hk
         obtain ⟨k1, k2, k3⟩ := key 255 ((le 8 n).take k) (by omega) (by omega)
         rw [tk]
         unfold sz
         rw [if_neg (by rw [k1]; simp), if_neg (by omega), if_neg (by omega), if_pos (by omega), k2]
         exact rdR_cut (by simp [le_len]; omega)
theorem bnd_cut {n most : Int} (h0 : 0 ≤ n) {k : Nat} (hk : k < (sizeB n).length) : bnd ((sizeB n).take k) most = (0, [], 2) := by
 unfold bnd
 rw [sz_cut h0 hk, if_pos (by simp)]
theorem lim_cut {x : List UInt8} {most : Int} (h1 : (x.length : Int) ≤ most) (h2 : most ≤ 9223372036854775807) {k : Nat} (hk : k < (sizeB x.length ++ x).length) : lim ((sizeB x.length ++ x).take k) most = ([], [], 2) := by
 unfold lim
 by_cases h : k < (sizeB (x.length : Int)).length
 · rw [List.take_append_of_le_length (by omega), bnd_cut (by omega) h, if_pos (by simp)]
 · have e : (sizeB (x.length : Int) ++ x).take k = sizeB (x.length : Int) ++ x.take (k - (sizeB (x.length : Int)).length) := by
     rw [List.take_append, List.take_of_length_le (by omega)]
   rw [e, bnd_put _ (by omega) h1 h2]
   simp only [List.length_append] at hk
   have hc := sp_cut (b := x.take (k - (sizeB (x.length : Int)).length)) (n := ((x.length : Int).toNat : Int)) (by simp; omega)
   simp only [ne_eq, not_true_eq_false, if_false]
   rw [hc.1, hc.2.1, hc.2.2]
theorem tkF_cut {most : Int} (h2 : most ≤ 9223372036854775807) : ∀ (l acc : List (List UInt8)) (k : Nat), (∀ x ∈ l, (x.length : Int) ≤ most) → k < (flat l).length → tkF most l.length acc ((flat l).take k) = ([], [], 2)
 | [], acc, k, _, hk => by simp [flat] at hk
 | x :: l, acc, k, h, hk => by
   simp only [List.length_cons, tkF_succ, flat]
   by_cases h1 : k < (sizeB (x.length : Int) ++ x).length
   · rw [List.take_append_of_le_length (by omega), lim_cut (h x (by simp)) h2 h1, if_pos (by simp)]
   · have e : (sizeB (x.length : Int) ++ x ++ flat l).take k = sizeB (x.length : Int) ++ x ++ (flat l).take (k - (sizeB (x.length : Int) ++ x).length) := by
       rw [List.take_append, List.take_of_length_le (by omega)]
     rw [e, lim_put _ (h x (by simp)) h2]
     simp only [ne_eq, not_true_eq_false, if_false]
     simp only [flat, List.length_append] at hk h1 ⊢
     exact tkF_cut h2 l _ _ (fun y hy => h y (by simp [hy])) (by omega)
theorem lst_cut {l : List (List UInt8)} {many most : Int} (hm : (l.length : Int) ≤ many) (hm2 : many ≤ 9223372036854775807) (h2 : most ≤ 9223372036854775807) (h : ∀ x ∈ l, (x.length : Int) ≤ most) {k : Nat} (hk : k < (sizeB l.length ++ flat l).length) :
   lst ((sizeB l.length ++ flat l).take k) many most = ([], [], 2) := by
 unfold lst
 by_cases h1 : k < (sizeB (l.length : Int)).length
 · rw [List.take_append_of_le_length (by omega), bnd_cut (by omega) h1, if_pos (by simp)]
 · have e : (sizeB (l.length : Int) ++ flat l).take k = sizeB (l.length : Int) ++ (flat l).take (k - (sizeB (l.length : Int)).length) := by
     rw [List.take_append, List.take_of_length_le (by omega)]
   rw [e, bnd_put _ (by omega) hm hm2]
   simp only [List.length_append] at hk
   simp only [ne_eq, not_true_eq_false, if_false, Int.toNat_natCast]
   exact tkF_cut h2 l [] _ h (by omega)
end Go.Fw

end

section
namespace Go.Fw
open Go
abbrev H32 := { l : List UInt8 // l.length = 32 }
def zH : H32 := ⟨List.replicate 32 0, by simp⟩
structure TIn where
 (prev : H32) (idx seq : UInt32) (wit : List (List UInt8))
 deriving DecidableEq
structure TOut where
 (val : UInt64) (scr : List UInt8)
 deriving DecidableEq
structure TTx where
 (ver : UInt32) (ins : List TIn) (outs : List TOut) (lock : UInt32)
 deriving DecidableEq
def refT (h : H32) (i : UInt32) : T := .st [.ba 32 h.1, .int .u32 (i.toNat : Int)]
def inT (x : TIn) : T := .st [refT x.prev x.idx, .int .u32 (x.seq.toNat : Int), .sq 1 (x.wit.map .by)]
def outT (x : TOut) : T := .st [.int .u64 (x.val.toNat : Int), .by x.scr]
def txT (x : TTx) : T := .st [.int .u32 (x.ver.toNat : Int), .sq 35 (x.ins.map inT), .sq 2 (x.outs.map outT), .int .u32 (x.lock.toNat : Int)]
def dIn : TIn := ⟨zH, 0, 0, []⟩
def dOut : TOut := ⟨0, []⟩
def dTx : TTx := ⟨0, [], [], 0⟩
theorem map_inj {α β : Type} {f : α → β} (hf : ∀ a b, f a = f b → a = b) : ∀ l k : List α, l.map f = k.map f → l = k
 | [], [], _ => rfl
 | [], _ :: _, h => by simp at h
 | _ :: _, [], h => by simp at h
 | a :: l, b :: k, h => by
   simp only [List.map_cons, List.cons.injEq] at h
   rw [hf a b h.1, map_inj hf l k h.2]
theorem by_inj (a b : List UInt8) (h : T.by a = T.by b) : a = b := by cases h; rfl
theorem n32_inj {a b : UInt32} (h : (a.toNat : Int) = (b.toNat : Int)) : a = b := UInt32.toNat_inj.1 (by exact_mod_cast h)
theorem n64_inj {a b : UInt64} (h : (a.toNat : Int) = (b.toNat : Int)) : a = b := UInt64.toNat_inj.1 (by exact_mod_cast h)
theorem refT_inj {a b : H32} {i j : UInt32} (h : refT a i = refT b j) : a = b ∧ i = j := by
 unfold refT at h
 simp only [T.st.injEq, List.cons.injEq, T.ba.injEq, T.int.injEq, true_and, and_true] at h
 exact ⟨Subtype.ext h.1, n32_inj h.2⟩
theorem inT_inj (a b : TIn) (h : inT a = inT b) : a = b := by
 obtain ⟨a1, a2, a3, a4⟩ := a
 obtain ⟨b1, b2, b3, b4⟩ := b
 unfold inT at h
 simp only [T.st.injEq, List.cons.injEq, T.sq.injEq, T.int.injEq, true_and, and_true] at h
 obtain ⟨h1, h2, h3⟩ := h
 obtain ⟨rfl, rfl⟩ := refT_inj h1
 rw [n32_inj h2, map_inj by_inj _ _ h3]
theorem outT_inj (a b : TOut) (h : outT a = outT b) : a = b := by
 obtain ⟨a1, a2⟩ := a
 obtain ⟨b1, b2⟩ := b
 unfold outT at h
 simp only [T.st.injEq, List.cons.injEq, T.by.injEq, T.int.injEq, true_and, and_true] at h
 rw [n64_inj h.1, h.2]
theorem txT_inj (a b : TTx) (h : txT a = txT b) : a = b := by
 obtain ⟨a1, a2, a3, a4⟩ := a
 obtain ⟨b1, b2, b3, b4⟩ := b
 unfold txT at h
 simp only [T.st.injEq, List.cons.injEq, T.sq.injEq, T.int.injEq, true_and, and_true] at h
 obtain ⟨h1, h2, h3, h4⟩ := h
 rw [n32_inj h1, n32_inj h4, map_inj inT_inj _ _ h2, map_inj outT_inj _ _ h3]
theorem in_getD (l : List TIn) (k : Nat) (h : k < l.length) : (l.map inT).getD k default = inT (l.getD k dIn) := by simp [h]
theorem out_getD (l : List TOut) (k : Nat) (h : k < l.length) : (l.map outT).getD k default = outT (l.getD k dOut) := by simp [h]
def cat {α : Type} (f : α → List UInt8) (l : List α) : List UInt8 := (l.map f).flatten
theorem cat_snoc {α : Type} (f : α → List UInt8) (l : List α) (x : α) : cat f (l ++ [x]) = cat f l ++ f x := by simp [cat]
theorem cat_nil {α : Type} (f : α → List UInt8) : cat f [] = [] := rfl
theorem cat_cons {α : Type} (f : α → List UInt8) (x : α) (l : List α) : cat f (x :: l) = f x ++ cat f l := by simp [cat]
theorem take_getDx {α : Type} (d : α) (l : List α) (k : Nat) (h : k < l.length) : l.take (k + 1) = l.take k ++ [l.getD k d] := by
 rw [List.take_succ_eq_append_getElem h]; simp [h]
theorem cat_take {α : Type} (f : α → List UInt8) (d : α) (l : List α) (k : Nat) (h : k < l.length) : cat f (l.take (k + 1)) = cat f (l.take k) ++ f (l.getD k d) := by
 rw [take_getDx d l k h, cat_snoc]
theorem cat_len {α : Type} (f : α → List UInt8) (m : Nat) : ∀ l : List α, (∀ x ∈ l, (f x).length ≤ m) → (cat f l).length ≤ l.length * m
 | [], _ => by simp [cat]
 | x :: l, h => by
   rw [cat_cons, List.length_append, List.length_cons, Nat.succ_mul]
   have h1 := h x (by simp)
   have h2 := cat_len f m l (fun y hy => h y (by simp [hy]))
   omega
theorem cat_take_le {α : Type} (f : α → List UInt8) (l : List α) (k : Nat) : (cat f (l.take k)).length ≤ (cat f l).length := by
 conv => rhs; rw [← List.take_append_drop k l]
 rw [cat, cat, List.map_append, List.flatten_append, List.length_append]; omega
def tInB (x : TIn) : List UInt8 := x.prev.1 ++ le 4 (x.idx.toNat : Int) ++ le 4 (x.seq.toNat : Int)
def tOutB (x : TOut) : List UInt8 := le 8 (x.val.toNat : Int) ++ (sizeB x.scr.length ++ x.scr)
def witB (x : TIn) : List UInt8 := sizeB x.wit.length ++ flat x.wit
def bareB (t : TTx) : List UInt8 := le 4 (t.ver.toNat : Int) ++ sizeB t.ins.length ++ cat tInB t.ins ++ sizeB t.outs.length ++ cat tOutB t.outs ++ le 4 (t.lock.toNat : Int)
def wholeB (t : TTx) : List UInt8 := bareB t ++ cat witB t.ins
def scrOk (x : TOut) : Bool := decide (x.scr.length ≤ 1000)
def witOk (x : TIn) : Bool := decide (x.wit.length ≤ 30) && x.wit.all fun y => decide (y.length ≤ 1000)
def countsB (t : TTx) : Bool := decide (t.ins.length ≤ 20) && decide (t.outs.length ≤ 20) && t.outs.all scrOk && t.ins.all witOk
def fitsB (t : TTx) : Bool := countsB t && decide ((wholeB t).length ≤ 12000)
def chkE (t : TTx) : Int := if fitsB t = true then 0 else 4
theorem tInB_len (x : TIn) : (tInB x).length = 40 := by simp [tInB, le_len, x.prev.2]
theorem flat_le (m : Nat) : ∀ l : List (List UInt8), (∀ y ∈ l, y.length ≤ m) → (flat l).length ≤ l.length * (9 + m)
 | [], _ => by simp [flat]
 | x :: l, h => by
   have h1 := h x (by simp)
   have h2 := flat_le m l (fun y hy => h y (by simp [hy]))
   have h3 := sizeB_len (x.length : Int)
   simp only [flat, List.length_append, List.length_cons, Nat.succ_mul]
   omega
theorem countsB_ok {t : TTx} (h : countsB t = true) : t.ins.length ≤ 20 ∧ t.outs.length ≤ 20 ∧ (∀ x ∈ t.outs, x.scr.length ≤ 1000) ∧ ∀ x ∈ t.ins, x.wit.length ≤ 30 ∧ ∀ y ∈ x.wit, y.length ≤ 1000 := by
 simpa [countsB, scrOk, witOk, and_assoc] using h
theorem cat_in_len (l : List TIn) : (cat tInB l).length = l.length * 40 := by
 induction l with
 | nil => rfl
 | cons x l ih => rw [cat_cons, List.length_append, ih, tInB_len, List.length_cons]; omega
theorem bare_len {t : TTx} {n m k : Nat} (h1 : t.ins.length ≤ n) (h2 : t.outs.length ≤ m) (h3 : ∀ x ∈ t.outs, x.scr.length ≤ k) : (bareB t).length ≤ 26 + n * 40 + m * (17 + k) := by
 have a1 := sizeB_len (t.ins.length : Int)
 have a2 := sizeB_len (t.outs.length : Int)
 have a3 := cat_in_len t.ins
 have a4 := cat_len tOutB (17 + k) t.outs (fun x hx => by
   have b1 := h3 x hx
   have b2 := sizeB_len (x.scr.length : Int)
   simp only [tOutB, List.length_append, le_len]; omega)
 have a5 : t.ins.length * 40 ≤ n * 40 := Nat.mul_le_mul_right _ h1
 have a6 : t.outs.length * (17 + k) ≤ m * (17 + k) := Nat.mul_le_mul_right _ h2
 simp only [bareB, List.length_append, le_len]
 omega
theorem whole_len {t : TTx} {n m k w : Nat} (h1 : t.ins.length ≤ n) (h2 : t.outs.length ≤ m) (h3 : ∀ x ∈ t.outs, x.scr.length ≤ k) (h4 : ∀ x ∈ t.ins, x.wit.length ≤ w ∧ ∀ y ∈ x.wit, y.length ≤ k) :
   (wholeB t).length ≤ 26 + n * 40 + m * (17 + k) + n * (9 + w * (9 + k)) := by
 have a1 := bare_len h1 h2 h3
 have a4 := cat_len witB (9 + w * (9 + k)) t.ins (fun x hx => by
   obtain ⟨b1, b2⟩ := h4 x hx
   have b3 := flat_le k x.wit b2
   have b4 := sizeB_len (x.wit.length : Int)
   have b5 : x.wit.length * (9 + k) ≤ w * (9 + k) := Nat.mul_le_mul_right _ b1
   simp only [witB, List.length_append]; omega)
 have a5 : t.ins.length * (9 + w * (9 + k)) ≤ n * (9 + w * (9 + k)) := Nat.mul_le_mul_right _ h1
 simp only [wholeB, List.length_append]
 omega
theorem counts_len {t : TTx} (h : countsB t = true) : (bareB t).length ≤ 100000 ∧ (wholeB t).length ≤ 1000000 := by
 obtain ⟨h1, h2, h3, h4⟩ := countsB_ok h
 have := bare_len h1 h2 h3
 have := whole_len h1 h2 h3 h4
 omega
def smallT (t : TTx) : Bool := decide (t.ins.length ≤ 6) && decide (t.outs.length ≤ 6) && (t.outs.all fun x => decide (x.scr.length ≤ 600)) && t.ins.all fun x => decide (x.wit.length ≤ 6) && x.wit.all fun y => decide (y.length ≤ 600)
theorem smallT_ok {t : TTx} (h : smallT t = true) : t.ins.length ≤ 6 ∧ t.outs.length ≤ 6 ∧ (∀ x ∈ t.outs, x.scr.length ≤ 600) ∧ ∀ x ∈ t.ins, x.wit.length ≤ 6 ∧ ∀ y ∈ x.wit, y.length ≤ 600 := by
 simpa [smallT, and_assoc] using h
end Go.Fw

end

section
namespace Go.Fw
open Go
inductive Res (α : Type) where
 | ok (x : α) (r : List UInt8)
 | err (e : Int)
abbrev Rdg (α : Type) := List UInt8 → Res α
section
variable {α β γ : Type}
def pbind (p : Rdg α) (q : α → Rdg β) : Rdg β := fun b => match p b with
 | .ok x r => q x r
 | .err e => .err e
def ppure (x : α) : Rdg α := fun b => .ok x b
def pN (p : Rdg α) : Nat → Rdg (List α)
 | 0 => ppure []
 | n + 1 => pbind p fun x => pbind (pN p n) fun l => ppure (x :: l)
def ofT (t : List UInt8 → α × List UInt8 × Int) : Rdg α := fun b => if (t b).2.2 = 0 then .ok (t b).1 (t b).2.1 else .err (t b).2.2
theorem pbind_ok {p : Rdg α} {q : α → Rdg β} {b : List UInt8} {x : α} {r : List UInt8} (h : p b = .ok x r) : pbind p q b = q x r := by unfold pbind; rw [h]
theorem pbind_err {p : Rdg α} {q : α → Rdg β} {b : List UInt8} {e : Int} (h : p b = .err e) : pbind p q b = .err e := by unfold pbind; rw [h]
theorem ofT_ok {t : List UInt8 → α × List UInt8 × Int} {b : List UInt8} {x : α} {r : List UInt8} : ofT t b = .ok x r ↔ t b = (x, r, 0) := by
 unfold ofT
 constructor
 · intro h
   split at h
   · rename_i he
     cases h
     exact Prod.ext rfl (Prod.ext rfl he)
   · cases h
 · intro h; rw [if_pos (by rw [h]), h]
theorem ofT_err {t : List UInt8 → α × List UInt8 × Int} {b : List UInt8} {e : Int} : ofT t b = .err e ↔ (t b).2.2 = e ∧ e ≠ 0 := by
 unfold ofT
 constructor
 · intro h
   split at h
   · cases h
   · rename_i he; cases h; exact ⟨rfl, he⟩
 · rintro ⟨rfl, h⟩; rw [if_neg h]
structure RSt where
 (b : List UInt8) (e : Int)
structure Good (f : RSt → α × RSt) (p : Rdg α) : Prop where
 ok : ∀ b x r, p b = .ok x r → f ⟨b, 0⟩ = (x, ⟨r, 0⟩)
 err : ∀ b e, p b = .err e → e ≠ 0 ∧ (f ⟨b, 0⟩).2.e = e
 stick : ∀ s, s.e ≠ 0 → (f s).2.e = s.e
theorem Good.bind {f : RSt → α × RSt} {p : Rdg α} {g : α → RSt → β × RSt} {q : α → Rdg β} (hf : Good f p) (hg : ∀ x, Good (g x) (q x)) : Good (fun s => g (f s).1 (f s).2) (pbind p q) where
 ok b y r h := by
   unfold pbind at h
   split at h
   · rename_i x r' hp
     rw [hf.ok b x r' hp]
     exact (hg x).ok r' y r h
   · cases h
 err b e h := by
   unfold pbind at h
   split at h
   · rename_i x r' hp
     rw [hf.ok b x r' hp]
     exact (hg x).err r' e h
   · rename_i e' hp
     cases h
     obtain ⟨h1, h2⟩ := hf.err b e hp
     exact ⟨h1, by rw [(hg _).stick _ (by rw [h2]; exact h1), h2]⟩
 stick s h := by
   have h1 := hf.stick s h
   rw [(hg _).stick _ (by rw [h1]; exact h), h1]
theorem Good.pure (x : α) : Good (fun s => (x, s)) (ppure x) where
 ok b y r h := by cases h; rfl
 err b e h := by cases h
 stick s h := rfl
theorem Good.congr {f g : RSt → α × RSt} {p : Rdg α} (h : Good f p) (e : ∀ s, g s = f s) : Good g p := by
 obtain rfl : g = f := funext e
 exact h
def rdN (f : RSt → α × RSt) : Nat → RSt → List α × RSt
 | 0, s => ([], s)
 | n + 1, s => ((f s).1 :: (rdN f n (f s).2).1, (rdN f n (f s).2).2)
theorem rdN_snoc (f : RSt → α × RSt) : ∀ (n : Nat) (s : RSt), rdN f (n + 1) s = ((rdN f n s).1 ++ [(f (rdN f n s).2).1], (f (rdN f n s).2).2)
 | 0, s => rfl
 | n + 1, s => by
   have := rdN_snoc f n (f s).2
   rw [rdN, this]
   rfl
theorem rdN_len (f : RSt → α × RSt) : ∀ (n : Nat) (s : RSt), (rdN f n s).1.length = n
 | 0, s => rfl
 | n + 1, s => by simp [rdN, rdN_len f n]
theorem Good.rep {f : RSt → α × RSt} {p : Rdg α} (hf : Good f p) : ∀ n, Good (rdN f n) (pN p n)
 | 0 => Good.pure []
 | n + 1 => by
   exact Good.congr (hf.bind (g := fun x s => (x :: (rdN f n s).1, (rdN f n s).2)) fun x => ((hf.rep n).bind (g := fun l s => (x :: l, s)) fun l => Good.pure (x :: l))) fun s => rfl
def rd (t : List UInt8 → α × List UInt8 × Int) (d : α) (s : RSt) : α × RSt :=
 if s.e ≠ 0 then (d, s) else if (t s.b).2.2 ≠ 0 then (d, ⟨s.b, (t s.b).2.2⟩) else ((t s.b).1, ⟨(t s.b).2.1, 0⟩)
def rdD (t : List UInt8 → α × List UInt8 × Int) (d : α) (s : RSt) : α × RSt :=
 if s.e ≠ 0 then (d, s) else ((t s.b).1, ⟨(t s.b).2.1, (t s.b).2.2⟩)
theorem Good.rd (t : List UInt8 → α × List UInt8 × Int) (d : α) : Good (rd t d) (ofT t) where
 ok b x r h := by
   rw [ofT_ok] at h
   unfold Fw.rd
   dsimp only
   rw [if_neg (by simp), if_neg (by rw [h]; simp), h]
 err b e h := by
   rw [ofT_err] at h
   obtain ⟨h1, h2⟩ := h
   unfold Fw.rd
   dsimp only
   rw [if_neg (by simp), if_pos (by rw [h1]; exact h2)]
   exact ⟨h2, h1⟩
 stick s h := by unfold Fw.rd; rw [if_pos h]
theorem Good.rdD (t : List UInt8 → α × List UInt8 × Int) (d : α) : Good (rdD t d) (ofT t) where
 ok b x r h := by
   rw [ofT_ok] at h
   unfold Fw.rdD
   dsimp only
   rw [if_neg (by simp), h]
 err b e h := by
   rw [ofT_err] at h
   obtain ⟨h1, h2⟩ := h
   unfold Fw.rdD
   dsimp only
   rw [if_neg (by simp)]
   exact ⟨h2, h1⟩
 stick s h := by unfold Fw.rdD; rw [if_pos h]
structure Cod (p : Rdg α) (w : α → List UInt8) (ok : α → Prop) : Prop where
 put : ∀ x r, ok x → p (w x ++ r) = .ok x r
 only : ∀ b x r, p b = .ok x r → ok x ∧ w x ++ r = b
 cut : ∀ x k, ok x → k < (w x).length → p ((w x).take k) = .err 2
theorem Cod.pair {p : Rdg α} {w : α → List UInt8} {ok : α → Prop} {q : α → Rdg β} {v : α → β → List UInt8} {ok' : α → β → Prop} (hp : Cod p w ok) (hq : ∀ x, ok x → Cod (q x) (v x) (ok' x)) :
   Cod (pbind p fun x => pbind (q x) fun y => ppure (x, y)) (fun z => w z.1 ++ v z.1 z.2) (fun z => ok z.1 ∧ ok' z.1 z.2) where
 put z r h := by
   obtain ⟨h1, h2⟩ := h
   rw [List.append_assoc, pbind_ok (hp.put z.1 _ h1), pbind_ok ((hq z.1 h1).put z.2 r h2)]
   rfl
 only b z r h := by
   unfold pbind at h
   split at h
   · rename_i x r1 h1
     dsimp only at h
     split at h
     · rename_i y r2 h2
       cases h
       obtain ⟨k1, k2⟩ := hp.only _ _ _ h1
       obtain ⟨k3, k4⟩ := (hq x k1).only _ _ _ h2
       exact ⟨⟨k1, k3⟩, by dsimp only; rw [List.append_assoc, k4, k2]⟩
     · cases h
   · cases h
 cut z k h hk := by
   obtain ⟨h1, h2⟩ := h
   by_cases hw : k < (w z.1).length
   · rw [List.take_append_of_le_length (by omega), pbind_err (hp.cut z.1 k h1 hw)]
   · rw [List.take_append, List.take_of_length_le (by omega), pbind_ok (hp.put z.1 _ h1)]
     rw [List.length_append] at hk
     rw [pbind_err ((hq z.1 h1).cut z.2 _ h2 (by omega))]
theorem Cod.map {p : Rdg α} {w : α → List UInt8} {ok : α → Prop} (hp : Cod p w ok) (f : α → β) (g : β → α) (ok' : β → Prop) (h1 : ∀ x, ok x → g (f x) = x ∧ ok' (f x)) (h2 : ∀ y, ok' y → ok (g y) ∧ f (g y) = y) :
   Cod (pbind p fun x => ppure (f x)) (fun y => w (g y)) ok' where
 put y r h := by
   rw [pbind_ok (hp.put (g y) r (h2 y h).1), ppure, (h2 y h).2]
 only b y r h := by
   unfold pbind at h
   split at h
   · rename_i x r1 hx
     cases h
     obtain ⟨k1, k2⟩ := hp.only _ _ _ hx
     exact ⟨(h1 x k1).2, by rw [(h1 x k1).1, k2]⟩
   · cases h
 cut y k h hk := by rw [pbind_err (hp.cut (g y) k (h2 y h).1 hk)]
theorem Cod.rep {p : Rdg α} {w : α → List UInt8} {ok : α → Prop} (hp : Cod p w ok) : ∀ n, Cod (pN p n) (cat w) (fun l => l.length = n ∧ ∀ x ∈ l, ok x)
 | 0 => ⟨fun l r h => by obtain rfl := List.length_eq_zero_iff.1 h.1; rfl, fun b l r h => by cases h; simp [cat], fun l k h hk => by obtain rfl := List.length_eq_zero_iff.1 h.1; simp [cat] at hk⟩
 | n + 1 => by
   have ih := hp.rep n
   refine ⟨fun l r h => ?_, fun b l r h => ?_, fun l k h hk => ?_⟩
   · match l, h with
     | x :: l, ⟨h1, h2⟩ =>
       rw [cat_cons, List.append_assoc, pN, pbind_ok (hp.put x _ (h2 x (by simp))), pbind_ok (ih.put l r ⟨by simpa using h1, fun y hy => h2 y (by simp [hy])⟩)]
       rfl
   · unfold pN pbind at h
     split at h
     · rename_i x r1 h1
       dsimp only at h
       split at h
       · rename_i y r2 h2
         cases h
         obtain ⟨k1, k2⟩ := hp.only _ _ _ h1
         obtain ⟨⟨k3, k4⟩, k5⟩ := ih.only _ _ _ h2
         exact ⟨⟨by simp [k3], by simpa using ⟨k1, k4⟩⟩, by rw [cat_cons, List.append_assoc, k5, k2]⟩
       · cases h
     · cases h
   · match l, h with
     | x :: l, ⟨h1, h2⟩ =>
       rw [cat_cons] at hk ⊢
       rw [pN]
       by_cases hw : k < (w x).length
       · rw [List.take_append_of_le_length (by omega), pbind_err (hp.cut x k (h2 x (by simp)) hw)]
       · rw [List.take_append, List.take_of_length_le (by omega), pbind_ok (hp.put x _ (h2 x (by simp)))]
         rw [List.length_append] at hk
         rw [pbind_err (ih.cut l _ ⟨by simpa using h1, fun y hy => h2 y (by simp [hy])⟩ (by omega))]
theorem Cod.ofT {t : List UInt8 → α × List UInt8 × Int} {w : α → List UInt8} {ok : α → Prop} (h1 : ∀ x r, ok x → t (w x ++ r) = (x, r, 0)) (h2 : ∀ b, (t b).2.2 = 0 → ok (t b).1 ∧ w (t b).1 ++ (t b).2.1 = b)
   (h3 : ∀ x k, ok x → k < (w x).length → (t ((w x).take k)).2.2 = 2) : Cod (ofT t) w ok where
 put x r h := ofT_ok.2 (h1 x r h)
 only b x r h := by
   rw [ofT_ok] at h
   have := h2 b (by rw [h])
   rwa [h] at this
 cut x k h hk := ofT_err.2 ⟨h3 x k h hk, by decide⟩
theorem Cod.congr {p q : Rdg α} {w v : α → List UInt8} {ok ok' : α → Prop} (h : Cod p w ok) (e1 : ∀ b, q b = p b) (e2 : ∀ x, v x = w x) (e3 : ∀ x, ok' x ↔ ok x) : Cod q v ok' := by
 obtain rfl : q = p := funext e1
 obtain rfl : v = w := funext e2
 obtain rfl : ok' = ok := funext fun x => propext (e3 x)
 exact h
end
end Go.Fw

end

section
namespace Go.Fw
open Go
def t32 (b : List UInt8) : UInt32 × List UInt8 × Int := (UInt32.ofNat (num (spA b 4)), spB b 4, spE b 4)
def t64 (b : List UInt8) : UInt64 × List UInt8 × Int := (UInt64.ofNat (num (spA b 8)), spB b 8, spE b 8)
def hOf (l : List UInt8) : H32 := if h : l.length = 32 then ⟨l, h⟩ else zH
def tH (b : List UInt8) : H32 × List UInt8 × Int := (hOf (spA b 32), spB b 32, spE b 32)
def tScr (b : List UInt8) : List UInt8 × List UInt8 × Int := lim b 1000
def tWit (b : List UInt8) : List (List UInt8) × List UInt8 × Int := lst b 30 1000
def tCnt (m : Nat) (b : List UInt8) : Nat × List UInt8 × Int := bnd b m
def tCntD (m : Nat) (b : List UInt8) : Nat × List UInt8 × Int := if (sz b).2.2 = 0 ∧ m < (sz b).1 then (0, (sz b).2.1, 4) else if (sz b).2.2 ≠ 0 then (0, (sz b).2.1, (sz b).2.2) else ((sz b).1, (sz b).2.1, 0)
theorem u32_num (l : List UInt8) (h : l.length ≤ 4) : ((UInt32.ofNat (num l)).toNat : Int) = (num l : Int) := by
 have := num_lt4 l h
 rw [UInt32.toNat_ofNat']; omega
theorem u64_num (l : List UInt8) (h : l.length ≤ 8) : ((UInt64.ofNat (num l)).toNat : Int) = (num l : Int) := by
 have := num_lt8 l h
 rw [UInt64.toNat_ofNat']; omega
theorem codN32 : Cod (ofT t32) (fun x => le 4 (x.toNat : Int)) (fun _ => True) := by
 refine Cod.ofT (fun x r _ => ?_) (fun b h => ⟨trivial, ?_⟩) (fun x k _ hk => ?_)
 · have hl := le_len 4 (x.toNat : Int)
   have a := spA_app (le 4 (x.toNat : Int)) r
   have b := spB_app (le 4 (x.toNat : Int)) r
   have c := spE_app (le 4 (x.toNat : Int)) r
   rw [hl] at a b c
   have hx := x.toNat_lt
   have hn := num_le 4 (x.toNat : Int) (by omega) (by simp; omega)
   have hn' : num (le 4 (x.toNat : Int)) = x.toNat := by omega
   show (UInt32.ofNat (num (spA (le 4 (x.toNat : Int) ++ r) ((4 : Nat) : Int))), spB (le 4 (x.toNat : Int) ++ r) ((4 : Nat) : Int), spE (le 4 (x.toNat : Int) ++ r) ((4 : Nat) : Int)) = (x, r, 0)
   rw [a, b, c, hn']
   exact Prod.ext (UInt32.ofNat_toNat ..) rfl
 · obtain ⟨h1, h2, h3⟩ := sp_ok (b := b) (n := 4) h
   show le 4 ((UInt32.ofNat (num (spA b 4))).toNat : Int) ++ spB b 4 = b
   rw [u32_num _ (by omega)]
   have := le_num (spA b 4)
   rw [show (spA b 4).length = 4 by omega] at this
   rw [this, h2]
 · rw [le_len] at hk
   have : ∀ n : Int, (((le 4 (x.toNat : Int)).take k).length : Int) < n → spE ((le 4 (x.toNat : Int)).take k) n = 2 := fun n h => (sp_cut h).1
   exact this 4 (by simp [le_len]; omega)
theorem codN64 : Cod (ofT t64) (fun x => le 8 (x.toNat : Int)) (fun _ => True) := by
 refine Cod.ofT (fun x r _ => ?_) (fun b h => ⟨trivial, ?_⟩) (fun x k _ hk => ?_)
 · have hl := le_len 8 (x.toNat : Int)
   have a := spA_app (le 8 (x.toNat : Int)) r
   have b := spB_app (le 8 (x.toNat : Int)) r
   have c := spE_app (le 8 (x.toNat : Int)) r
   rw [hl] at a b c
   have hx := x.toNat_lt
   have hn := num_le 8 (x.toNat : Int) (by omega) (by simp; omega)
   have hn' : num (le 8 (x.toNat : Int)) = x.toNat := by omega
   show (UInt64.ofNat (num (spA (le 8 (x.toNat : Int) ++ r) ((8 : Nat) : Int))), spB (le 8 (x.toNat : Int) ++ r) ((8 : Nat) : Int), spE (le 8 (x.toNat : Int) ++ r) ((8 : Nat) : Int)) = (x, r, 0)
   rw [a, b, c, hn']
   exact Prod.ext (UInt64.ofNat_toNat ..) rfl
 · obtain ⟨h1, h2, h3⟩ := sp_ok (b := b) (n := 8) h
   show le 8 ((UInt64.ofNat (num (spA b 8))).toNat : Int) ++ spB b 8 = b
   rw [u64_num _ (by omega)]
   have := le_num (spA b 8)
   rw [show (spA b 8).length = 8 by omega] at this
   rw [this, h2]
 · rw [le_len] at hk
   have : ∀ n : Int, (((le 8 (x.toNat : Int)).take k).length : Int) < n → spE ((le 8 (x.toNat : Int)).take k) n = 2 := fun n h => (sp_cut h).1
   exact this 8 (by simp [le_len]; omega)
theorem cH : Cod (ofT tH) (fun x => x.1) (fun _ => True) := by
 refine Cod.ofT (fun x r _ => ?_) (fun b h => ⟨trivial, ?_⟩) (fun x k _ hk => ?_)
 · have hl := x.2
   have a := spA_app x.1 r
   have b := spB_app x.1 r
   have c := spE_app x.1 r
   rw [hl] at a b c
   show (hOf (spA (x.1 ++ r) ((32 : Nat) : Int)), spB (x.1 ++ r) ((32 : Nat) : Int), spE (x.1 ++ r) ((32 : Nat) : Int)) = (x, r, 0)
   rw [a, b, c]
   exact Prod.ext (by unfold hOf; rw [dif_pos hl]) rfl
 · obtain ⟨h1, h2, h3⟩ := sp_ok (b := b) (n := 32) h
   show (hOf (spA b 32)).1 ++ spB b 32 = b
   unfold hOf
   rw [dif_pos (by omega), h2]
 · rw [x.2] at hk
   have : ∀ n : Int, ((x.1.take k).length : Int) < n → spE (x.1.take k) n = 2 := fun n h => (sp_cut h).1
   exact this 32 (by simp [x.2]; omega)
theorem lim_most {b : List UInt8} {most : Int} (h : (lim b most).2.2 = 0) : ((lim b most).1.length : Int) ≤ most := by
 unfold lim at h ⊢
 split at h
 · rename_i hn; exact absurd h hn
 · rename_i hn
   rw [if_neg hn]
   obtain ⟨q1, q2, q3⟩ := sp_ok (b := (bnd b most).2.1) (n := (bnd b most).1) h
   have := (bnd_only (b := b) (most := most) (by simpa using hn)).2
   simp only; omega
theorem tkF_most {most : Int} : ∀ (n : Nat) (acc : List (List UInt8)) (b : List UInt8), (tkF most n acc b).2.2 = 0 → (∀ x ∈ acc, (x.length : Int) ≤ most) → ∀ x ∈ (tkF most n acc b).1, (x.length : Int) ≤ most
 | 0, acc, b, h, ha => ha
 | n + 1, acc, b, h, ha => by
   rw [tkF_succ] at h ⊢
   split at h
   · rename_i hn; exact absurd h hn
   · rename_i hn
     rw [if_neg hn]
     refine tkF_most n _ _ h fun x hx => ?_
     rcases List.mem_append.1 hx with hx | hx
     · exact ha x hx
     · rw [List.mem_singleton.1 hx]; exact lim_most (by simpa using hn)
theorem lst_most {b : List UInt8} {many most : Int} (h : (lst b many most).2.2 = 0) : ∀ x ∈ (lst b many most).1, (x.length : Int) ≤ most := by
 unfold lst at h ⊢
 split at h
 · rename_i hn; exact absurd h hn
 · rename_i hn
   rw [if_neg hn]
   exact tkF_most _ _ _ h (by simp)
theorem cLim (most : Nat) (hm : (most : Int) ≤ 9223372036854775807) : Cod (ofT fun b => lim b most) (fun x => sizeB x.length ++ x) (fun x => x.length ≤ most) := by
 refine Cod.ofT (fun x r h => lim_put r (by omega) hm) (fun b h => ⟨?_, lim_only h⟩) (fun x k h hk => ?_)
 · have := lim_most h; omega
 · rw [lim_cut (by omega) hm hk]
theorem cLst (many most : Nat) (hm : (many : Int) ≤ 9223372036854775807) (hm2 : (most : Int) ≤ 9223372036854775807) : Cod (ofT fun b => lst b many most) (fun x => sizeB x.length ++ flat x) (fun x => x.length ≤ many ∧ ∀ y ∈ x, y.length ≤ most) := by
 refine Cod.ofT (fun x r h => lst_put r (by have := h.1; omega) hm hm2 fun y hy => by have := h.2 y hy; omega) (fun b h => ⟨⟨?_, fun y hy => ?_⟩, (lst_only h).2⟩) (fun x k h hk => ?_)
 · have := (lst_only h).1; omega
 · have := lst_most h y hy; omega
 · rw [lst_cut (by have := h.1; omega) hm hm2 (fun y hy => by have := h.2 y hy; omega) hk]
theorem cScr : Cod (ofT tScr) (fun x => sizeB x.length ++ x) (fun x => x.length ≤ 1000) := cLim 1000 (by omega)
theorem cWit : Cod (ofT tWit) (fun x => sizeB x.length ++ flat x) (fun x => x.length ≤ 30 ∧ ∀ y ∈ x, y.length ≤ 1000) := cLst 30 1000 (by omega) (by omega)
theorem cCnt (m : Nat) (hm : (m : Int) ≤ 9223372036854775807) : Cod (ofT (tCnt m)) (fun n => sizeB (n : Nat)) (fun n => n ≤ m) := by
 refine Cod.ofT (fun x r h => ?_) (fun b h => ⟨?_, (bnd_only h).1⟩) (fun x k h hk => ?_)
 · have := bnd_put (n := x) (most := m) r (by omega) (by omega) hm
   exact this
 · have := (bnd_only h).2; show (bnd b m).1 ≤ m; omega
 · show (bnd _ _).2.2 = 2
   rw [bnd_cut (by omega) hk]
theorem ofT_cntD (m : Nat) : ofT (tCntD m) = ofT (tCnt m) := by
 funext b
 unfold ofT
 by_cases h1 : (sz b).2.2 = 0
 · by_cases h2 : m < (sz b).1
   · have e1 : tCntD m b = (0, (sz b).2.1, 4) := by unfold tCntD; rw [if_pos ⟨h1, h2⟩]
     have e2 : tCnt m b = (0, [], 4) := by unfold tCnt bnd; rw [if_neg (by simpa using h1), if_pos (Or.inr (by omega))]
     rw [e1, e2]; simp
   · have e1 : tCntD m b = ((sz b).1, (sz b).2.1, 0) := by unfold tCntD; rw [if_neg (fun h => h2 h.2), if_neg (by simpa using h1)]
     have e2 : tCnt m b = ((sz b).1, (sz b).2.1, 0) := by unfold tCnt bnd; rw [if_neg (by simpa using h1), if_neg (by omega)]
     rw [e1, e2]
 · have e1 : tCntD m b = (0, (sz b).2.1, (sz b).2.2) := by unfold tCntD; rw [if_neg (fun h => h1 h.1), if_pos h1]
   have e2 : tCnt m b = (0, [], (sz b).2.2) := by unfold tCnt bnd; rw [if_pos h1]
   rw [e1, e2]; simp [h1]
variable {α : Type}
def rdX (P : Bool) (t : List UInt8 → α × List UInt8 × Int) (d : α) (s : RSt) : α × RSt := if P then rd t d s else rdD t d s
theorem goodX (P : Bool) (t : List UInt8 → α × List UInt8 × Int) (d : α) : Good (rdX P t d) (ofT t) := by
 cases P
 · exact Good.rdD t d
 · exact Good.rd t d
theorem rdX_len {P : Bool} {t : List UInt8 → α × List UInt8 × Int} {d : α} {s : RSt} (h : ∀ b, (t b).2.1.length ≤ b.length) : (rdX P t d s).2.b.length ≤ s.b.length := by
 unfold rdX
 have := h s.b
 cases P
 · simp only [Bool.false_eq_true, if_false]; unfold rdD; split
   · exact Nat.le_refl _
   · exact this
 · simp only [if_true]; unfold rd; split
   · exact Nat.le_refl _
   · split
     · exact Nat.le_refl _
     · exact this
def rdCnt (P : Bool) (m : Nat) (s : RSt) : Nat × RSt := rdX P (if P then tCnt m else tCntD m) 0 s
theorem goodCnt (P : Bool) (m : Nat) : Good (rdCnt P m) (ofT (tCnt m)) := by
 cases P
 · have := goodX false (tCntD m) 0; rw [ofT_cntD] at this; exact this
 · exact goodX true (tCnt m) 0
theorem t32_len (b : List UInt8) : (t32 b).2.1.length ≤ b.length := spB_len b 4
theorem t64_len (b : List UInt8) : (t64 b).2.1.length ≤ b.length := spB_len b 8
theorem tH_len (b : List UInt8) : (tH b).2.1.length ≤ b.length := spB_len b 32
theorem tScr_len (b : List UInt8) : (tScr b).2.1.length ≤ b.length := (lim_len _ _).2
theorem tkF_len {most : Int} : ∀ (n : Nat) (acc : List (List UInt8)) (b : List UInt8), (tkF most n acc b).2.1.length ≤ b.length
 | 0, acc, b => Nat.le_refl _
 | n + 1, acc, b => by
   rw [tkF_succ]
   split
   · simp
   · have := tkF_len n (acc ++ [(lim b most).1]) (lim b most).2.1 (most := most)
     have := (lim_len b most).2
     omega
theorem lst_len (b : List UInt8) (many most : Int) : (lst b many most).2.1.length ≤ b.length := by
 unfold lst
 split
 · simp
 · have := tkF_len (bnd b many).1 [] (bnd b many).2.1 (most := most)
   have := bnd_len b many
   omega
theorem tWit_len (b : List UInt8) : (tWit b).2.1.length ≤ b.length := lst_len _ _ _
theorem tCnt_len (P : Bool) (m : Nat) (b : List UInt8) : ((if P then tCnt m else tCntD m) b).2.1.length ≤ b.length := by
 cases P
 · show (tCntD m b).2.1.length ≤ _
   have := sz_len b
   unfold tCntD; repeat' split
   all_goals exact this
 · exact bnd_len _ _
theorem cnt_len {P : Bool} {m : Nat} {s : RSt} : (rdCnt P m s).2.b.length ≤ s.b.length := rdX_len (tCnt_len P m)
theorem cnt_most (P : Bool) (m : Nat) (s : RSt) : (rdCnt P m s).1 ≤ m := by
 cases P
 · show (rdD (tCntD m) 0 s).1 ≤ m
   unfold rdD; split
   · exact Nat.zero_le _
   · show (tCntD m s.b).1 ≤ m
     unfold tCntD; repeat' split
     all_goals first | exact Nat.zero_le _ | (dsimp only; omega)
 · show (rd (tCnt m) 0 s).1 ≤ m
   unfold rd; repeat' split
   all_goals first | exact Nat.zero_le _ | skip
   rename_i h1 h2
   have := (bnd_only (b := s.b) (most := m) (Classical.not_not.1 h2)).2
   show (bnd s.b m).1 ≤ m
   omega
def bIn (a : H32 × UInt32 × UInt32) : TIn := ⟨a.1, a.2.1, a.2.2, []⟩
def rdIn (P : Bool) (s : RSt) : TIn × RSt :=
 (⟨(rdX P tH zH s).1, (rdX P t32 0 (rdX P tH zH s).2).1, (rdX P t32 0 (rdX P t32 0 (rdX P tH zH s).2).2).1, []⟩, (rdX P t32 0 (rdX P t32 0 (rdX P tH zH s).2).2).2)
def rdOut (P : Bool) (s : RSt) : TOut × RSt := (⟨(rdX P t64 0 s).1, (rdX P tScr [] (rdX P t64 0 s).2).1⟩, (rdX P tScr [] (rdX P t64 0 s).2).2)
def rdWit (P : Bool) (s : RSt) : List (List UInt8) × RSt := rdX P tWit [] s
def wits : List TIn → List (List (List UInt8)) → List TIn
 | x :: l, w :: k => ⟨x.prev, x.idx, x.seq, w⟩ :: wits l k
 | l, _ => l
def rdTx (P : Bool) (s : RSt) : TTx × RSt :=
 let v := rdX P t32 0 s
 let n := rdCnt P 20 v.2
 let is := rdN (rdIn P) n.1 n.2
 let m := rdCnt P 20 is.2
 let os := rdN (rdOut P) m.1 m.2
 let k := rdX P t32 0 os.2
 let ws := rdN (rdWit P) is.1.length k.2
 (⟨v.1, wits is.1 ws.1, os.1, k.1⟩, ws.2)
def pIn : Rdg TIn := pbind (ofT tH) fun h => pbind (ofT t32) fun i => pbind (ofT t32) fun q => ppure ⟨h, i, q, []⟩
def pOut : Rdg TOut := pbind (ofT t64) fun v => pbind (ofT tScr) fun x => ppure ⟨v, x⟩
def pTx : Rdg TTx := pbind (ofT t32) fun v => pbind (ofT (tCnt 20)) fun n => pbind (pN pIn n) fun is => pbind (ofT (tCnt 20)) fun m => pbind (pN pOut m) fun os => pbind (ofT t32) fun k => pbind (pN (ofT tWit) is.length) fun ws => ppure ⟨v, wits is ws, os, k⟩
theorem goodIn (P : Bool) : Good (rdIn P) pIn :=
 (goodX P tH zH).bind (g := fun h s => (TIn.mk h (rdX P t32 0 s).1 (rdX P t32 0 (rdX P t32 0 s).2).1 [], (rdX P t32 0 (rdX P t32 0 s).2).2)) fun h =>
   (goodX P t32 0).bind (g := fun i s => (TIn.mk h i (rdX P t32 0 s).1 [], (rdX P t32 0 s).2)) fun i =>
     (goodX P t32 0).bind (g := fun q s => (TIn.mk h i q [], s)) fun q => Good.pure _
theorem goodOut (P : Bool) : Good (rdOut P) pOut :=
 (goodX P t64 0).bind (g := fun v s => (TOut.mk v (rdX P tScr [] s).1, (rdX P tScr [] s).2)) fun v =>
   (goodX P tScr []).bind (g := fun x s => (TOut.mk v x, s)) fun x => Good.pure _
theorem goodTx (P : Bool) : Good (rdTx P) pTx :=
 (goodX P t32 0).bind (g := fun v s =>
   let n := rdCnt P 20 s
   let is := rdN (rdIn P) n.1 n.2
   let m := rdCnt P 20 is.2
   let os := rdN (rdOut P) m.1 m.2
   let k := rdX P t32 0 os.2
   let ws := rdN (rdWit P) is.1.length k.2
   (TTx.mk v (wits is.1 ws.1) os.1 k.1, ws.2)) fun v =>
 (goodCnt P 20).bind (g := fun n s =>
   let is := rdN (rdIn P) n s
   let m := rdCnt P 20 is.2
   let os := rdN (rdOut P) m.1 m.2
   let k := rdX P t32 0 os.2
   let ws := rdN (rdWit P) is.1.length k.2
   (TTx.mk v (wits is.1 ws.1) os.1 k.1, ws.2)) fun n =>
 ((goodIn P).rep n).bind (g := fun is s =>
   let m := rdCnt P 20 s
   let os := rdN (rdOut P) m.1 m.2
   let k := rdX P t32 0 os.2
   let ws := rdN (rdWit P) is.length k.2
   (TTx.mk v (wits is ws.1) os.1 k.1, ws.2)) fun is =>
 (goodCnt P 20).bind (g := fun m s =>
   let os := rdN (rdOut P) m s
   let k := rdX P t32 0 os.2
   let ws := rdN (rdWit P) is.length k.2
   (TTx.mk v (wits is ws.1) os.1 k.1, ws.2)) fun m =>
 ((goodOut P).rep m).bind (g := fun os s =>
   let k := rdX P t32 0 s
   let ws := rdN (rdWit P) is.length k.2
   (TTx.mk v (wits is ws.1) os k.1, ws.2)) fun os =>
 (goodX P t32 0).bind (g := fun k s =>
   let ws := rdN (rdWit P) is.length s
   (TTx.mk v (wits is ws.1) os k, ws.2)) fun k =>
 ((goodX P tWit []).rep is.length).bind (g := fun ws s => (TTx.mk v (wits is ws) os k, s)) fun ws => Good.pure _
def pPair {β : Type} (p : Rdg α) (q : α → Rdg β) : Rdg (α × β) := pbind p fun x => pbind (q x) fun y => ppure (x, y)
theorem pbind_assoc {β γ : Type} (p : Rdg α) (q : α → Rdg β) (r : β → Rdg γ) : pbind (pbind p q) r = pbind p fun x => pbind (q x) r := by
 funext b
 unfold pbind
 cases p b <;> rfl
theorem pbind_pure {β : Type} (x : α) (q : α → Rdg β) : pbind (ppure x) q = q x := rfl
theorem wits_split : ∀ (l : List TIn), (∀ x ∈ l, x.wit = x.wit) → wits (l.map fun x => ⟨x.prev, x.idx, x.seq, []⟩) (l.map TIn.wit) = l
 | [], _ => rfl
 | x :: l, h => by simp only [List.map_cons, wits]; rw [wits_split l fun _ _ => rfl]
theorem wits_map : ∀ (l : List TIn) (k : List (List (List UInt8))), l.length = k.length → (∀ x ∈ l, x.wit = []) → ((wits l k).map fun x : TIn => (⟨x.prev, x.idx, x.seq, []⟩ : TIn)) = l ∧ (wits l k).map TIn.wit = k
 | [], [], _, _ => ⟨rfl, rfl⟩
 | [], _ :: _, h, _ => by simp at h
 | _ :: _, [], h, _ => by simp at h
 | x :: l, w :: k, h, hw => by
   obtain ⟨h1, h2⟩ := wits_map l k (by simpa using h) fun y hy => hw y (by simp [hy])
   have h3 := hw x (by simp)
   obtain ⟨a, b, c, d⟩ := x
   dsimp only at h3
   subst h3
   simp only [wits, List.map_cons, h1, h2]
   exact ⟨trivial, trivial⟩
theorem wits_len : ∀ (l : List TIn) (k : List (List (List UInt8))), (wits l k).length = l.length
 | [], _ => by simp [wits]
 | _ :: _, [] => by simp [wits]
 | x :: l, w :: k => by simp [wits, wits_len l k]
abbrev TxTup := UInt32 × Nat × List TIn × Nat × List TOut × UInt32 × List (List (List UInt8))
theorem cIn : Cod pIn tInB (fun x => x.wit = []) := by
 have := (Cod.pair cH fun _ _ => Cod.pair codN32 fun _ _ => codN32).map (fun z => (⟨z.1, z.2.1, z.2.2, []⟩ : TIn)) (fun x => (x.prev, x.idx, x.seq)) (fun x => x.wit = [])
   (fun z _ => ⟨rfl, rfl⟩) (fun x h => ⟨⟨trivial, trivial, trivial⟩, by obtain ⟨a, b, c, d⟩ := x; dsimp only at h; subst h; rfl⟩)
 refine this.congr (fun b => ?_) (fun x => ?_) (fun x => Iff.rfl)
 · simp only [pIn, pbind_assoc, pbind_pure]
 · simp only [tInB, List.append_assoc]
theorem cOut : Cod pOut tOutB (fun x => scrOk x = true) := by
 have := (Cod.pair codN64 fun _ _ => cScr).map (fun z => (⟨z.1, z.2⟩ : TOut)) (fun x => (x.val, x.scr)) (fun x => scrOk x = true)
   (fun z h => ⟨rfl, by simpa [scrOk] using h.2⟩) (fun x h => ⟨⟨trivial, by simpa [scrOk] using h⟩, rfl⟩)
 refine this.congr (fun b => ?_) (fun x => ?_) (fun x => Iff.rfl)
 · simp only [pOut, pbind_assoc, pbind_pure]
 · simp only [tOutB]
theorem cTx : Cod pTx wholeB (fun t => countsB t = true) := by
 have := (Cod.pair codN32 fun v _ => Cod.pair (cCnt 20 (by omega)) fun n _ => Cod.pair (cIn.rep n) fun is _ => Cod.pair (cCnt 20 (by omega)) fun m _ => Cod.pair (cOut.rep m) fun os _ => Cod.pair codN32 fun k _ => cWit.rep is.length).map
   (fun z => (⟨z.1, wits z.2.2.1 z.2.2.2.2.2.2, z.2.2.2.2.1, z.2.2.2.2.2.1⟩ : TTx))
   (fun t => (t.ver, t.ins.length, t.ins.map (fun x => ⟨x.prev, x.idx, x.seq, []⟩), t.outs.length, t.outs, t.lock, t.ins.map TIn.wit)) (fun t => countsB t = true) ?_ ?_
 · refine this.congr (fun b => ?_) (fun t => ?_) (fun x => Iff.rfl)
   · simp only [pTx, pbind_assoc, pbind_pure]
   · have e1 : cat tInB (t.ins.map (fun x => (⟨x.prev, x.idx, x.seq, []⟩ : TIn))) = cat tInB t.ins := by
       unfold cat; rw [List.map_map]; rfl
     have e2 : cat (fun x : List (List UInt8) => sizeB x.length ++ flat x) (t.ins.map TIn.wit) = cat witB t.ins := by
       unfold cat; rw [List.map_map]; rfl
     dsimp only
     rw [e1, e2]
     simp only [wholeB, bareB, List.append_assoc]
 · rintro ⟨v, n, is, m, os, k, ws⟩ ⟨_, h1, ⟨h2, h3⟩, h4, ⟨h5, h6⟩, _, h7, h8⟩
   dsimp only at h1 h2 h3 h4 h5 h6 h7 h8 ⊢
   obtain ⟨e1, e2⟩ := wits_map is ws h7.symm h3
   refine ⟨by rw [wits_len, e1, e2, h2, h5], ?_⟩
   have : ∀ x ∈ wits is ws, x.wit.length ≤ 30 ∧ ∀ y ∈ x.wit, y.length ≤ 1000 := fun x hx => h8 x.wit (by rw [← e2]; exact List.mem_map_of_mem hx)
   simp only [countsB, wits_len, Bool.and_eq_true, decide_eq_true_eq, List.all_eq_true, witOk]
   exact ⟨⟨⟨by omega, by omega⟩, h6⟩, this⟩
 · intro t h
   simp only [countsB, Bool.and_eq_true, decide_eq_true_eq, List.all_eq_true, witOk] at h
   obtain ⟨⟨⟨h1, h2⟩, h3⟩, h4⟩ := h
   refine ⟨⟨trivial, h1, ⟨by simp, by simp⟩, h2, ⟨rfl, h3⟩, trivial, by simp, ?_⟩, ?_⟩
   · intro w hw
     obtain ⟨x, hx, rfl⟩ := List.mem_map.1 hw
     exact h4 x hx
   · rw [wits_split _ fun _ _ => rfl]
def takTx (b : List UInt8) : Res TTx := match pTx b with
 | .ok t r => if b.length - r.length ≤ 12000 then .ok t r else .err 4
 | .err e => .err e
def decTx (b : List UInt8) : Res TTx := match takTx b with
 | .ok t r => if r = [] then .ok t [] else .err 3
 | .err e => .err e
theorem takTx_put {t : TTx} (r : List UInt8) (h : fitsB t = true) : takTx (wholeB t ++ r) = .ok t r := by
 simp only [fitsB, Bool.and_eq_true, decide_eq_true_eq] at h
 unfold takTx
 rw [cTx.put t r h.1]
 dsimp only
 rw [if_pos (by simp; omega)]
theorem takTx_only {b r : List UInt8} {t : TTx} (h : takTx b = .ok t r) : fitsB t = true ∧ wholeB t ++ r = b := by
 unfold takTx at h
 split at h
 · rename_i t' r' h1
   split at h
   · rename_i h2
     cases h
     obtain ⟨k1, k2⟩ := cTx.only _ _ _ h1
     refine ⟨?_, k2⟩
     simp only [fitsB, Bool.and_eq_true, decide_eq_true_eq]
     refine ⟨k1, ?_⟩
     rw [← k2] at h2
     simp at h2; omega
   · cases h
 · cases h
theorem takTx_cut {t : TTx} {k : Nat} (h : fitsB t = true) (hk : k < (wholeB t).length) : takTx ((wholeB t).take k) = .err 2 := by
 simp only [fitsB, Bool.and_eq_true, decide_eq_true_eq] at h
 unfold takTx
 rw [cTx.cut t k h.1 hk]
theorem takTx_err {b : List UInt8} {e : Int} (h : takTx b = .err e) : e ≠ 0 := by
 unfold takTx at h
 split at h
 · split at h
   · cases h
   · cases h; decide
 · rename_i e' h1
   cases h
   exact ((goodTx true).err b _ h1).1
theorem decTx_ok {b r : List UInt8} {t : TTx} (h : decTx b = .ok t r) : fitsB t = true ∧ wholeB t = b ∧ r = [] := by
 unfold decTx at h
 split at h
 · rename_i t' r' h1
   split at h
   · rename_i hr
     cases h
     obtain ⟨k1, k2⟩ := takTx_only h1
     subst hr
     exact ⟨k1, by simpa using k2, rfl⟩
   · cases h
 · cases h
theorem decTx_put {t : TTx} (h : fitsB t = true) : decTx (wholeB t) = .ok t [] := by
 have := takTx_put [] h
 rw [List.append_nil] at this
 unfold decTx
 rw [this]
 dsimp only
 rw [if_pos rfl]
theorem decTx_more {t : TTx} {x : UInt8} {r : List UInt8} (h : fitsB t = true) : decTx (wholeB t ++ x :: r) = .err 3 := by
 unfold decTx
 rw [takTx_put _ h]
 dsimp only
 rw [if_neg (by simp)]
theorem decTx_err {b : List UInt8} {e : Int} (h : decTx b = .err e) : e ≠ 0 := by
 unfold decTx at h
 split at h
 · split at h
   · cases h
   · cases h; decide
 · rename_i e' h1
   cases h
   exact takTx_err h1
theorem fits_chk {t : TTx} (h : fitsB t = true) : chkE t = 0 := if_pos h
theorem nfits_chk {t : TTx} (h : fitsB t = false) : chkE t = 4 := if_neg (by simp [h])
end Go.Fw

end

section
namespace Go.Fw
open Go
variable {α : Type}
theorem all_take (p : α → Bool) (d : α) (l : List α) (k : Nat) (h : k < l.length) : (l.take (k + 1)).all p = ((l.take k).all p && p (l.getD k d)) := by
 rw [take_getDx d l k h]; simp
theorem all_getD (p : α → Bool) (d : α) (l : List α) (k : Nat) (h : k < l.length) (hp : p (l.getD k d) = false) : l.all p = false := by
 have hm : l.getD k d ∈ l := by simp [h]
 cases e : l.all p with
 | false => rfl
 | true =>
   rw [List.all_eq_true] at e
   have h9 := e _ hm
   rw [hp] at h9; cases h9
theorem drop_getD (d : α) (l : List α) (k : Nat) (h : k < l.length) : l.drop k = l.getD k d :: l.drop (k + 1) := by
 rw [List.drop_eq_getElem_cons h]; simp [h]
def fstI (p : α → Bool) : List α → Nat → Int
 | [], _ => -1
 | x :: l, k => if p x = true then (k : Int) else fstI p l (k + 1)
theorem fstI_any (p : α → Bool) : ∀ (l : List α) (k : Nat), decide (0 ≤ fstI p l k) = l.any p
 | [], k => rfl
 | x :: l, k => by
   unfold fstI
   rw [List.any_cons]
   cases p x
   · simp only [Bool.false_eq_true, if_false, Bool.false_or]; exact fstI_any p l (k + 1)
   · simp only [if_true, Bool.true_or]; simp
theorem fstI_yes (p : α → Bool) (d : α) (l : List α) (k : Nat) (h : k < l.length) (hp : p (l.getD k d) = true) : fstI p (l.drop k) k = (k : Int) := by
 rw [drop_getD d l k h, fstI, if_pos hp]
theorem fstI_no (p : α → Bool) (d : α) (l : List α) (k : Nat) (h : k < l.length) (hp : p (l.getD k d) = false) : fstI p (l.drop k) k = fstI p (l.drop (k + 1)) (k + 1) := by
 rw [drop_getD d l k h, fstI, if_neg (by rw [hp]; exact Bool.false_ne_true)]
theorem fstI_end (p : α → Bool) (l : List α) : fstI p (l.drop l.length) l.length = -1 := by rw [List.drop_length]; rfl
theorem getD_ne (d : α) {l m : List α} (k : Nat) (h : l.getD k d ≠ m.getD k d) : l ≠ m := fun e => h (by rw [e])
theorem take_eq_succ (d : α) {l m : List α} {k : Nat} (h1 : k < l.length) (h2 : k < m.length) (h : l.take k = m.take k) (e : l.getD k d = m.getD k d) : l.take (k + 1) = m.take (k + 1) := by
 rw [take_getDx d l k h1, take_getDx d m k h2, h, e]
theorem take_eq_all {l m : List α} (hl : l.length = m.length) (h : l.take l.length = m.take l.length) : l = m := by
 rw [List.take_length, hl, List.take_length] at h; exact h
def longB (x : List UInt8) : Bool := decide (1000 < (x.length : Int))
theorem scrOk_long (x : TOut) : scrOk x = !longB x.scr := by
 unfold scrOk longB
 by_cases h : x.scr.length ≤ 1000
 · have : ¬ (1000 < (x.scr.length : Int)) := by omega
   simp [h, this]
 · have : (1000 < (x.scr.length : Int)) := by omega
   simp [h, this]
theorem witOk_long (x : TIn) : witOk x = (!(decide (30 < (x.wit.length : Int)) || x.wit.any longB)) := by
 unfold witOk
 have e1 : decide (x.wit.length ≤ 30) = !decide (30 < (x.wit.length : Int)) := by
   by_cases h : x.wit.length ≤ 30
   · have : ¬ (30 < (x.wit.length : Int)) := by omega
     simp [h, this]
   · have : (30 < (x.wit.length : Int)) := by omega
     simp [h, this]
 have e2 : (x.wit.all fun y => decide (y.length ≤ 1000)) = !x.wit.any longB := by
   rw [List.not_any_eq_all_not]
   congr 1
   funext y
   exact scrOk_long ⟨0, y⟩
 rw [e1, e2, Bool.not_or]
theorem countsB_eq (t : TTx) : countsB t = (decide (t.ins.length ≤ 20) && decide (t.outs.length ≤ 20) && t.outs.all scrOk && t.ins.all witOk) := rfl
theorem wits_nil (l : List TIn) : wits l [] = l := by cases l <;> rfl
theorem wits_at : ∀ (l : List TIn) (k : List (List (List UInt8))), k.length < l.length → (wits l k).getD k.length dIn = l.getD k.length dIn
 | [], _, h => by simp at h
 | x :: l, [], h => by rw [wits_nil]
 | x :: l, w :: k, h => by
   simp only [wits, List.length_cons, List.getD_cons_succ]
   exact wits_at l k (by simpa using h)
theorem wits_snoc : ∀ (l : List TIn) (k : List (List (List UInt8))) (w : List (List UInt8)), k.length < l.length → (wits l k).set k.length ⟨(l.getD k.length dIn).prev, (l.getD k.length dIn).idx, (l.getD k.length dIn).seq, w⟩ = wits l (k ++ [w])
 | [], _, _, h => by simp at h
 | x :: l, [], w, h => by rw [wits_nil]; simp [wits, wits_nil]
 | x :: l, v :: k, w, h => by
   simp only [wits, List.length_cons, List.getD_cons_succ, List.set_cons_succ, List.cons_append]
   rw [wits_snoc l k w (by simpa using h)]
theorem wits_set (l : List TIn) (k : List (List (List UInt8))) (w : List (List UInt8)) (i : Nat) (hi : k.length = i) (h : i < l.length) :
   ((wits l k).map inT).getD i default = inT ⟨(l.getD i dIn).prev, (l.getD i dIn).idx, (l.getD i dIn).seq, (l.getD i dIn).wit⟩ ∧
   ((wits l k).map inT).set i (inT ⟨(l.getD i dIn).prev, (l.getD i dIn).idx, (l.getD i dIn).seq, w⟩) = (wits l (k ++ [w])).map inT := by
 subst hi
 refine ⟨?_, ?_⟩
 · rw [in_getD _ _ (by rw [wits_len]; exact h), wits_at l k h]
 · rw [← List.map_set, wits_snoc l k w h]
def scrS (x : TOut) : Bool := decide (x.scr.length ≤ 600)
def witS (x : TIn) : Bool := decide (x.wit.length ≤ 6) && x.wit.all fun y => decide (y.length ≤ 600)
theorem smallT_eq (t : TTx) : smallT t = (decide (t.ins.length ≤ 6) && decide (t.outs.length ≤ 6) && t.outs.all scrS && t.ins.all witS) := rfl
theorem small_counts {t : TTx} (h : smallT t = true) : countsB t = true := by
 obtain ⟨h1, h2, h3, h4⟩ := smallT_ok h
 simp only [countsB, Bool.and_eq_true, decide_eq_true_eq, List.all_eq_true, scrOk, witOk]
 exact ⟨⟨⟨by omega, by omega⟩, fun x hx => by have := h3 x hx; omega⟩, fun x hx => ⟨by have := (h4 x hx).1; omega, fun y hy => by have := (h4 x hx).2 y hy; omega⟩⟩
theorem all_get {α : Type} (p : α → Bool) (d : α) (l : List α) (k : Nat) (h : k < l.length) (hl : l.all p = true) : p (l.getD k d) = true := by
 rw [List.all_eq_true] at hl
 exact hl _ (by simp [h])
end Go.Fw

end

section
namespace Go.Fw
open Go
abbrev shIn : Sh := .st [.st [.ba 32, .int .u32], .int .u32, .sq 1 .by]
abbrev shOut : Sh := .st [.int .u64, .by]
abbrev shTx : Sh := .st [.int .u32, .sq 35 shIn, .sq 2 shOut, .int .u32]
theorem list_of {α : Type} {f : α → T} {P : T → Prop} (hf : ∀ x, P x → x.wf → ∃ a, x = f a) : ∀ xs : List T, (∀ x ∈ xs, P x) → T.wfL xs → ∃ l : List α, xs = l.map f
 | [], _, _ => ⟨[], rfl⟩
 | x :: xs, h, hw => by
   obtain ⟨hw1, hw2⟩ := (by simpa only [T.wfL] using hw : x.wf ∧ T.wfL xs)
   obtain ⟨a, rfl⟩ := hf x (h x (by simp)) hw1
   obtain ⟨l, rfl⟩ := list_of hf xs (fun y hy => h y (by simp [hy])) hw2
   exact ⟨a :: l, rfl⟩
theorem by_of (x : T) (h : Sh.by.has x) (hw : x.wf) : ∃ a, x = .by a := by
 cases x <;> simp only [Sh.has] at h
 exact ⟨_, rfl⟩
theorem u32_shp {x : T} (h : (Sh.int .u32).has x) (hw : x.wf) : ∃ a : UInt32, x = .int .u32 (a.toNat : Int) := by
 cases x <;> simp only [Sh.has] at h
 rename_i k v
 subst h
 have hv := (inKb_iff .u32 v).2 (by simpa only [T.wf] using hw)
 have h1 : 0 ≤ v ∧ v < 4294967296 := by simp only [inKb, Bool.and_eq_true, decide_eq_true_eq] at hv; omega
 refine ⟨UInt32.ofNat v.toNat, ?_⟩
 rw [UInt32.toNat_ofNat']
 congr 1; omega
theorem u64_shp {x : T} (h : (Sh.int .u64).has x) (hw : x.wf) : ∃ a : UInt64, x = .int .u64 (a.toNat : Int) := by
 cases x <;> simp only [Sh.has] at h
 rename_i k v
 subst h
 have hv := (inKb_iff .u64 v).2 (by simpa only [T.wf] using hw)
 have h1 : 0 ≤ v ∧ v < 18446744073709551616 := by simp only [inKb, Bool.and_eq_true, decide_eq_true_eq] at hv; omega
 refine ⟨UInt64.ofNat v.toNat, ?_⟩
 rw [UInt64.toNat_ofNat']
 congr 1; omega
theorem h32_of {x : T} (h : (Sh.ba 32).has x) : ∃ a : H32, x = .ba 32 a.1 := by
 cases x <;> simp only [Sh.has] at h
 obtain ⟨rfl, h2⟩ := h
 exact ⟨⟨_, h2⟩, rfl⟩
theorem hasL1 {a : Sh} {l : List Sh} {xs : List T} (h : Sh.hasL (a :: l) xs) : ∃ x ys, xs = x :: ys ∧ a.has x ∧ Sh.hasL l ys := by
 cases xs <;> simp only [Sh.hasL] at h
 exact ⟨_, _, rfl, h.1, h.2⟩
theorem hasL0 {xs : List T} (h : Sh.hasL [] xs) : xs = [] := by
 cases xs <;> simp only [Sh.hasL] at h
 rfl
theorem wfL1 {x : T} {ys : List T} (h : T.wfL (x :: ys)) : x.wf ∧ T.wfL ys := by simpa only [T.wfL] using h
theorem in_of (x : T) (h : shIn.has x) (hw : x.wf) : ∃ a, x = inT a := by
 cases x <;> simp only [Sh.has] at h
 simp only [T.wf] at hw
 obtain ⟨r, ys, rfl, h1, h2⟩ := hasL1 h
 obtain ⟨q, ys, rfl, h3, h4⟩ := hasL1 h2
 obtain ⟨w, ys, rfl, h5, h6⟩ := hasL1 h4
 obtain rfl := hasL0 h6
 obtain ⟨w1, hw⟩ := wfL1 hw
 obtain ⟨w2, hw⟩ := wfL1 hw
 obtain ⟨w3, hw⟩ := wfL1 hw
 cases r <;> simp only [Sh.has] at h1
 simp only [T.wf] at w1
 obtain ⟨hh, ys, rfl, g1, g2⟩ := hasL1 h1
 obtain ⟨i, ys, rfl, g3, g4⟩ := hasL1 g2
 obtain rfl := hasL0 g4
 obtain ⟨w4, w1⟩ := wfL1 w1
 obtain ⟨w5, w1⟩ := wfL1 w1
 obtain ⟨a, rfl⟩ := h32_of g1
 obtain ⟨b, rfl⟩ := u32_shp g3 w5
 obtain ⟨c, rfl⟩ := u32_shp h3 w2
 cases w <;> simp only [Sh.has] at h5
 obtain ⟨rfl, h5⟩ := h5
 simp only [T.wf] at w3
 obtain ⟨l, rfl⟩ := list_of by_of _ h5 w3.2.2.2
 exact ⟨⟨a, b, c, l⟩, rfl⟩
theorem out_of (x : T) (h : shOut.has x) (hw : x.wf) : ∃ a, x = outT a := by
 cases x <;> simp only [Sh.has] at h
 simp only [T.wf] at hw
 obtain ⟨v, ys, rfl, h1, h2⟩ := hasL1 h
 obtain ⟨s, ys, rfl, h3, h4⟩ := hasL1 h2
 obtain rfl := hasL0 h4
 obtain ⟨w1, hw⟩ := wfL1 hw
 obtain ⟨w2, hw⟩ := wfL1 hw
 obtain ⟨a, rfl⟩ := u64_shp h1 w1
 obtain ⟨b, rfl⟩ := by_of s h3 w2
 exact ⟨⟨a, b⟩, rfl⟩
theorem tx_of {x : T} (h : shTx.has x) (hw : x.wf) : ∃ a, x = txT a := by
 cases x <;> simp only [Sh.has] at h
 simp only [T.wf] at hw
 obtain ⟨v, ys, rfl, h1, h2⟩ := hasL1 h
 obtain ⟨is, ys, rfl, h3, h4⟩ := hasL1 h2
 obtain ⟨os, ys, rfl, h5, h6⟩ := hasL1 h4
 obtain ⟨k, ys, rfl, h7, h8⟩ := hasL1 h6
 obtain rfl := hasL0 h8
 obtain ⟨w1, hw⟩ := wfL1 hw
 obtain ⟨w2, hw⟩ := wfL1 hw
 obtain ⟨w3, hw⟩ := wfL1 hw
 obtain ⟨w4, hw⟩ := wfL1 hw
 obtain ⟨a, rfl⟩ := u32_shp h1 w1
 obtain ⟨b, rfl⟩ := u32_shp h7 w4
 cases is <;> simp only [Sh.has] at h3
 obtain ⟨rfl, h3⟩ := h3
 simp only [T.wf] at w2
 obtain ⟨l, rfl⟩ := list_of in_of _ h3 w2.2.2.2
 cases os <;> simp only [Sh.has] at h5
 obtain ⟨rfl, h5⟩ := h5
 simp only [T.wf] at w3
 obtain ⟨m, rfl⟩ := list_of out_of _ h5 w3.2.2.2
 exact ⟨⟨a, l, m, b⟩, rfl⟩
end Go.Fw

end

section
namespace Go.Fw
open Go
structure THd where
 (ver : UInt32) (prev root : H32) (time bits nonce : UInt32)
 deriving DecidableEq
structure TBl where
 (hd : THd) (txs : List TTx)
 deriving DecidableEq
def hdT (h : THd) : T := .st [.int .u32 (h.ver.toNat : Int), .ba 32 h.prev.1, .ba 32 h.root.1, .int .u32 (h.time.toNat : Int), .int .u32 (h.bits.toNat : Int), .int .u32 (h.nonce.toNat : Int)]
theorem hdT_st (h : THd) : hdT h = .st [.int .u32 (h.ver.toNat : Int), .ba 32 h.prev.1, .ba 32 h.root.1, .int .u32 (h.time.toNat : Int), .int .u32 (h.bits.toNat : Int), .int .u32 (h.nonce.toNat : Int)] := rfl
def blT (b : TBl) : T := .st [hdT b.hd, .sq 4 (b.txs.map txT)]
def dHd : THd := ⟨0, zH, zH, 0, 0, 0⟩
def dBl : TBl := ⟨dHd, []⟩
theorem hdT_inj (a b : THd) (h : hdT a = hdT b) : a = b := by
 obtain ⟨a1, a2, a3, a4, a5, a6⟩ := a
 obtain ⟨b1, b2, b3, b4, b5, b6⟩ := b
 unfold hdT at h
 simp only [T.st.injEq, List.cons.injEq, T.ba.injEq, T.int.injEq, true_and, and_true] at h
 obtain ⟨h1, h2, h3, h4, h5, h6⟩ := h
 rw [n32_inj h1, Subtype.ext h2, Subtype.ext h3, n32_inj h4, n32_inj h5, n32_inj h6]
theorem blT_inj (a b : TBl) (h : blT a = blT b) : a = b := by
 obtain ⟨a1, a2⟩ := a
 obtain ⟨b1, b2⟩ := b
 unfold blT at h
 simp only [T.st.injEq, List.cons.injEq, T.sq.injEq, true_and, and_true] at h
 rw [hdT_inj _ _ h.1, map_inj txT_inj _ _ h.2]
def hdB (h : THd) : List UInt8 := le 4 (h.ver.toNat : Int) ++ h.prev.1 ++ h.root.1 ++ le 4 (h.time.toNat : Int) ++ le 4 (h.bits.toNat : Int) ++ le 4 (h.nonce.toNat : Int)
def dec4 (l : List UInt8) : UInt32 := UInt32.ofNat (num l)
def hdOf (b : List UInt8) : THd := ⟨dec4 (b.take 4), hOf ((b.drop 4).take 32), hOf ((b.drop 36).take 32), dec4 ((b.drop 68).take 4), dec4 ((b.drop 72).take 4), dec4 ((b.drop 76).take 4)⟩
theorem dec4_le (x : UInt32) : dec4 (le 4 (x.toNat : Int)) = x := by
 have hx := x.toNat_lt
 have hn := num_le 4 (x.toNat : Int) (by omega) (by simp; omega)
 have hn' : num (le 4 (x.toNat : Int)) = x.toNat := by omega
 unfold dec4; rw [hn']; exact UInt32.ofNat_toNat ..
theorem le_dec4 {l : List UInt8} (h : l.length = 4) : le 4 ((dec4 l).toNat : Int) = l := by
 unfold dec4
 rw [u32_num _ (by omega)]
 have := le_num l
 rw [h] at this; exact this
theorem hOf_val {l : List UInt8} (h : l.length = 32) : (hOf l).1 = l := by unfold hOf; rw [dif_pos h]
theorem hOf_self (h : H32) : hOf h.1 = h := by unfold hOf; rw [dif_pos h.2]
theorem hdB_len (h : THd) : (hdB h).length = 80 := by simp [hdB, le_len, h.prev.2, h.root.2]
theorem tk_app {a b : List UInt8} {n : Nat} (h : a.length = n) : (a ++ b).take n = a := by subst h; simp
theorem dp_app {a b : List UInt8} {n : Nat} (h : a.length = n) : (a ++ b).drop n = b := by subst h; simp
theorem hd_put (h : THd) (r : List UInt8) : hdOf (hdB h ++ r) = h ∧ (hdB h ++ r).drop 80 = r := by
 refine ⟨?_, dp_app (hdB_len h)⟩
 obtain ⟨v, p, q, t, bi, no⟩ := h
 have e : hdB ⟨v, p, q, t, bi, no⟩ ++ r = le 4 (v.toNat : Int) ++ (p.1 ++ (q.1 ++ (le 4 (t.toNat : Int) ++ (le 4 (bi.toNat : Int) ++ (le 4 (no.toNat : Int) ++ r))))) := by simp only [hdB, List.append_assoc]
 rw [e]
 have l4 : ∀ x : UInt32, (le 4 (x.toNat : Int)).length = 4 := fun x => le_len 4 _
 unfold hdOf
 generalize hX : le 4 (v.toNat : Int) ++ (p.1 ++ (q.1 ++ (le 4 (t.toNat : Int) ++ (le 4 (bi.toNat : Int) ++ (le 4 (no.toNat : Int) ++ r))))) = X
 have d1 : X.drop 4 = p.1 ++ (q.1 ++ (le 4 (t.toNat : Int) ++ (le 4 (bi.toNat : Int) ++ (le 4 (no.toNat : Int) ++ r)))) := by rw [← hX]; exact dp_app (l4 _)
 have d2 : X.drop 36 = q.1 ++ (le 4 (t.toNat : Int) ++ (le 4 (bi.toNat : Int) ++ (le 4 (no.toNat : Int) ++ r))) := by rw [show 36 = 4 + 32 from rfl, ← List.drop_drop, d1]; exact dp_app p.2
 have d3 : X.drop 68 = le 4 (t.toNat : Int) ++ (le 4 (bi.toNat : Int) ++ (le 4 (no.toNat : Int) ++ r)) := by rw [show 68 = 36 + 32 from rfl, ← List.drop_drop, d2]; exact dp_app q.2
 have d4 : X.drop 72 = le 4 (bi.toNat : Int) ++ (le 4 (no.toNat : Int) ++ r) := by rw [show 72 = 68 + 4 from rfl, ← List.drop_drop, d3]; exact dp_app (l4 _)
 have d5 : X.drop 76 = le 4 (no.toNat : Int) ++ r := by rw [show 76 = 72 + 4 from rfl, ← List.drop_drop, d4]; exact dp_app (l4 _)
 have d0 : X.take 4 = le 4 (v.toNat : Int) := by rw [← hX]; exact tk_app (l4 _)
 rw [d0, d1, d2, d3, d4, d5, tk_app p.2, tk_app q.2, tk_app (l4 _), tk_app (l4 _), tk_app (l4 _), dec4_le, dec4_le, dec4_le, dec4_le, hOf_self, hOf_self]
theorem hd_only {b : List UInt8} (h : 80 ≤ b.length) : hdB (hdOf b) ++ b.drop 80 = b := by
 have s : ∀ k m : Nat, (b.drop k).take m ++ b.drop (k + m) = b.drop k := fun k m => by rw [← List.drop_drop]; exact List.take_append_drop m (b.drop k)
 have hl : ∀ k m : Nat, k + m ≤ 80 → ((b.drop k).take m).length = m := fun k m hk => by simp; omega
 unfold hdB hdOf
 dsimp only
 have h0 : (b.take 4).length = 4 := by simp; omega
 rw [le_dec4 h0, hOf_val (hl 4 32 (by omega)), hOf_val (hl 36 32 (by omega)), le_dec4 (hl 68 4 (by omega)), le_dec4 (hl 72 4 (by omega)), le_dec4 (hl 76 4 (by omega))]
 simp only [List.append_assoc]
 rw [s 76 4, s 72 4, s 68 4, s 36 32, s 4 32]
 exact List.take_append_drop 4 b
def pHd : Rdg THd := fun b => if b.length < 80 then .err 2 else .ok (hdOf b) (b.drop 80)
theorem cHd : Cod pHd hdB (fun _ => True) where
 put x r _ := by
   unfold pHd
   rw [if_neg (by simp [hdB_len]), (hd_put x r).1, (hd_put x r).2]
 only b x r h := by
   unfold pHd at h
   split at h
   · cases h
   · cases h; exact ⟨trivial, hd_only (by omega)⟩
 cut x k _ hk := by
   unfold pHd
   have := hdB_len x
   rw [if_pos (by simp; omega)]
theorem cTak : Cod takTx wholeB (fun t => fitsB t = true) where
 put t r h := takTx_put r h
 only b t r h := takTx_only h
 cut t k h hk := takTx_cut h hk
def pBl : Rdg TBl := pbind pHd fun h => pbind (ofT (tCnt 30)) fun n => pbind (pN takTx n) fun l => ppure ⟨h, l⟩
def blB (x : TBl) : List UInt8 := hdB x.hd ++ sizeB x.txs.length ++ cat wholeB x.txs
theorem cBl : Cod pBl blB (fun x => x.txs.length ≤ 30 ∧ ∀ t ∈ x.txs, fitsB t = true) := by
 have := (Cod.pair cHd fun h _ => Cod.pair (cCnt 30 (by omega)) fun n _ => cTak.rep n).map
   (fun z => (⟨z.1, z.2.2⟩ : TBl)) (fun x => (x.hd, x.txs.length, x.txs)) (fun x => x.txs.length ≤ 30 ∧ ∀ t ∈ x.txs, fitsB t = true) ?_ ?_
 · refine this.congr (fun b => ?_) (fun x => ?_) (fun x => Iff.rfl)
   · simp only [pBl, pbind_assoc, pbind_pure]
   · simp only [blB, List.append_assoc]
 · rintro ⟨h, n, l⟩ ⟨_, h1, h2, h3⟩
   dsimp only at h1 h2 h3 ⊢
   subst h2
   exact ⟨rfl, h1, h3⟩
 · intro x h
   exact ⟨⟨trivial, h.1, rfl, h.2⟩, rfl⟩
def decBl (b : List UInt8) : Res TBl := match pBl b with
 | .ok x r => if r = [] then (if b.length ≤ 40000 then .ok x [] else .err 4) else .err 3
 | .err e => .err e
def fitBl (x : TBl) : Bool := decide (x.txs.length ≤ 30) && x.txs.all fitsB && decide ((blB x).length ≤ 40000)
theorem fitBl_ok {x : TBl} (h : fitBl x = true) : x.txs.length ≤ 30 ∧ (∀ t ∈ x.txs, fitsB t = true) ∧ (blB x).length ≤ 40000 := by
 simpa [fitBl, and_assoc] using h
theorem fitBl_of {x : TBl} (h1 : x.txs.length ≤ 30) (h2 : ∀ t ∈ x.txs, fitsB t = true) (h3 : (blB x).length ≤ 40000) : fitBl x = true := by
 simp only [fitBl, Bool.and_eq_true, decide_eq_true_eq, List.all_eq_true]; exact ⟨⟨h1, h2⟩, h3⟩
def encE (x : TBl) : List UInt8 := if fitBl x = true then blB x else []
def encI (x : TBl) : Int := if fitBl x = true then 0 else 4
theorem decBl_put {x : TBl} (h : fitBl x = true) : decBl (blB x) = .ok x [] := by
 obtain ⟨h1, h2, h3⟩ := fitBl_ok h
 have := cBl.put x [] ⟨h1, h2⟩
 rw [List.append_nil] at this
 unfold decBl
 rw [this]
 dsimp only
 rw [if_pos rfl, if_pos h3]
theorem decBl_more {x : TBl} {c : UInt8} {r : List UInt8} (h : fitBl x = true) : decBl (blB x ++ c :: r) = .err 3 := by
 obtain ⟨h1, h2, h3⟩ := fitBl_ok h
 unfold decBl
 rw [cBl.put x _ ⟨h1, h2⟩]
 dsimp only
 rw [if_neg (by simp)]
theorem decBl_cut {x : TBl} {k : Nat} (h : fitBl x = true) (hk : k < (blB x).length) : decBl ((blB x).take k) = .err 2 := by
 obtain ⟨h1, h2, h3⟩ := fitBl_ok h
 unfold decBl
 rw [cBl.cut x k ⟨h1, h2⟩ hk]
theorem decBl_only {b r : List UInt8} {x : TBl} (h : decBl b = .ok x r) : fitBl x = true ∧ blB x = b ∧ r = [] := by
 unfold decBl at h
 split at h
 · rename_i y s h1
   split at h
   · split at h
     · rename_i h2 h3
       cases h
       subst h2
       obtain ⟨k1, k2⟩ := cBl.only _ _ _ h1
       rw [List.append_nil] at k2
       exact ⟨fitBl_of k1.1 k1.2 (by rw [k2]; exact h3), k2, rfl⟩
     · cases h
   · cases h
 · cases h
theorem blB_le {x : TBl} (h : x.txs.length ≤ 30) (hw : ∀ t ∈ x.txs, fitsB t = true) : (blB x).length ≤ 400000 := by
 have h1 := hdB_len x.hd
 have h2 := sizeB_len (x.txs.length : Int)
 have h3 := cat_len wholeB 12000 x.txs fun t ht => by
   have := hw t ht
   simp only [fitsB, Bool.and_eq_true, decide_eq_true_eq] at this
   exact this.2
 have h4 : x.txs.length * 12000 ≤ 30 * 12000 := Nat.mul_le_mul_right _ h
 simp only [blB, List.length_append]
 omega
abbrev shHd : Sh := .st [.int .u32, .ba 32, .ba 32, .int .u32, .int .u32, .int .u32]
abbrev shBl : Sh := .st [shHd, .sq 4 shTx]
theorem hd_of {x : T} (h : shHd.has x) (hw : x.wf) : ∃ a, x = hdT a := by
 cases x <;> simp only [Sh.has] at h
 simp only [T.wf] at hw
 obtain ⟨a, ys, rfl, h1, h2⟩ := hasL1 h
 obtain ⟨b, ys, rfl, h3, h4⟩ := hasL1 h2
 obtain ⟨c, ys, rfl, h5, h6⟩ := hasL1 h4
 obtain ⟨d, ys, rfl, h7, h8⟩ := hasL1 h6
 obtain ⟨e, ys, rfl, h9, g1⟩ := hasL1 h8
 obtain ⟨f, ys, rfl, g2, g3⟩ := hasL1 g1
 obtain rfl := hasL0 g3
 obtain ⟨w1, hw⟩ := wfL1 hw
 obtain ⟨w2, hw⟩ := wfL1 hw
 obtain ⟨w3, hw⟩ := wfL1 hw
 obtain ⟨w4, hw⟩ := wfL1 hw
 obtain ⟨w5, hw⟩ := wfL1 hw
 obtain ⟨w6, hw⟩ := wfL1 hw
 obtain ⟨a, rfl⟩ := u32_shp h1 w1
 obtain ⟨b, rfl⟩ := h32_of h3
 obtain ⟨c, rfl⟩ := h32_of h5
 obtain ⟨d, rfl⟩ := u32_shp h7 w4
 obtain ⟨e, rfl⟩ := u32_shp h9 w5
 obtain ⟨f, rfl⟩ := u32_shp g2 w6
 exact ⟨⟨a, b, c, d, e, f⟩, rfl⟩
theorem bl_of {x : T} (h : shBl.has x) (hw : x.wf) : ∃ a, x = blT a := by
 cases x <;> simp only [Sh.has] at h
 simp only [T.wf] at hw
 obtain ⟨a, ys, rfl, h1, h2⟩ := hasL1 h
 obtain ⟨b, ys, rfl, h3, h4⟩ := hasL1 h2
 obtain rfl := hasL0 h4
 obtain ⟨w1, hw⟩ := wfL1 hw
 obtain ⟨w2, hw⟩ := wfL1 hw
 obtain ⟨a, rfl⟩ := hd_of h1 w1
 cases b <;> simp only [Sh.has] at h3
 obtain ⟨rfl, h3⟩ := h3
 simp only [T.wf] at w2
 obtain ⟨l, rfl⟩ := list_of (fun x h w => tx_of h w) _ h3 w2.2.2.2
 exact ⟨⟨a, l⟩, rfl⟩
end Go.Fw

end

section
namespace Go.Fw
open Go
structure TQ where
 (op : UInt8) (name : H32) (idx hgt : UInt32) (bts : List UInt8)
 deriving DecidableEq
def qT (q : TQ) : T := .st [.int .u8 (q.op.toNat : Int), .ba 32 q.name.1, .int .u32 (q.idx.toNat : Int), .int .u32 (q.hgt.toNat : Int), .by q.bts]
theorem qT_st (q : TQ) : qT q = .st [.int .u8 (q.op.toNat : Int), .ba 32 q.name.1, .int .u32 (q.idx.toNat : Int), .int .u32 (q.hgt.toNat : Int), .by q.bts] := rfl
def dQ : TQ := ⟨0, zH, 0, 0, []⟩
theorem n8_inj {a b : UInt8} (h : (a.toNat : Int) = (b.toNat : Int)) : a = b := UInt8.toNat_inj.1 (by exact_mod_cast h)
theorem qT_inj (a b : TQ) (h : qT a = qT b) : a = b := by
 obtain ⟨a1, a2, a3, a4, a5⟩ := a
 obtain ⟨b1, b2, b3, b4, b5⟩ := b
 unfold qT at h
 simp only [T.st.injEq, List.cons.injEq, T.ba.injEq, T.by.injEq, T.int.injEq, true_and, and_true] at h
 obtain ⟨h1, h2, h3, h4, h5⟩ := h
 rw [n8_inj h1, Subtype.ext h2, n32_inj h3, n32_inj h4, h5]
def kQ (op : UInt8) : Nat := if op = 2 ∨ op = 4 then 1 else if op = 3 then 2 else if op = 5 ∨ op = 9 then 3 else if op = 6 then 4 else if op = 8 then 5 else 0
def isOp (op : UInt8) : Bool := decide (1 ≤ op.toNat) && decide (op.toNat ≤ 10)
def tBts (b : List UInt8) : List UInt8 × List UInt8 × Int := lim b 40000
theorem cBts : Cod (ofT tBts) (fun x => sizeB x.length ++ x) (fun x => x.length ≤ 40000) := cLim 40000 (by omega)
def bodyK (k : Nat) (q : TQ) : List UInt8 := match k with
 | 1 => q.name.1
 | 2 => q.name.1 ++ le 4 (q.idx.toNat : Int)
 | 3 => sizeB q.bts.length ++ q.bts
 | 4 => le 4 (q.idx.toNat : Int) ++ le 4 (q.hgt.toNat : Int)
 | 5 => le 4 (q.hgt.toNat : Int)
 | _ => []
def stripK (k : Nat) (q : TQ) : TQ := match k with
 | 1 => ⟨q.op, q.name, 0, 0, []⟩
 | 2 => ⟨q.op, q.name, q.idx, 0, []⟩
 | 3 => ⟨q.op, zH, 0, 0, q.bts⟩
 | 4 => ⟨q.op, zH, q.idx, q.hgt, []⟩
 | 5 => ⟨q.op, zH, 0, q.hgt, []⟩
 | _ => ⟨q.op, zH, 0, 0, []⟩
def pK (op : UInt8) (k : Nat) : Rdg TQ := match k with
 | 1 => pbind (ofT tH) fun h => ppure ⟨op, h, 0, 0, []⟩
 | 2 => pbind (ofT tH) fun h => pbind (ofT t32) fun i => ppure ⟨op, h, i, 0, []⟩
 | 3 => pbind (ofT tBts) fun x => ppure ⟨op, zH, 0, 0, x⟩
 | 4 => pbind (ofT t32) fun i => pbind (ofT t32) fun h => ppure ⟨op, zH, i, h, []⟩
 | 5 => pbind (ofT t32) fun h => ppure ⟨op, zH, 0, h, []⟩
 | _ => ppure ⟨op, zH, 0, 0, []⟩
def rdK (op : UInt8) (k : Nat) (s : RSt) : TQ × RSt := match k with
 | 1 => (⟨op, (rd tH zH s).1, 0, 0, []⟩, (rd tH zH s).2)
 | 2 => (⟨op, (rd tH zH s).1, (rd t32 0 (rd tH zH s).2).1, 0, []⟩, (rd t32 0 (rd tH zH s).2).2)
 | 3 => (⟨op, zH, 0, 0, (rd tBts [] s).1⟩, (rd tBts [] s).2)
 | 4 => (⟨op, zH, (rd t32 0 s).1, (rd t32 0 (rd t32 0 s).2).1, []⟩, (rd t32 0 (rd t32 0 s).2).2)
 | 5 => (⟨op, zH, 0, (rd t32 0 s).1, []⟩, (rd t32 0 s).2)
 | _ => (⟨op, zH, 0, 0, []⟩, s)
theorem kQ_cases (op : UInt8) : kQ op = 1 ∨ kQ op = 2 ∨ kQ op = 3 ∨ kQ op = 4 ∨ kQ op = 5 ∨ kQ op = 0 := by
 unfold kQ; repeat' split
 all_goals simp
theorem kQ_le (op : UInt8) : kQ op ≤ 5 := by have := kQ_cases op; omega
theorem k_all {p : Nat → Prop} (h0 : p 0) (h1 : p 1) (h2 : p 2) (h3 : p 3) (h4 : p 4) (h5 : p 5) : ∀ k, k ≤ 5 → p k
 | 0, _ => h0 | 1, _ => h1 | 2, _ => h2 | 3, _ => h3 | 4, _ => h4 | 5, _ => h5
 | k + 6, h => absurd h (by omega)
theorem goodK (op : UInt8) : ∀ k, k ≤ 5 → Good (rdK op k) (pK op k) := k_all
 (Good.pure _)
 ((Good.rd tH zH).bind (g := fun h s => (TQ.mk op h 0 0 [], s)) fun _ => Good.pure _)
 ((Good.rd tH zH).bind (g := fun h s => (TQ.mk op h (rd t32 0 s).1 0 [], (rd t32 0 s).2)) fun h => (Good.rd t32 0).bind (g := fun i s => (TQ.mk op h i 0 [], s)) fun _ => Good.pure _)
 ((Good.rd tBts []).bind (g := fun x s => (TQ.mk op zH 0 0 x, s)) fun _ => Good.pure _)
 ((Good.rd t32 0).bind (g := fun i s => (TQ.mk op zH i (rd t32 0 s).1 [], (rd t32 0 s).2)) fun i => (Good.rd t32 0).bind (g := fun h s => (TQ.mk op zH i h [], s)) fun _ => Good.pure _)
 ((Good.rd t32 0).bind (g := fun h s => (TQ.mk op zH 0 h [], s)) fun _ => Good.pure _)
theorem stripK_op : ∀ (k : Nat) (q : TQ), (stripK k q).op = q.op := fun k q => by unfold stripK; split <;> rfl
theorem stripK_two (q : TQ) : ∀ k, k ≤ 5 → stripK k (stripK k q) = stripK k q := k_all rfl rfl rfl rfl rfl rfl
theorem bodyK_strip (q : TQ) : ∀ k, k ≤ 5 → bodyK k (stripK k q) = bodyK k q := k_all rfl rfl rfl rfl rfl rfl
abbrev okK (op : UInt8) (k : Nat) (q : TQ) : Prop := q.op = op ∧ stripK k q = q ∧ q.bts.length ≤ 40000
theorem codNone (op : UInt8) : Cod (ppure (⟨op, zH, 0, 0, []⟩ : TQ)) (fun _ => []) (okK op 0) where
 put x r h := by
   obtain ⟨rfl, h2, _⟩ := h
   show Res.ok _ _ = Res.ok _ _
   rw [List.nil_append]; congr 1
 only b x r h := by
   unfold ppure at h; cases h; exact ⟨⟨rfl, rfl, Nat.zero_le _⟩, rfl⟩
 cut x k _ hk := absurd hk (by simp)
theorem codK (op : UInt8) : ∀ k, k ≤ 5 → Cod (pK op k) (bodyK k) (okK op k) := k_all
 (codNone op)
 ((cH.map (fun x => (⟨op, x, 0, 0, []⟩ : TQ)) (fun q => q.name) (okK op 1) (fun x _ => ⟨rfl, rfl, rfl, Nat.zero_le _⟩) (fun q h => ⟨trivial, by obtain ⟨rfl, h2, _⟩ := h; exact h2⟩)))
 (((Cod.pair cH fun _ _ => codN32).map (fun z => (⟨op, z.1, z.2, 0, []⟩ : TQ)) (fun q => (q.name, q.idx)) (okK op 2) (fun z _ => ⟨rfl, rfl, rfl, Nat.zero_le _⟩) (fun q h => ⟨⟨trivial, trivial⟩, by obtain ⟨rfl, h2, _⟩ := h; exact h2⟩)).congr (fun b => by simp only [pK, pbind_assoc, pbind_pure]) (fun q => rfl) (fun q => Iff.rfl))
 ((cBts.map (fun x => (⟨op, zH, 0, 0, x⟩ : TQ)) (fun q => q.bts) (okK op 3) (fun x hx => ⟨rfl, rfl, rfl, hx⟩) (fun q h => ⟨h.2.2, by obtain ⟨rfl, h2, _⟩ := h; exact h2⟩)))
 (((Cod.pair codN32 fun _ _ => codN32).map (fun z => (⟨op, zH, z.1, z.2, []⟩ : TQ)) (fun q => (q.idx, q.hgt)) (okK op 4) (fun z _ => ⟨rfl, rfl, rfl, Nat.zero_le _⟩) (fun q h => ⟨⟨trivial, trivial⟩, by obtain ⟨rfl, h2, _⟩ := h; exact h2⟩)).congr (fun b => by simp only [pK, pbind_assoc, pbind_pure]) (fun q => rfl) (fun q => Iff.rfl))
 ((codN32.map (fun x => (⟨op, zH, 0, x, []⟩ : TQ)) (fun q => q.hgt) (okK op 5) (fun x _ => ⟨rfl, rfl, rfl, Nat.zero_le _⟩) (fun q h => ⟨trivial, by obtain ⟨rfl, h2, _⟩ := h; exact h2⟩)))
def stripQ (q : TQ) : TQ := stripK (kQ q.op) q
def bodyQ (q : TQ) : List UInt8 := bodyK (kQ q.op) q
def mayQ (q : TQ) : Bool := isOp q.op && decide (stripQ q = q) && decide (q.bts.length ≤ 40000)
theorem mayQ_ok {q : TQ} (h : mayQ q = true) : isOp q.op = true ∧ stripQ q = q ∧ q.bts.length ≤ 40000 := by
 simpa [mayQ, and_assoc] using h
theorem mayQ_of {q : TQ} (h1 : isOp q.op = true) (h2 : stripQ q = q) (h3 : q.bts.length ≤ 40000) : mayQ q = true := by
 simp only [mayQ, Bool.and_eq_true, decide_eq_true_eq]; exact ⟨⟨h1, h2⟩, h3⟩
def readQ : List UInt8 → TQ × Bool
 | [] => (dQ, false)
 | c :: r => if isOp c = true then ((rdK c (kQ c) ⟨r, 0⟩).1, decide ((rdK c (kQ c) ⟨r, 0⟩).2.e = 0) && decide ((rdK c (kQ c) ⟨r, 0⟩).2.b = [])) else (dQ, false)
theorem readQ_yes {c : UInt8} {r : List UInt8} (h : isOp c = true) : readQ (c :: r) = ((rdK c (kQ c) ⟨r, 0⟩).1, decide ((rdK c (kQ c) ⟨r, 0⟩).2.e = 0) && decide ((rdK c (kQ c) ⟨r, 0⟩).2.b = [])) := if_pos h
theorem readQ_no {c : UInt8} {r : List UInt8} (h : isOp c = false) : readQ (c :: r) = (dQ, false) := if_neg (by simp [h])
theorem readQ_ok {b : List UInt8} (h : (readQ b).2 = true) : mayQ (readQ b).1 = true ∧ (readQ b).1.op :: bodyQ (readQ b).1 = b := by
 cases b with
 | nil => cases h
 | cons c r =>
   by_cases hc : isOp c = true
   · rw [readQ_yes hc] at h ⊢
     simp only [Bool.and_eq_true, decide_eq_true_eq] at h
     obtain ⟨h1, h2⟩ := h
     have g := goodK c (kQ c) (kQ_le c)
     cases hp : pK c (kQ c) r with
     | err e => exact absurd ((g.err _ _ hp).2.symm.trans h1) (g.err _ _ hp).1
     | ok x s =>
       have g2 := g.ok _ _ _ hp
       rw [g2] at h2 ⊢
       dsimp only at h2 ⊢
       subst h2
       obtain ⟨⟨k1, k2, k3⟩, k4⟩ := (codK c (kQ c) (kQ_le c)).only _ _ _ hp
       subst k1
       refine ⟨mayQ_of hc k2 k3, ?_⟩
       rw [List.append_nil] at k4
       show x.op :: bodyK (kQ x.op) x = x.op :: r
       rw [k4]
   · rw [readQ_no (by simpa using hc)] at h; cases h
theorem readQ_put {q : TQ} (h : mayQ q = true) : readQ (q.op :: bodyQ q) = (q, true) := by
 obtain ⟨h1, h2, h3⟩ := mayQ_ok h
 have hp := (codK q.op (kQ q.op) (kQ_le _)).put q [] ⟨rfl, h2, h3⟩
 rw [List.append_nil] at hp
 have g := (goodK q.op (kQ q.op) (kQ_le _)).ok _ _ _ hp
 rw [readQ_yes h1, show bodyQ q = bodyK (kQ q.op) q from rfl, g]
 rfl
theorem readQ_same (q : TQ) : ((readQ (q.op :: bodyQ q)).2 && decide ((readQ (q.op :: bodyQ q)).1 = q)) = mayQ q := by
 cases hm : mayQ q with
 | true => rw [readQ_put hm]; simp
 | false =>
   cases h : (readQ (q.op :: bodyQ q)).2 with
   | false => rfl
   | true =>
     have k := (readQ_ok h).1
     rw [Bool.true_and]
     apply decide_eq_false
     intro e
     rw [e, hm] at k; cases k
def putQ (q : TQ) : List UInt8 := if mayQ q = true then q.op :: bodyQ q else []
def putQe (q : TQ) : Int := if mayQ q = true then 0 else 1
def tkQ (b : List UInt8) : TQ := if (readQ b).2 = true then (readQ b).1 else dQ
def tkQe (b : List UInt8) : Int := if (readQ b).2 = true then 0 else 3
structure LSt where
 (b : List UInt8) (ok : Bool)
def ld {α : Type} (t : List UInt8 → α × List UInt8 × Int) (s : LSt) : α × LSt := ((t s.b).1, ⟨(t s.b).2.1, s.ok && decide ((t s.b).2.2 = 0)⟩)
def ldK (op : UInt8) (k : Nat) (s : LSt) : TQ × LSt := match k with
 | 1 => (⟨op, (ld tH s).1, 0, 0, []⟩, (ld tH s).2)
 | 2 => (⟨op, (ld tH s).1, (ld t32 (ld tH s).2).1, 0, []⟩, (ld t32 (ld tH s).2).2)
 | 3 => (⟨op, zH, 0, 0, (ld tBts s).1⟩, (ld tBts s).2)
 | 4 => (⟨op, zH, (ld t32 s).1, (ld t32 (ld t32 s).2).1, []⟩, (ld t32 (ld t32 s).2).2)
 | 5 => (⟨op, zH, 0, (ld t32 s).1, []⟩, (ld t32 s).2)
 | _ => (⟨op, zH, 0, 0, []⟩, s)
theorem ld_ok {α : Type} {t : List UInt8 → α × List UInt8 × Int} {w : α → List UInt8} {ok : α → Prop} (h : Cod (ofT t) w ok) {x : α} {r : List UInt8} (hx : ok x) : ld t ⟨w x ++ r, true⟩ = (x, ⟨r, true⟩) := by
 have h1 := ofT_ok.1 (h.put x r hx)
 unfold ld
 dsimp only
 rw [h1]; rfl
theorem ldK_put (q : TQ) (hb : q.bts.length ≤ 40000) : ∀ k, k ≤ 5 → stripK k q = q → ldK q.op k ⟨bodyK k q, true⟩ = (q, ⟨[], true⟩) := k_all
 (fun h => by show (stripK 0 q, _) = _; rw [h]; rfl)
 (fun h => by
   have h1 := ld_ok cH (x := q.name) (r := []) trivial
   rw [List.append_nil] at h1
   show ((⟨q.op, (ld tH ⟨q.name.1, true⟩).1, 0, 0, []⟩ : TQ), (ld tH ⟨q.name.1, true⟩).2) = _
   rw [h1]; exact congrArg (·, _) h)
 (fun h => by
   have h1 := ld_ok cH (x := q.name) (r := le 4 (q.idx.toNat : Int)) trivial
   have h2 := ld_ok codN32 (x := q.idx) (r := []) trivial
   rw [List.append_nil] at h2
   show ((⟨q.op, (ld tH ⟨q.name.1 ++ le 4 (q.idx.toNat : Int), true⟩).1, (ld t32 (ld tH ⟨q.name.1 ++ le 4 (q.idx.toNat : Int), true⟩).2).1, 0, []⟩ : TQ), (ld t32 (ld tH ⟨q.name.1 ++ le 4 (q.idx.toNat : Int), true⟩).2).2) = _
   rw [h1]; dsimp only; rw [h2]; exact congrArg (·, _) h)
 (fun h => by
   have h1 := ld_ok cBts (x := q.bts) (r := []) hb
   rw [List.append_nil] at h1
   show ((⟨q.op, zH, 0, 0, (ld tBts ⟨sizeB q.bts.length ++ q.bts, true⟩).1⟩ : TQ), (ld tBts ⟨sizeB q.bts.length ++ q.bts, true⟩).2) = _
   rw [h1]; exact congrArg (·, _) h)
 (fun h => by
   have h1 := ld_ok codN32 (x := q.idx) (r := le 4 (q.hgt.toNat : Int)) trivial
   have h2 := ld_ok codN32 (x := q.hgt) (r := []) trivial
   rw [List.append_nil] at h2
   show ((⟨q.op, zH, (ld t32 ⟨le 4 (q.idx.toNat : Int) ++ le 4 (q.hgt.toNat : Int), true⟩).1, (ld t32 (ld t32 ⟨le 4 (q.idx.toNat : Int) ++ le 4 (q.hgt.toNat : Int), true⟩).2).1, []⟩ : TQ), (ld t32 (ld t32 ⟨le 4 (q.idx.toNat : Int) ++ le 4 (q.hgt.toNat : Int), true⟩).2).2) = _
   rw [h1]; dsimp only; rw [h2]; exact congrArg (·, _) h)
 (fun h => by
   have h1 := ld_ok codN32 (x := q.hgt) (r := []) trivial
   rw [List.append_nil] at h1
   show ((⟨q.op, zH, 0, (ld t32 ⟨le 4 (q.hgt.toNat : Int), true⟩).1, []⟩ : TQ), (ld t32 ⟨le 4 (q.hgt.toNat : Int), true⟩).2) = _
   rw [h1]; exact congrArg (·, _) h)
def t8 (b : List UInt8) : UInt8 × List UInt8 × Int := (UInt8.ofNat (num (spA b 1)), spB b 1, spE b 1)
theorem t8_cons (c : UInt8) (r : List UInt8) : t8 (c :: r) = (c, r, 0) := by
 have a := spA_app [c] r
 have b := spB_app [c] r
 have e := spE_app [c] r
 show (UInt8.ofNat (num (spA ([c] ++ r) (([c] : List UInt8).length : Int))), spB ([c] ++ r) (([c] : List UInt8).length : Int), spE ([c] ++ r) (([c] : List UInt8).length : Int)) = _
 rw [a, b, e]
 simp [num]
def ldQ (b : List UInt8) : TQ × LSt := ldK (ld t8 ⟨b, true⟩).1 (kQ (ld t8 ⟨b, true⟩).1) (ld t8 ⟨b, true⟩).2
theorem ldQ_law (b : List UInt8) : ((ldQ b).2.ok && mayQ (ldQ b).1 && decide ((ldQ b).1.op :: bodyQ (ldQ b).1 = b)) = (readQ b).2 ∧ ((readQ b).2 = true → (ldQ b).1 = (readQ b).1) := by
 cases hr : (readQ b).2 with
 | true =>
   obtain ⟨k1, k2⟩ := readQ_ok hr
   generalize (readQ b).1 = q at *
   obtain ⟨h1, h2, h3⟩ := mayQ_ok k1
   have e : ldQ b = (q, ⟨[], true⟩) := by
     have h4 : ld t8 ⟨b, true⟩ = (q.op, ⟨bodyQ q, true⟩) := by
       unfold ld
       dsimp only
       rw [← k2, t8_cons]; rfl
     unfold ldQ
     rw [h4]
     exact ldK_put q h3 (kQ q.op) (kQ_le _) h2
   rw [e]
   refine ⟨?_, fun _ => rfl⟩
   dsimp only
   rw [k1, k2]; simp
 | false =>
   refine ⟨?_, fun h => by cases h⟩
   cases hm : mayQ (ldQ b).1 with
   | false => simp
   | true =>
     by_cases he : (ldQ b).1.op :: bodyQ (ldQ b).1 = b
     · have := readQ_put hm
       rw [he] at this
       rw [this] at hr; cases hr
     · rw [decide_eq_false he, Bool.and_false]
end Go.Fw

end

section
namespace Go.Fw
open Go
inductive At : Blk → Nat → List Nat → T → Prop where
 | st {xs : List T} {i : Nat} {ps : List Nat} {y x : T} {o off : Nat} (h1 : xs[i]? = some y) (h2 : T.get y ps = some x) (h3 : T.off y ps = some o) (h4 : off = T.sizeL (xs.take i) + o) : At (.bx (.t (.st xs))) off (i :: ps) x
 | sq {sz : Nat} {xs : List T} {j : Nat} {ps : List Nat} {x : T} {o off : Nat} (h1 : j < xs.length) (h2 : T.get (xs.getD j default) ps = some x) (h3 : T.off (xs.getD j default) ps = some o) (h4 : off = j * sz + o) : At (.sq sz xs) off (j :: ps) x
 | bx {x : T} : At (.bx (.t x)) 0 [] x
def bset (B : Blk) (p : List Nat) (y : T) : Option Blk :=
 match B, p with
 | .bx (.t (.st xs)), i :: ps => match xs[i]? with
   | some x => match T.set x ps y with
     | some z => some (.bx (.t (.st (xs.set i z))))
     | none => none
   | none => none
 | .sq sz xs, j :: ps => match T.set (xs.getD j default) ps y with
   | some z => some (.sq sz (xs.set j z))
   | none => none
 | .bx (.t _), [] => some (.bx (.t y))
 | _, _ => none
theorem T.get_nil (x : T) : T.get x [] = some x := by cases x <;> simp [T.get]
theorem T.off_nil (x : T) : T.off x [] = some 0 := by cases x <;> simp [T.off]
theorem AV.get_nil (x : AV) : AV.get x [] = some x := by cases x <;> simp [AV.get]
theorem At.get {B : Blk} {off : Nat} {p : List Nat} {x : T} (h : At B off p x) : Blk.get B p = some (.t x) := by
 cases h with
 | st h1 h2 h3 h4 => simp [Blk.get, AV.get, T.get, h1, h2]
 | sq h1 h2 h3 h4 =>
   simp only [Blk.get]
   rw [List.getElem?_eq_getElem h1]
   rw [List.getD_eq_getElem?_getD, List.getElem?_eq_getElem h1] at h2
   simp only [Option.getD_some] at h2
   simp [h2]
 | bx => simp [Blk.get, AV.get_nil]
theorem At.fn {B : Blk} {off off' : Nat} {p : List Nat} {x y : T} (h : At B off p x) (k : At B off' p y) : x = y := by
 have h1 := h.get
 rw [k.get] at h1
 simpa using h1.symm
end Go.Fw

end

section
namespace Go.Fw
open Go
abbrev shQ : Sh := .st [.int .u8, .ba 32, .int .u32, .int .u32, .by]
theorem u8_shp {x : T} (h : (Sh.int .u8).has x) (hw : x.wf) : ∃ a : UInt8, x = .int .u8 (a.toNat : Int) := by
 cases x <;> simp only [Sh.has] at h
 rename_i k v
 subst h
 have hv := (inKb_iff .u8 v).2 (by simpa only [T.wf] using hw)
 have h1 : 0 ≤ v ∧ v < 256 := by simp only [inKb, Bool.and_eq_true, decide_eq_true_eq] at hv; omega
 refine ⟨UInt8.ofNat v.toNat, ?_⟩
 rw [UInt8.toNat_ofNat']
 congr 1; omega
theorem q_of {x : T} (h : shQ.has x) (hw : x.wf) : ∃ a, x = qT a := by
 cases x <;> simp only [Sh.has] at h
 simp only [T.wf] at hw
 obtain ⟨a, ys, rfl, h1, h2⟩ := hasL1 h
 obtain ⟨b, ys, rfl, h3, h4⟩ := hasL1 h2
 obtain ⟨c, ys, rfl, h5, h6⟩ := hasL1 h4
 obtain ⟨d, ys, rfl, h7, h8⟩ := hasL1 h6
 obtain ⟨e, ys, rfl, h9, g1⟩ := hasL1 h8
 obtain rfl := hasL0 g1
 obtain ⟨w1, hw⟩ := wfL1 hw
 obtain ⟨w2, hw⟩ := wfL1 hw
 obtain ⟨w3, hw⟩ := wfL1 hw
 obtain ⟨w4, hw⟩ := wfL1 hw
 obtain ⟨w5, hw⟩ := wfL1 hw
 obtain ⟨a, rfl⟩ := u8_shp h1 w1
 obtain ⟨b, rfl⟩ := h32_of h3
 obtain ⟨c, rfl⟩ := u32_shp h5 w3
 obtain ⟨d, rfl⟩ := u32_shp h7 w4
 obtain ⟨e, rfl⟩ := by_of _ h9 w5
 exact ⟨⟨a, b, c, d, e⟩, rfl⟩
end Go.Fw

end

section
namespace Go.Fw
open Go
structure W4 where
 (a b c d : UInt64)
 deriving DecidableEq
def zW : W4 := ⟨0, 0, 0, 0⟩
def wT (w : W4) : T := .ar 4 1 [.int .u64 (w.a.toNat : Int), .int .u64 (w.b.toNat : Int), .int .u64 (w.c.toNat : Int), .int .u64 (w.d.toNat : Int)]
theorem wT_inj {v w : W4} (h : wT v = wT w) : v = w := by
 obtain ⟨a, b, c, d⟩ := v
 obtain ⟨a', b', c', d'⟩ := w
 unfold wT at h
 simp only [T.ar.injEq, List.cons.injEq, T.int.injEq, true_and, and_true] at h
 obtain ⟨h1, h2, h3, h4⟩ := h
 rw [n64_inj h1, n64_inj h2, n64_inj h3, n64_inj h4]
def wL (w : W4) : List UInt8 := le 8 (w.a.toNat : Int) ++ le 8 (w.b.toNat : Int) ++ le 8 (w.c.toNat : Int) ++ le 8 (w.d.toNat : Int)
theorem wL_len (w : W4) : (wL w).length = 32 := by simp [wL, le_len]
def wB (w : W4) : H32 := ⟨(wL w).reverse, by rw [List.length_reverse, wL_len]⟩
def nth8 (l : List UInt8) (i : Nat) : UInt64 := UInt64.ofNat (num ((l.drop (8 * i)).take 8))
def wOf (l : List UInt8) : W4 := ⟨nth8 l 0, nth8 l 1, nth8 l 2, nth8 l 3⟩
def wR (h : H32) : W4 := wOf h.1.reverse
theorem num8_le (x : UInt64) : UInt64.ofNat (num (le 8 (x.toNat : Int))) = x := by
 have hx := x.toNat_lt
 have hn := num_le 8 (x.toNat : Int) (by omega) (by simp; omega)
 have hn' : num (le 8 (x.toNat : Int)) = x.toNat := by omega
 rw [hn']; exact UInt64.ofNat_toNat ..
theorem le8_num {l : List UInt8} (h : l.length = 8) : le 8 ((UInt64.ofNat (num l)).toNat : Int) = l := by
 rw [u64_num l (by omega)]
 have := le_num l
 rwa [h] at this
theorem wR_wB (w : W4) : wR (wB w) = w := by
 obtain ⟨a, b, c, d⟩ := w
 have la := le_len 8 (a.toNat : Int)
 have lb := le_len 8 (b.toNat : Int)
 have lc := le_len 8 (c.toNat : Int)
 have ld := le_len 8 (d.toNat : Int)
 have na := num8_le a
 have nb := num8_le b
 have nc := num8_le c
 have nd := num8_le d
 unfold wR wB wL wOf nth8
 dsimp only
 rw [List.reverse_reverse]
 generalize le 8 (a.toNat : Int) = A at *
 generalize le 8 (b.toNat : Int) = B at *
 generalize le 8 (c.toNat : Int) = C at *
 generalize le 8 (d.toNat : Int) = D at *
 have e0 : (A ++ B ++ C ++ D).drop (8 * 0) = A ++ (B ++ C ++ D) := by simp
 have e1 : (A ++ B ++ C ++ D).drop (8 * 1) = B ++ (C ++ D) := by
   rw [List.append_assoc, List.append_assoc, List.drop_append_of_le_length (by omega), List.drop_of_length_le (by omega)]; simp
 have e2 : (A ++ B ++ C ++ D).drop (8 * 2) = C ++ D := by
   rw [show A ++ B ++ C ++ D = (A ++ B) ++ (C ++ D) by simp, List.drop_append_of_le_length (by simp; omega), List.drop_of_length_le (by simp; omega)]; simp
 have e3 : (A ++ B ++ C ++ D).drop (8 * 3) = D ++ [] := by
   rw [show A ++ B ++ C ++ D = (A ++ B ++ C) ++ D by simp, List.drop_append_of_le_length (by simp; omega), List.drop_of_length_le (by simp; omega)]; simp
 have tk : ∀ (X Y : List UInt8), X.length = 8 → (X ++ Y).take 8 = X := fun X Y h => by rw [List.take_append_of_le_length (by omega), List.take_of_length_le (by omega)]
 rw [e0, e1, e2, e3, tk A _ la, tk B _ lb, tk C _ lc, tk D _ ld, na, nb, nc, nd]
theorem wB_wR (h : H32) : wB (wR h) = h := by
 obtain ⟨l, hl⟩ := h
 apply Subtype.ext
 show (wL (wOf l.reverse)).reverse = l
 have hr : l.reverse.length = 32 := by rw [List.length_reverse, hl]
 have : wL (wOf l.reverse) = l.reverse := by
   generalize l.reverse = r at *
   unfold wL wOf nth8
   dsimp only
   have l8 : ∀ i, i < 4 → ((r.drop (8 * i)).take 8).length = 8 := fun i hi => by simp; omega
   rw [le8_num (l8 0 (by omega)), le8_num (l8 1 (by omega)), le8_num (l8 2 (by omega)), le8_num (l8 3 (by omega))]
   have e3 : (r.drop (8 * 3)).take 8 = r.drop 24 := List.take_of_length_le (by simp; omega)
   have e2 : (r.drop (8 * 2)).take 8 ++ r.drop 24 = r.drop 16 := by
     have := List.take_append_drop 8 (r.drop 16)
     rw [List.drop_drop] at this; exact this
   have e1 : (r.drop (8 * 1)).take 8 ++ r.drop 16 = r.drop 8 := by
     have := List.take_append_drop 8 (r.drop 8)
     rw [List.drop_drop] at this; exact this
   have e0 : (r.drop (8 * 0)).take 8 ++ r.drop 8 = r := List.take_append_drop 8 r
   rw [e3, List.append_assoc, List.append_assoc, e2, e1, e0]
 rw [this, List.reverse_reverse]
theorem wR_zH : wR zH = zW := by decide +kernel
structure TE where
 (tx : H32) (idx : UInt32) (val : UInt64) (plan state : Int) (hgt : UInt32) (tpl : H32)
 deriving DecidableEq
def dE : TE := ⟨zH, 0, 0, 0, 0, 0, zH⟩
def eT (e : TE) : T := .st [.st [.ba 32 e.tx.1, .int .u32 (e.idx.toNat : Int)], .int .u64 (e.val.toNat : Int), .int .i64 e.plan, .int .i64 e.state, .int .u32 (e.hgt.toNat : Int), .ba 32 e.tpl.1]
theorem eT_st (e : TE) : eT e = .st [.st [.ba 32 e.tx.1, .int .u32 (e.idx.toNat : Int)], .int .u64 (e.val.toNat : Int), .int .i64 e.plan, .int .i64 e.state, .int .u32 (e.hgt.toNat : Int), .ba 32 e.tpl.1] := rfl
theorem eT_inj (a b : TE) (h : eT a = eT b) : a = b := by
 obtain ⟨a1, a2, a3, a4, a5, a6, a7⟩ := a
 obtain ⟨b1, b2, b3, b4, b5, b6, b7⟩ := b
 unfold eT at h
 simp only [T.st.injEq, List.cons.injEq, T.ba.injEq, T.int.injEq, true_and, and_true] at h
 obtain ⟨⟨h1, h2⟩, h3, h4, h5, h6, h7⟩ := h
 rw [Subtype.ext h1, n32_inj h2, n64_inj h3, h4, h5, n32_inj h6, Subtype.ext h7]
def i4 (n : Int) : List UInt8 := le 4 (IntKind.u32.wrap n)
def entB (e : TE) : List UInt8 := e.tx.1 ++ le 4 (e.idx.toNat : Int) ++ le 8 (e.val.toNat : Int) ++ i4 e.plan ++ i4 e.state ++ le 4 (e.hgt.toNat : Int) ++ e.tpl.1
theorem i4_len (n : Int) : (i4 n).length = 4 := le_len 4 _
theorem entB_len (e : TE) : (entB e).length = 88 := by simp [entB, le_len, i4_len, e.tx.2, e.tpl.2]
def okE (e : TE) : Prop := (0 ≤ e.plan ∧ e.plan < 2147483648) ∧ 0 ≤ e.state ∧ e.state < 2147483648
instance (e : TE) : Decidable (okE e) := by unfold okE; infer_instance
def tNum (b : List UInt8) : Int × List UInt8 × Int := if (t32 b).2.2 = 0 ∧ 2147483647 < (t32 b).1.toNat then (((t32 b).1.toNat : Int), (t32 b).2.1, 3) else (((t32 b).1.toNat : Int), (t32 b).2.1, (t32 b).2.2)
def rdNum (s : RSt) : Int × RSt := (((rd t32 0 s).1.toNat : Int), if 2147483647 < (rd t32 0 s).1.toNat then ⟨(rd t32 0 s).2.b, 3⟩ else (rd t32 0 s).2)
theorem goodNum : Good rdNum (ofT tNum) where
 ok b x r h := by
   rw [ofT_ok] at h
   unfold tNum at h
   split at h
   · simp at h
   · rename_i hc
     simp only [Prod.mk.injEq] at h
     obtain ⟨h1, h2, h3⟩ := h
     have e : rd t32 0 ⟨b, 0⟩ = ((t32 b).1, ⟨(t32 b).2.1, 0⟩) := (if_neg (by simp)).trans (if_neg (by simp [h3]))
     have hl : ¬ 2147483647 < (t32 b).1.toNat := fun hh => hc ⟨h3, hh⟩
     unfold rdNum
     rw [e]; dsimp only
     rw [if_neg hl, h1, h2]
 err b e h := by
   rw [ofT_err] at h
   obtain ⟨h1, h2⟩ := h
   refine ⟨h2, ?_⟩
   unfold tNum at h1
   split at h1
   · rename_i hc
     have e' : rd t32 0 ⟨b, 0⟩ = ((t32 b).1, ⟨(t32 b).2.1, 0⟩) := (if_neg (by simp)).trans (if_neg (by simp [hc.1]))
     unfold rdNum
     rw [e']; dsimp only
     rw [if_pos hc.2]; exact h1
   · dsimp only at h1
     have e' : rd t32 0 ⟨b, 0⟩ = (0, ⟨b, (t32 b).2.2⟩) := (if_neg (by simp)).trans (if_pos (by rw [h1]; exact h2))
     unfold rdNum
     rw [e']; dsimp only
     rw [if_neg (by decide)]; exact h1
 stick s h := by
   have e' : rd t32 0 s = (0, s) := if_pos h
   unfold rdNum
   rw [e']; dsimp only
   rw [if_neg (by decide)]
theorem i4_nat {n : Int} (h : 0 ≤ n ∧ n < 2147483648) : i4 n = le 4 ((UInt32.ofNat n.toNat).toNat : Int) ∧ ((UInt32.ofNat n.toNat).toNat : Int) = n := by
 have e : ((UInt32.ofNat n.toNat).toNat : Int) = n := by rw [UInt32.toNat_ofNat']; omega
 exact ⟨by rw [e]; unfold i4; rw [wrap_u32 (by omega) (by omega)], e⟩
theorem codNum : Cod (ofT tNum) i4 (fun n => 0 ≤ n ∧ n < 2147483648) := by
 refine Cod.ofT (fun n r h => ?_) (fun b h => ?_) (fun n k h hk => ?_)
 · obtain ⟨e1, e2⟩ := i4_nat h
   have := ofT_ok.1 (codN32.put (UInt32.ofNat n.toNat) r trivial)
   rw [e1]
   unfold tNum
   rw [this]
   dsimp only
   rw [if_neg (by rintro ⟨_, h⟩; omega), e2]
 · unfold tNum at h ⊢
   split at h
   · cases h
   · rename_i hc
     rw [if_neg hc]
     dsimp only at h ⊢
     have h3 : ¬ 2147483647 < (t32 b).1.toNat := fun hh => hc ⟨h, hh⟩
     have h4 := codN32.only b (t32 b).1 (t32 b).2.1 (ofT_ok.2 (Prod.ext rfl (Prod.ext rfl h)))
     refine ⟨by omega, ?_⟩
     have : i4 ((t32 b).1.toNat : Int) = le 4 ((t32 b).1.toNat : Int) := by unfold i4; rw [wrap_u32 (by omega) (by omega)]
     rw [this]; exact h4.2
 · obtain ⟨e1, e2⟩ := i4_nat h
   rw [e1] at hk ⊢
   have := ofT_err.1 (codN32.cut (UInt32.ofNat n.toNat) k trivial hk)
   unfold tNum
   rw [if_neg (by rintro ⟨h, _⟩; rw [this.1] at h; exact absurd h (by decide))]
   exact this.1
def rdE (s : RSt) : TE × RSt :=
 let h := rd tH zH s
 let i := rd t32 0 h.2
 let v := rd t64 0 i.2
 let p := rdNum v.2
 let q := rdNum p.2
 let g := rd t32 0 q.2
 let t := rd tH zH g.2
 (⟨h.1, i.1, v.1, p.1, q.1, g.1, t.1⟩, t.2)
def pE : Rdg TE := pbind (ofT tH) fun h => pbind (ofT t32) fun i => pbind (ofT t64) fun v => pbind (ofT tNum) fun p => pbind (ofT tNum) fun q => pbind (ofT t32) fun g => pbind (ofT tH) fun t => ppure ⟨h, i, v, p, q, g, t⟩
theorem goodE : Good rdE pE :=
 (Good.rd tH zH).bind (g := fun h s =>
   let i := rd t32 0 s
   let v := rd t64 0 i.2
   let p := rdNum v.2
   let q := rdNum p.2
   let g := rd t32 0 q.2
   let t := rd tH zH g.2
   (TE.mk h i.1 v.1 p.1 q.1 g.1 t.1, t.2)) fun h =>
 (Good.rd t32 0).bind (g := fun i s =>
   let v := rd t64 0 s
   let p := rdNum v.2
   let q := rdNum p.2
   let g := rd t32 0 q.2
   let t := rd tH zH g.2
   (TE.mk h i v.1 p.1 q.1 g.1 t.1, t.2)) fun i =>
 (Good.rd t64 0).bind (g := fun v s =>
   let p := rdNum s
   let q := rdNum p.2
   let g := rd t32 0 q.2
   let t := rd tH zH g.2
   (TE.mk h i v p.1 q.1 g.1 t.1, t.2)) fun v =>
 goodNum.bind (g := fun p s =>
   let q := rdNum s
   let g := rd t32 0 q.2
   let t := rd tH zH g.2
   (TE.mk h i v p q.1 g.1 t.1, t.2)) fun p =>
 goodNum.bind (g := fun q s =>
   let g := rd t32 0 s
   let t := rd tH zH g.2
   (TE.mk h i v p q g.1 t.1, t.2)) fun q =>
 (Good.rd t32 0).bind (g := fun g s =>
   let t := rd tH zH s
   (TE.mk h i v p q g t.1, t.2)) fun g =>
 (Good.rd tH zH).bind (g := fun t s => (TE.mk h i v p q g t, s)) fun t => Good.pure _
theorem codE : Cod pE entB okE := by
 have := (Cod.pair cH fun _ _ => Cod.pair codN32 fun _ _ => Cod.pair codN64 fun _ _ => Cod.pair codNum fun _ _ => Cod.pair codNum fun _ _ => Cod.pair codN32 fun _ _ => cH).map
   (fun z => (⟨z.1, z.2.1, z.2.2.1, z.2.2.2.1, z.2.2.2.2.1, z.2.2.2.2.2.1, z.2.2.2.2.2.2⟩ : TE)) (fun e => (e.tx, e.idx, e.val, e.plan, e.state, e.hgt, e.tpl)) okE
   (fun z h => ⟨rfl, h.2.2.2.1, h.2.2.2.2.1⟩) (fun e h => ⟨⟨trivial, trivial, trivial, h.1, h.2, trivial, trivial⟩, rfl⟩)
 refine this.congr (fun b => ?_) (fun x => ?_) (fun x => Iff.rfl)
 · simp only [pE, pbind_assoc, pbind_pure]
 · simp only [entB, List.append_assoc]
def flagB (v : Bool) : List UInt8 := [if v then 1 else 0]
def tFl (b : List UInt8) : Bool × List UInt8 × Int := if (t8 b).2.2 = 0 ∧ 1 < (t8 b).1.toNat then (false, (t8 b).2.1, 3) else (decide ((t8 b).1 = 1), (t8 b).2.1, (t8 b).2.2)
theorem t8_put (c : UInt8) (r : List UInt8) : t8 ([c] ++ r) = (c, r, 0) := t8_cons c r
theorem t8_nil : (t8 []).2.2 = 2 := by decide +kernel
theorem codFl : Cod (ofT tFl) flagB (fun _ => True) := by
 refine Cod.ofT (fun v r _ => ?_) (fun b h => ⟨trivial, ?_⟩) (fun v k _ hk => ?_)
 · unfold tFl flagB
   rw [t8_put]
   cases v <;> rfl
 · cases b with
   | nil =>
     unfold tFl at h
     rw [if_neg (by rw [t8_nil]; rintro ⟨h, _⟩; cases h)] at h
     dsimp only at h
     rw [t8_nil] at h; cases h
   | cons c r =>
     unfold tFl at h ⊢
     rw [t8_cons] at h ⊢
     dsimp only at h ⊢
     split at h
     · cases h
     · rename_i hc
       rw [if_neg hc]
       dsimp only
       have h1 : c.toNat ≤ 1 := by
         by_cases hh : 1 < c.toNat
         · exact (hc ⟨rfl, hh⟩).elim
         · omega
       have h2 : c = 0 ∨ c = 1 := by
         rcases Nat.lt_or_ge c.toNat 1 with h | h
         · exact .inl (UInt8.toNat_inj.1 (by show c.toNat = 0; omega))
         · exact .inr (UInt8.toNat_inj.1 (by show c.toNat = 1; omega))
       rcases h2 with rfl | rfl <;> rfl
 · have : k = 0 := by have : (flagB v).length = 1 := rfl; omega
   subst this
   show (tFl []).2.2 = 2
   decide +kernel
abbrev N5 := { l : List UInt32 // l.length = 5 }
def zN : N5 := ⟨List.replicate 5 0, by simp⟩
def nT (x : UInt32) : T := .int .u32 (x.toNat : Int)
def n5Of (l : List UInt32) : N5 := if h : l.length = 5 then ⟨l, h⟩ else zN
theorem n5Of_val {l : List UInt32} (h : l.length = 5) : (n5Of l).1 = l := by unfold n5Of; rw [dif_pos h]
theorem n5Of_self (l : N5) : n5Of l.1 = l := by unfold n5Of; rw [dif_pos l.2]
structure TA where
 (op : UInt8) (e : Int) (name : H32) (hgt : UInt32) (work : W4) (val : UInt64) (fst : Bool) (bts : List UInt8) (ents : List TE) (nums : N5) (nams : List H32)
 deriving DecidableEq
def hT (h : H32) : T := .ba 32 h.1
theorem hT_inj (a b : H32) (h : hT a = hT b) : a = b := by unfold hT at h; simp only [T.ba.injEq, true_and] at h; exact Subtype.ext h
theorem nT_inj (a b : UInt32) (h : nT a = nT b) : a = b := by unfold nT at h; simp only [T.int.injEq, true_and] at h; exact n32_inj h
def aT (a : TA) : T := .st [.int .u8 (a.op.toNat : Int), .int .i64 a.e, .ba 32 a.name.1, .int .u32 (a.hgt.toNat : Int), wT a.work, .int .u64 (a.val.toNat : Int), .bool a.fst, .by a.bts, .sq 69 (a.ents.map eT), .ar 5 1 (a.nums.1.map nT), .sq 32 (a.nams.map hT)]
theorem aT_st (a : TA) : aT a = .st [.int .u8 (a.op.toNat : Int), .int .i64 a.e, .ba 32 a.name.1, .int .u32 (a.hgt.toNat : Int), wT a.work, .int .u64 (a.val.toNat : Int), .bool a.fst, .by a.bts, .sq 69 (a.ents.map eT), .ar 5 1 (a.nums.1.map nT), .sq 32 (a.nams.map hT)] := rfl
theorem aT_inj (a b : TA) (h : aT a = aT b) : a = b := by
 obtain ⟨a1, a2, a3, a4, a5, a6, a7, a8, a9, aA, aB⟩ := a
 obtain ⟨b1, b2, b3, b4, b5, b6, b7, b8, b9, bA, bB⟩ := b
 unfold aT at h
 simp only [T.st.injEq, List.cons.injEq, T.ba.injEq, T.int.injEq, T.bool.injEq, T.by.injEq, T.sq.injEq, T.ar.injEq, true_and, and_true] at h
 obtain ⟨h1, h2, h3, h4, h5, h6, h7, h8, h9, hA, hB⟩ := h
 rw [n8_inj h1, h2, Subtype.ext h3, n32_inj h4, wT_inj h5, n64_inj h6, h7, h8, map_inj eT_inj _ _ h9, Subtype.ext (map_inj nT_inj _ _ hA), map_inj hT_inj _ _ hB]
def noA : TA := ⟨0, 0, zH, 0, zW, 0, false, [], [], zN, []⟩
def bareA (op : UInt8) (e : Int) : TA := ⟨op, e, zH, 0, zW, 0, false, [], [], zN, []⟩
def kA (op : UInt8) : Nat := if op = 1 then 1 else if op = 2 ∨ op = 5 ∨ op = 9 then 2 else if op = 3 then 3 else if op = 4 then 4 else if op = 6 then 5 else if op = 7 then 6 else if op = 8 then 7 else if op = 10 then 8 else 0
theorem kA_le (op : UInt8) : kA op ≤ 8 := by
 unfold kA; repeat' split
 all_goals omega
theorem k8_all {p : Nat → Prop} (h0 : p 0) (h1 : p 1) (h2 : p 2) (h3 : p 3) (h4 : p 4) (h5 : p 5) (h6 : p 6) (h7 : p 7) (h8 : p 8) : ∀ k, k ≤ 8 → p k
 | 0, _ => h0 | 1, _ => h1 | 2, _ => h2 | 3, _ => h3 | 4, _ => h4 | 5, _ => h5 | 6, _ => h6 | 7, _ => h7 | 8, _ => h8
 | k + 9, h => absurd h (by omega)
def n4B (x : UInt32) : List UInt8 := le 4 (x.toNat : Int)
def btsB (x : List UInt8) : List UInt8 := sizeB x.length ++ x
def hB (h : H32) : List UInt8 := h.1
def bodyAK (k : Nat) (a : TA) : List UInt8 := match k with
 | 1 => a.name.1 ++ (n4B a.hgt ++ (wB a.work).1)
 | 2 => btsB a.bts
 | 3 => le 8 (a.val.toNat : Int) ++ (n4B a.hgt ++ (flagB a.fst ++ btsB a.bts))
 | 4 => le 8 (a.val.toNat : Int) ++ btsB a.bts
 | 5 => sizeB (a.ents.length : Nat) ++ cat entB a.ents
 | 6 => cat n4B a.nums.1
 | 7 => a.name.1
 | 8 => sizeB (a.nams.length : Nat) ++ cat hB a.nams
 | _ => []
def stripAK (k : Nat) (a : TA) : TA := match k with
 | 1 => ⟨a.op, a.e, a.name, a.hgt, a.work, 0, false, [], [], zN, []⟩
 | 2 => ⟨a.op, a.e, zH, 0, zW, 0, false, a.bts, [], zN, []⟩
 | 3 => ⟨a.op, a.e, zH, a.hgt, zW, a.val, a.fst, a.bts, [], zN, []⟩
 | 4 => ⟨a.op, a.e, zH, 0, zW, a.val, false, a.bts, [], zN, []⟩
 | 5 => ⟨a.op, a.e, zH, 0, zW, 0, false, [], a.ents, zN, []⟩
 | 6 => ⟨a.op, a.e, zH, 0, zW, 0, false, [], [], a.nums, []⟩
 | 7 => ⟨a.op, a.e, a.name, 0, zW, 0, false, [], [], zN, []⟩
 | 8 => ⟨a.op, a.e, zH, 0, zW, 0, false, [], [], zN, a.nams⟩
 | _ => bareA a.op a.e
def rdAK (op : UInt8) (k : Nat) (s : RSt) : TA × RSt := match k with
 | 1 => let h := rd tH zH s; let g := rd t32 0 h.2; let w := rd tH zH g.2
   (⟨op, 0, h.1, g.1, wR w.1, 0, false, [], [], zN, []⟩, w.2)
 | 2 => let x := rd tBts [] s
   (⟨op, 0, zH, 0, zW, 0, false, x.1, [], zN, []⟩, x.2)
 | 3 => let v := rd t64 0 s; let g := rd t32 0 v.2; let f := rd tFl false g.2; let x := rd tBts [] f.2
   (⟨op, 0, zH, g.1, zW, v.1, f.1, x.1, [], zN, []⟩, x.2)
 | 4 => let v := rd t64 0 s; let x := rd tBts [] v.2
   (⟨op, 0, zH, 0, zW, v.1, false, x.1, [], zN, []⟩, x.2)
 | 5 => let n := rd (tCnt 200) 0 s; let l := rdN rdE n.1 n.2
   (⟨op, 0, zH, 0, zW, 0, false, [], l.1, zN, []⟩, l.2)
 | 6 => let l := rdN (rd t32 0) 5 s
   (⟨op, 0, zH, 0, zW, 0, false, [], [], n5Of l.1, []⟩, l.2)
 | 7 => let h := rd tH zH s
   (⟨op, 0, h.1, 0, zW, 0, false, [], [], zN, []⟩, h.2)
 | 8 => let n := rd (tCnt 100) 0 s; let l := rdN (rd tH zH) n.1 n.2
   (⟨op, 0, zH, 0, zW, 0, false, [], [], zN, l.1⟩, l.2)
 | _ => (bareA op 0, s)
def pAK (op : UInt8) (k : Nat) : Rdg TA := match k with
 | 1 => pbind (ofT tH) fun h => pbind (ofT t32) fun g => pbind (ofT tH) fun w => ppure ⟨op, 0, h, g, wR w, 0, false, [], [], zN, []⟩
 | 2 => pbind (ofT tBts) fun x => ppure ⟨op, 0, zH, 0, zW, 0, false, x, [], zN, []⟩
 | 3 => pbind (ofT t64) fun v => pbind (ofT t32) fun g => pbind (ofT tFl) fun f => pbind (ofT tBts) fun x => ppure ⟨op, 0, zH, g, zW, v, f, x, [], zN, []⟩
 | 4 => pbind (ofT t64) fun v => pbind (ofT tBts) fun x => ppure ⟨op, 0, zH, 0, zW, v, false, x, [], zN, []⟩
 | 5 => pbind (ofT (tCnt 200)) fun n => pbind (pN pE n) fun l => ppure ⟨op, 0, zH, 0, zW, 0, false, [], l, zN, []⟩
 | 6 => pbind (pN (ofT t32) 5) fun l => ppure ⟨op, 0, zH, 0, zW, 0, false, [], [], n5Of l, []⟩
 | 7 => pbind (ofT tH) fun h => ppure ⟨op, 0, h, 0, zW, 0, false, [], [], zN, []⟩
 | 8 => pbind (ofT (tCnt 100)) fun n => pbind (pN (ofT tH) n) fun l => ppure ⟨op, 0, zH, 0, zW, 0, false, [], [], zN, l⟩
 | _ => ppure (bareA op 0)
theorem goodAK (op : UInt8) : ∀ k, k ≤ 8 → Good (rdAK op k) (pAK op k) := k8_all
 (Good.pure _)
 ((Good.rd tH zH).bind (g := fun h s => let g := rd t32 0 s; let w := rd tH zH g.2; (TA.mk op 0 h g.1 (wR w.1) 0 false [] [] zN [], w.2)) fun h => (Good.rd t32 0).bind (g := fun g s => let w := rd tH zH s; (TA.mk op 0 h g (wR w.1) 0 false [] [] zN [], w.2)) fun g => (Good.rd tH zH).bind (g := fun w s => (TA.mk op 0 h g (wR w) 0 false [] [] zN [], s)) fun _ => Good.pure _)
 ((Good.rd tBts []).bind (g := fun x s => (TA.mk op 0 zH 0 zW 0 false x [] zN [], s)) fun _ => Good.pure _)
 ((Good.rd t64 0).bind (g := fun v s => let g := rd t32 0 s; let f := rd tFl false g.2; let x := rd tBts [] f.2; (TA.mk op 0 zH g.1 zW v f.1 x.1 [] zN [], x.2)) fun v => (Good.rd t32 0).bind (g := fun g s => let f := rd tFl false s; let x := rd tBts [] f.2; (TA.mk op 0 zH g zW v f.1 x.1 [] zN [], x.2)) fun g => (Good.rd tFl false).bind (g := fun f s => let x := rd tBts [] s; (TA.mk op 0 zH g zW v f x.1 [] zN [], x.2)) fun f => (Good.rd tBts []).bind (g := fun x s => (TA.mk op 0 zH g zW v f x [] zN [], s)) fun _ => Good.pure _)
 ((Good.rd t64 0).bind (g := fun v s => let x := rd tBts [] s; (TA.mk op 0 zH 0 zW v false x.1 [] zN [], x.2)) fun v => (Good.rd tBts []).bind (g := fun x s => (TA.mk op 0 zH 0 zW v false x [] zN [], s)) fun _ => Good.pure _)
 ((Good.rd (tCnt 200) 0).bind (g := fun n s => let l := rdN rdE n s; (TA.mk op 0 zH 0 zW 0 false [] l.1 zN [], l.2)) fun n => (goodE.rep n).bind (g := fun l s => (TA.mk op 0 zH 0 zW 0 false [] l zN [], s)) fun _ => Good.pure _)
 (((Good.rd t32 0).rep 5).bind (g := fun l s => (TA.mk op 0 zH 0 zW 0 false [] [] (n5Of l) [], s)) fun _ => Good.pure _)
 ((Good.rd tH zH).bind (g := fun h s => (TA.mk op 0 h 0 zW 0 false [] [] zN [], s)) fun _ => Good.pure _)
 ((Good.rd (tCnt 100) 0).bind (g := fun n s => let l := rdN (rd tH zH) n s; (TA.mk op 0 zH 0 zW 0 false [] [] zN l.1, l.2)) fun n => ((Good.rd tH zH).rep n).bind (g := fun l s => (TA.mk op 0 zH 0 zW 0 false [] [] zN l, s)) fun _ => Good.pure _)
def sizA (a : TA) : Prop := a.bts.length ≤ 40000 ∧ a.ents.length ≤ 200 ∧ a.nams.length ≤ 100 ∧ ∀ x ∈ a.ents, okE x
abbrev okAK (op : UInt8) (k : Nat) (a : TA) : Prop := a.op = op ∧ a.e = 0 ∧ stripAK k a = a ∧ sizA a
theorem siz0 {op : UInt8} {e : Int} {n : H32} {g : UInt32} {w : W4} {v : UInt64} {f : Bool} {x : List UInt8} {u : N5} (h : x.length ≤ 40000) : sizA ⟨op, e, n, g, w, v, f, x, [], u, []⟩ := ⟨h, Nat.zero_le _, Nat.zero_le _, fun x h => by cases h⟩
theorem codWk : Cod (pbind (ofT tH) fun h => ppure (wR h)) (fun w => (wB w).1) (fun _ => True) :=
 cH.map wR wB (fun _ => True) (fun h _ => ⟨wB_wR h, trivial⟩) (fun w _ => ⟨trivial, wR_wB w⟩)
theorem codBare (op : UInt8) : Cod (ppure (bareA op 0)) (fun _ => []) (okAK op 0) where
 put x r h := by
   obtain ⟨rfl, h2, h3, _⟩ := h
   show Res.ok _ _ = Res.ok _ _
   rw [List.nil_append, ← h2]; congr 1
 only b x r h := by
   unfold ppure at h; cases h; exact ⟨⟨rfl, rfl, rfl, siz0 (Nat.zero_le _)⟩, rfl⟩
 cut x k _ hk := absurd hk (by simp)
theorem codList {α : Type} {p : Rdg α} {w : α → List UInt8} {ok : α → Prop} (m : Nat) (hm : (m : Int) ≤ 9223372036854775807) (hp : Cod p w ok) : Cod (pbind (ofT (tCnt m)) fun n => pN p n) (fun l => sizeB (l.length : Nat) ++ cat w l) (fun l => l.length ≤ m ∧ ∀ x ∈ l, ok x) := by
 have := (Cod.pair (cCnt m hm) fun n _ => hp.rep n).map (fun z => z.2) (fun l => (l.length, l)) (fun l => l.length ≤ m ∧ ∀ x ∈ l, ok x) (fun z h => ⟨Prod.ext h.2.1 rfl, by rw [h.2.1]; exact h.1, h.2.2⟩) (fun l h => ⟨⟨h.1, rfl, h.2⟩, rfl⟩)
 refine this.congr (fun b => ?_) (fun l => rfl) (fun l => Iff.rfl)
 simp only [pbind_assoc, pbind_pure]
 congr 1
 funext n
 unfold pbind ppure
 funext c
 dsimp only
 cases pN p n c <;> rfl
theorem codAK (op : UInt8) : ∀ k, k ≤ 8 → Cod (pAK op k) (bodyAK k) (okAK op k) := k8_all
 (codBare op)
 (((Cod.pair cH fun _ _ => Cod.pair codN32 fun _ _ => codWk).map (fun z => (⟨op, 0, z.1, z.2.1, z.2.2, 0, false, [], [], zN, []⟩ : TA)) (fun a => (a.name, a.hgt, a.work)) (okAK op 1) (fun z _ => ⟨rfl, rfl, rfl, rfl, siz0 (Nat.zero_le _)⟩) (fun a h => ⟨⟨trivial, trivial, trivial⟩, by obtain ⟨rfl, h2, h3, _⟩ := h; (try dsimp only); rw [← h2]; exact h3⟩)).congr (fun b => by simp only [pAK, pbind_assoc, pbind_pure]) (fun a => rfl) (fun a => Iff.rfl))
 ((cBts.map (fun x => (⟨op, 0, zH, 0, zW, 0, false, x, [], zN, []⟩ : TA)) (fun a => a.bts) (okAK op 2) (fun x hx => ⟨rfl, rfl, rfl, rfl, siz0 hx⟩) (fun a h => ⟨h.2.2.2.1, by obtain ⟨rfl, h2, h3, _⟩ := h; (try dsimp only); rw [← h2]; exact h3⟩)).congr (fun b => rfl) (fun a => rfl) (fun a => Iff.rfl))
 (((Cod.pair codN64 fun _ _ => Cod.pair codN32 fun _ _ => Cod.pair codFl fun _ _ => cBts).map (fun z => (⟨op, 0, zH, z.2.1, zW, z.1, z.2.2.1, z.2.2.2, [], zN, []⟩ : TA)) (fun a => (a.val, a.hgt, a.fst, a.bts)) (okAK op 3) (fun z hz => ⟨rfl, rfl, rfl, rfl, siz0 hz.2.2.2⟩) (fun a h => ⟨⟨trivial, trivial, trivial, h.2.2.2.1⟩, by obtain ⟨rfl, h2, h3, _⟩ := h; (try dsimp only); rw [← h2]; exact h3⟩)).congr (fun b => by simp only [pAK, pbind_assoc, pbind_pure]) (fun a => rfl) (fun a => Iff.rfl))
 (((Cod.pair codN64 fun _ _ => cBts).map (fun z => (⟨op, 0, zH, 0, zW, z.1, false, z.2, [], zN, []⟩ : TA)) (fun a => (a.val, a.bts)) (okAK op 4) (fun z hz => ⟨rfl, rfl, rfl, rfl, siz0 hz.2⟩) (fun a h => ⟨⟨trivial, h.2.2.2.1⟩, by obtain ⟨rfl, h2, h3, _⟩ := h; (try dsimp only); rw [← h2]; exact h3⟩)).congr (fun b => by simp only [pAK, pbind_assoc, pbind_pure]) (fun a => rfl) (fun a => Iff.rfl))
 (((codList 200 (by omega) codE).map (fun l => (⟨op, 0, zH, 0, zW, 0, false, [], l, zN, []⟩ : TA)) (fun a => a.ents) (okAK op 5) (fun l hl => ⟨rfl, rfl, rfl, rfl, Nat.zero_le _, hl.1, Nat.zero_le _, hl.2⟩) (fun a h => ⟨⟨h.2.2.2.2.1, h.2.2.2.2.2.2⟩, by obtain ⟨rfl, h2, h3, _⟩ := h; (try dsimp only); rw [← h2]; exact h3⟩)).congr (fun b => by simp only [pAK, pbind_assoc]) (fun a => rfl) (fun a => Iff.rfl))
 (((codN32.rep 5).map (fun l => (⟨op, 0, zH, 0, zW, 0, false, [], [], n5Of l, []⟩ : TA)) (fun a => a.nums.1) (okAK op 6) (fun l hl => ⟨n5Of_val hl.1, rfl, rfl, rfl, siz0 (Nat.zero_le _)⟩) (fun a h => ⟨⟨a.nums.2, fun _ _ => trivial⟩, by obtain ⟨rfl, h2, h3, _⟩ := h; (try dsimp only); rw [n5Of_self, ← h2]; exact h3⟩)).congr (fun b => rfl) (fun a => rfl) (fun a => Iff.rfl))
 ((cH.map (fun x => (⟨op, 0, x, 0, zW, 0, false, [], [], zN, []⟩ : TA)) (fun a => a.name) (okAK op 7) (fun x hx => ⟨rfl, rfl, rfl, rfl, siz0 (Nat.zero_le _)⟩) (fun a h => ⟨trivial, by obtain ⟨rfl, h2, h3, _⟩ := h; (try dsimp only); rw [← h2]; exact h3⟩)).congr (fun b => rfl) (fun a => rfl) (fun a => Iff.rfl))
 (((codList 100 (by omega) cH).map (fun l => (⟨op, 0, zH, 0, zW, 0, false, [], [], zN, l⟩ : TA)) (fun a => a.nams) (okAK op 8) (fun l hl => ⟨rfl, rfl, rfl, rfl, Nat.zero_le _, Nat.zero_le _, hl.1, fun x h => by cases h⟩) (fun a h => ⟨⟨h.2.2.2.2.2.1, fun _ _ => trivial⟩, by obtain ⟨rfl, h2, h3, _⟩ := h; (try dsimp only); rw [← h2]; exact h3⟩)).congr (fun b => by simp only [pAK, pbind_assoc]) (fun a => rfl) (fun a => Iff.rfl))
def bodyA (a : TA) : List UInt8 := if a.e = 0 then bodyAK (kA a.op) a else []
def stripA (a : TA) : TA := if a.e = 0 then stripAK (kA a.op) a else bareA a.op a.e
def bytA (a : TA) : List UInt8 := a.op :: UInt8.ofNat a.e.toNat :: bodyA a
def mayP (a : TA) : Prop := isOp a.op = true ∧ (0 ≤ a.e ∧ a.e ≤ 99) ∧ stripA a = a ∧ sizA a
instance (a : TA) : Decidable (mayP a) := by unfold mayP sizA; infer_instance
def mayA (a : TA) : Bool := decide (mayP a)
theorem mayA_ok {a : TA} (h : mayA a = true) : mayP a := of_decide_eq_true h
theorem mayA_of {a : TA} (h : mayP a) : mayA a = true := decide_eq_true h
def readA : List UInt8 → TA × Bool
 | c :: e :: r => if isOp c = true ∧ e.toNat ≤ 99 then
     (if e = 0 then ((rdAK c (kA c) ⟨r, 0⟩).1, decide ((rdAK c (kA c) ⟨r, 0⟩).2.e = 0) && decide ((rdAK c (kA c) ⟨r, 0⟩).2.b = []))
      else (bareA c (e.toNat : Int), decide (r = []))) else (noA, false)
 | _ => (noA, false)
theorem readA_no {c e : UInt8} {r : List UInt8} (h : ¬ (isOp c = true ∧ e.toNat ≤ 99)) : readA (c :: e :: r) = (noA, false) := if_neg h
theorem readA_yes {c : UInt8} {r : List UInt8} (h : isOp c = true) : readA (c :: 0 :: r) = ((rdAK c (kA c) ⟨r, 0⟩).1, decide ((rdAK c (kA c) ⟨r, 0⟩).2.e = 0) && decide ((rdAK c (kA c) ⟨r, 0⟩).2.b = [])) := (if_pos ⟨h, by decide⟩).trans (if_pos rfl)
theorem readA_err {c e : UInt8} {r : List UInt8} (h : isOp c = true) (h1 : e.toNat ≤ 99) (h2 : e ≠ 0) : readA (c :: e :: r) = (bareA c (e.toNat : Int), decide (r = [])) := (if_pos ⟨h, h1⟩).trans (if_neg h2)
theorem sizBare {op : UInt8} {e : Int} : sizA (bareA op e) := siz0 (Nat.zero_le _)
theorem readA_ok {b : List UInt8} (h : (readA b).2 = true) : mayA (readA b).1 = true ∧ bytA (readA b).1 = b := by
 match b with
 | [] => cases h
 | [_] => cases h
 | c :: e :: r =>
   by_cases hc : isOp c = true ∧ e.toNat ≤ 99
   case neg => rw [readA_no hc] at h; cases h
   obtain ⟨hc, h99⟩ := hc
   by_cases he : e = 0
   · subst he
     rw [readA_yes hc] at h ⊢
     simp only [Bool.and_eq_true, decide_eq_true_eq] at h
     obtain ⟨h1, h2⟩ := h
     have g := goodAK c (kA c) (kA_le c)
     cases hp : pAK c (kA c) r with
     | err e => exact absurd ((g.err _ _ hp).2.symm.trans h1) (g.err _ _ hp).1
     | ok x s =>
       have g2 := g.ok _ _ _ hp
       rw [g2] at h2 ⊢
       dsimp only at h2 ⊢
       subst h2
       obtain ⟨⟨k1, k2, k3, k4⟩, k5⟩ := (codAK c (kA c) (kA_le c)).only _ _ _ hp
       subst k1
       refine ⟨mayA_of ⟨hc, by omega, by unfold stripA; rw [if_pos k2]; exact k3, k4⟩, ?_⟩
       rw [List.append_nil] at k5
       unfold bytA bodyA
       rw [if_pos k2, k5, k2]; rfl
   · rw [readA_err hc h99 he] at h ⊢
     have hr := of_decide_eq_true h
     subst hr
     have hz : ((e.toNat : Nat) : Int) ≠ 0 := fun hh => he (UInt8.toNat_inj.1 (by show e.toNat = 0; omega))
     refine ⟨mayA_of ⟨hc, ⟨by show (0 : Int) ≤ (e.toNat : Int); omega, by show (e.toNat : Int) ≤ 99; omega⟩, ?_, sizBare⟩, ?_⟩
     · unfold stripA; exact if_neg hz
     · unfold bytA bodyA
       have hz2 : (bareA c (e.toNat : Int)).e ≠ 0 := hz
       show c :: UInt8.ofNat (e.toNat : Int).toNat :: (if (bareA c (e.toNat : Int)).e = 0 then _ else _) = _
       rw [if_neg hz2]
       show c :: UInt8.ofNat ((e.toNat : Int)).toNat :: [] = _
       rw [Int.toNat_natCast, UInt8.ofNat_toNat]
theorem e99 {e : Int} (h : 0 ≤ e ∧ e ≤ 99) : ((UInt8.ofNat e.toNat).toNat : Int) = e := by rw [UInt8.toNat_ofNat']; omega
theorem readA_put {a : TA} (h : mayA a = true) : readA (bytA a) = (a, true) := by
 obtain ⟨h1, h2, h3, h4⟩ := mayA_ok h
 have he := e99 h2
 by_cases hz : a.e = 0
 · unfold stripA at h3
   rw [if_pos hz] at h3
   have hp := (codAK a.op (kA a.op) (kA_le _)).put a [] ⟨rfl, hz, h3, h4⟩
   rw [List.append_nil] at hp
   have g := (goodAK a.op (kA a.op) (kA_le _)).ok _ _ _ hp
   unfold bytA bodyA
   rw [if_pos hz, hz]
   show readA (a.op :: 0 :: _) = _
   rw [readA_yes h1, g]
   rfl
 · unfold stripA at h3
   rw [if_neg hz] at h3
   unfold bytA bodyA
   rw [if_neg hz]
   have hne : UInt8.ofNat a.e.toNat ≠ 0 := fun hh => by rw [hh] at he; exact hz he.symm
   rw [readA_err h1 (by omega) hne, he, h3]
   rfl
theorem readA_same {a : TA} : ((readA (bytA a)).2 && decide ((readA (bytA a)).1 = a)) = mayA a := by
 cases hm : mayA a with
 | true => rw [readA_put hm]; simp
 | false =>
   cases h : (readA (bytA a)).2 with
   | false => rfl
   | true =>
     have k := (readA_ok h).1
     rw [Bool.true_and]
     apply decide_eq_false
     intro e
     rw [e, hm] at k; cases k
def putA (a : TA) : List UInt8 := if mayA a = true then bytA a else []
def putAe (a : TA) : Int := if mayA a = true then 0 else 1
def tkA (b : List UInt8) : TA := if (readA b).2 = true then (readA b).1 else noA
def tkAe (b : List UInt8) : Int := if (readA b).2 = true then 0 else 3
def ldN {α : Type} (f : LSt → α × LSt) : Nat → LSt → List α × LSt
 | 0, s => ([], s)
 | n + 1, s => ((f s).1 :: (ldN f n (f s).2).1, (ldN f n (f s).2).2)
theorem ldN_snoc {α : Type} (f : LSt → α × LSt) : ∀ (n : Nat) (s : LSt), ldN f (n + 1) s = ((ldN f n s).1 ++ [(f (ldN f n s).2).1], (f (ldN f n s).2).2)
 | 0, s => rfl
 | n + 1, s => by
   have := ldN_snoc f n (f s).2
   rw [ldN, this]
   rfl
theorem ldN_len {α : Type} (f : LSt → α × LSt) : ∀ (n : Nat) (s : LSt), (ldN f n s).1.length = n
 | 0, s => rfl
 | n + 1, s => by simp [ldN, ldN_len f n]
structure Lax {α : Type} (f : LSt → α × LSt) (w : α → List UInt8) (ok : α → Prop) : Prop where
 put : ∀ x r, ok x → f ⟨w x ++ r, true⟩ = (x, ⟨r, true⟩)
theorem Lax.of {α : Type} {t : List UInt8 → α × List UInt8 × Int} {w : α → List UInt8} {ok : α → Prop} (h : Cod (ofT t) w ok) : Lax (ld t) w ok := ⟨fun x r hx => ld_ok h hx⟩
theorem Lax.rep {α : Type} {f : LSt → α × LSt} {w : α → List UInt8} {ok : α → Prop} (h : Lax f w ok) : ∀ (l : List α) (r : List UInt8), (∀ x ∈ l, ok x) → ldN f l.length ⟨cat w l ++ r, true⟩ = (l, ⟨r, true⟩)
 | [], r, _ => rfl
 | x :: l, r, hl => by
   have h1 := h.put x (cat w l ++ r) (hl x (by simp))
   have h2 := h.rep l r fun y hy => hl y (by simp [hy])
   rw [cat_cons, List.append_assoc, List.length_cons, ldN, h1]
   dsimp only
   rw [h2]
def ldI (s : LSt) : Int × LSt := (((ld t32 s).1.toNat : Int), (ld t32 s).2)
theorem laxI : Lax ldI i4 (fun n => 0 ≤ n ∧ n < 2147483648) := ⟨fun n r h => by
 obtain ⟨e1, e2⟩ := i4_nat h
 have := ld_ok codN32 (x := UInt32.ofNat n.toNat) (r := r) trivial
 unfold ldI
 rw [e1, this]
 dsimp only
 rw [e2]⟩
def ldE (s : LSt) : TE × LSt :=
 let h := ld tH s
 let i := ld t32 h.2
 let v := ld t64 i.2
 let p := ldI v.2
 let q := ldI p.2
 let g := ld t32 q.2
 let t := ld tH g.2
 (⟨h.1, i.1, v.1, p.1, q.1, g.1, t.1⟩, t.2)
theorem laxE : Lax ldE entB okE := ⟨fun e r h => by
 obtain ⟨tx, idx, val, plan, state, hgt, tpl⟩ := e
 obtain ⟨h1, h2⟩ := h
 have k1 := ld_ok cH (x := tx) (r := le 4 (idx.toNat : Int) ++ (le 8 (val.toNat : Int) ++ (i4 plan ++ (i4 state ++ (le 4 (hgt.toNat : Int) ++ (tpl.1 ++ r)))))) trivial
 have k2 := ld_ok codN32 (x := idx) (r := le 8 (val.toNat : Int) ++ (i4 plan ++ (i4 state ++ (le 4 (hgt.toNat : Int) ++ (tpl.1 ++ r))))) trivial
 have k3 := ld_ok codN64 (x := val) (r := i4 plan ++ (i4 state ++ (le 4 (hgt.toNat : Int) ++ (tpl.1 ++ r)))) trivial
 have k4 := laxI.put plan (i4 state ++ (le 4 (hgt.toNat : Int) ++ (tpl.1 ++ r))) h1
 have k5 := laxI.put state (le 4 (hgt.toNat : Int) ++ (tpl.1 ++ r)) h2
 have k6 := ld_ok codN32 (x := hgt) (r := tpl.1 ++ r) trivial
 have k7 := ld_ok cH (x := tpl) (r := r) trivial
 unfold ldE entB
 simp only [List.append_assoc]
 rw [k1]; dsimp only
 rw [k2]; dsimp only
 rw [k3]; dsimp only
 rw [k4]; dsimp only
 rw [k5]; dsimp only
 rw [k6]; dsimp only
 rw [k7]⟩
def ldF (s : LSt) : Bool × LSt := (decide ((ld t8 s).1 = 1), (ld t8 s).2)
theorem laxF : Lax ldF flagB (fun _ => True) := ⟨fun v r _ => by
 unfold ldF ld flagB
 dsimp only
 rw [t8_put]
 cases v <;> rfl⟩
def ldC (m : Nat) (s : LSt) : Nat × LSt :=
 let ok := s.ok && decide ((sz s.b).2.2 = 0) && decide ((sz s.b).1 ≤ m)
 (if ok = true then (sz s.b).1 else 0, ⟨(sz s.b).2.1, ok⟩)
theorem laxC (m : Nat) (hm : (m : Int) ≤ 9223372036854775807) : Lax (ldC m) (fun n => sizeB (n : Nat)) (fun n => n ≤ m) := ⟨fun n r h => by
 have := sz_put n r (by omega) (by omega)
 unfold ldC
 dsimp only
 rw [this]
 simp [h]⟩
def ldAK (op : UInt8) (k : Nat) (s : LSt) : TA × LSt := match k with
 | 1 => let h := ld tH s; let g := ld t32 h.2; let w := ld tH g.2
   (⟨op, 0, h.1, g.1, wR w.1, 0, false, [], [], zN, []⟩, w.2)
 | 2 => let x := ld tBts s
   (⟨op, 0, zH, 0, zW, 0, false, x.1, [], zN, []⟩, x.2)
 | 3 => let v := ld t64 s; let g := ld t32 v.2; let f := ldF g.2; let x := ld tBts f.2
   (⟨op, 0, zH, g.1, zW, v.1, f.1, x.1, [], zN, []⟩, x.2)
 | 4 => let v := ld t64 s; let x := ld tBts v.2
   (⟨op, 0, zH, 0, zW, v.1, false, x.1, [], zN, []⟩, x.2)
 | 5 => let n := ldC 200 s; let l := ldN ldE n.1 n.2
   (⟨op, 0, zH, 0, zW, 0, false, [], l.1, zN, []⟩, l.2)
 | 6 => let l := ldN (ld t32) 5 s
   (⟨op, 0, zH, 0, zW, 0, false, [], [], n5Of l.1, []⟩, l.2)
 | 7 => let h := ld tH s
   (⟨op, 0, h.1, 0, zW, 0, false, [], [], zN, []⟩, h.2)
 | 8 => let n := ldC 100 s; let l := ldN (ld tH) n.1 n.2
   (⟨op, 0, zH, 0, zW, 0, false, [], [], zN, l.1⟩, l.2)
 | _ => (bareA op 0, s)
theorem ldAK_put (a : TA) (hz : a.e = 0) (hs : sizA a) : ∀ k, k ≤ 8 → stripAK k a = a → ldAK a.op k ⟨bodyAK k a, true⟩ = (a, ⟨[], true⟩) := by
 obtain ⟨op, e, name, hgt, work, val, fst, bts, ents, nums, nams⟩ := a
 dsimp only at hz
 subst hz
 obtain ⟨s1, s2, s3, s4⟩ := hs
 dsimp only at s1 s2 s3 s4
 have kx := ld_ok cBts (x := bts) (r := []) s1
 rw [List.append_nil] at kx
 refine k8_all ?_ ?_ ?_ ?_ ?_ ?_ ?_ ?_ ?_
 · intro h; exact congrArg (·, (⟨[], true⟩ : LSt)) h
 · intro h
   have k1 := ld_ok cH (x := name) (r := n4B hgt ++ (wB work).1) trivial
   have k2 := ld_ok codN32 (x := hgt) (r := (wB work).1) trivial
   have k3 := ld_ok cH (x := wB work) (r := []) trivial
   rw [List.append_nil] at k3
   simp only [ldAK, bodyAK]
   rw [k1]; dsimp only
   rw [show n4B hgt = le 4 (hgt.toNat : Int) from rfl, k2]; dsimp only
   rw [k3]; dsimp only
   rw [wR_wB]
   exact congrArg (·, (⟨[], true⟩ : LSt)) h
 · intro h
   simp only [ldAK, bodyAK, btsB]
   rw [kx]
   exact congrArg (·, (⟨[], true⟩ : LSt)) h
 · intro h
   have k1 := ld_ok codN64 (x := val) (r := n4B hgt ++ (flagB fst ++ btsB bts)) trivial
   have k2 := ld_ok codN32 (x := hgt) (r := flagB fst ++ btsB bts) trivial
   have k3 := laxF.put fst (btsB bts) trivial
   simp only [ldAK, bodyAK]
   rw [k1]; dsimp only
   rw [show n4B hgt = le 4 (hgt.toNat : Int) from rfl, k2]; dsimp only
   rw [k3]; dsimp only
   rw [show btsB bts = sizeB (bts.length : Nat) ++ bts from rfl, kx]
   exact congrArg (·, (⟨[], true⟩ : LSt)) h
 · intro h
   have k1 := ld_ok codN64 (x := val) (r := btsB bts) trivial
   simp only [ldAK, bodyAK]
   rw [k1]; dsimp only
   rw [show btsB bts = sizeB (bts.length : Nat) ++ bts from rfl, kx]
   exact congrArg (·, (⟨[], true⟩ : LSt)) h
 · intro h
   have k1 := (laxC 200 (by omega)).put ents.length (cat entB ents) s2
   have k2 := laxE.rep ents [] s4
   rw [List.append_nil] at k2
   simp only [ldAK, bodyAK]
   rw [k1]; dsimp only
   rw [k2]
   exact congrArg (·, (⟨[], true⟩ : LSt)) h
 · intro h
   have k2 := (Lax.of codN32).rep nums.1 [] (fun _ _ => trivial)
   rw [List.append_nil, nums.2] at k2
   simp only [ldAK, bodyAK]
   rw [show cat n4B nums.1 = cat (fun x : UInt32 => le 4 (x.toNat : Int)) nums.1 from rfl, k2]
   dsimp only
   rw [n5Of_self]
   exact congrArg (·, (⟨[], true⟩ : LSt)) h
 · intro h
   have k3 := ld_ok cH (x := name) (r := []) trivial
   rw [List.append_nil] at k3
   simp only [ldAK, bodyAK]
   rw [k3]
   exact congrArg (·, (⟨[], true⟩ : LSt)) h
 · intro h
   have k1 := (laxC 100 (by omega)).put nams.length (cat hB nams) s3
   have k2 := (Lax.of cH).rep nams [] (fun _ _ => trivial)
   rw [List.append_nil] at k2
   simp only [ldAK, bodyAK]
   rw [k1]; dsimp only
   rw [show cat hB nams = cat (fun x : H32 => x.1) nams from rfl, k2]
   exact congrArg (·, (⟨[], true⟩ : LSt)) h
def ldA (b : List UInt8) : TA × LSt :=
 let c := ld t8 ⟨b, true⟩
 let e := ld t8 c.2
 if e.1 = 0 then ldAK c.1 (kA c.1) e.2 else (bareA c.1 (e.1.toNat : Int), e.2)
theorem ldA_law (b : List UInt8) : ((ldA b).2.ok && mayA (ldA b).1 && decide (bytA (ldA b).1 = b)) = (readA b).2 ∧ ((readA b).2 = true → (ldA b).1 = (readA b).1) := by
 cases hr : (readA b).2 with
 | true =>
   obtain ⟨k1, k2⟩ := readA_ok hr
   generalize (readA b).1 = a at *
   obtain ⟨h1, h2, h3, h4⟩ := mayA_ok k1
   have he := e99 h2
   have e : (ldA b).1 = a ∧ (ldA b).2.ok = true := by
     have q1 : ld t8 ⟨b, true⟩ = (a.op, ⟨UInt8.ofNat a.e.toNat :: bodyA a, true⟩) := by
       unfold ld; dsimp only
       rw [← k2, bytA, t8_cons]; rfl
     have q2 : ld t8 ⟨UInt8.ofNat a.e.toNat :: bodyA a, true⟩ = (UInt8.ofNat a.e.toNat, ⟨bodyA a, true⟩) := by
       unfold ld; dsimp only
       rw [t8_cons]; rfl
     unfold ldA
     rw [q1]; dsimp only
     rw [q2]; dsimp only
     by_cases hz : a.e = 0
     · unfold stripA at h3
       rw [if_pos hz] at h3
       rw [if_pos (by rw [hz]; rfl)]
       unfold bodyA
       rw [if_pos hz, ldAK_put a hz h4 (kA a.op) (kA_le _) h3]
       exact ⟨rfl, rfl⟩
     · unfold stripA at h3
       rw [if_neg hz] at h3
       have hne : UInt8.ofNat a.e.toNat ≠ 0 := fun hh => by rw [hh] at he; exact hz he.symm
       rw [if_neg hne, he, h3]
       exact ⟨rfl, rfl⟩
   rw [e.1, e.2, k1, k2]
   exact ⟨by simp, fun _ => rfl⟩
 | false =>
   refine ⟨?_, fun h => by cases h⟩
   cases hm : mayA (ldA b).1 with
   | false => simp
   | true =>
     by_cases he : bytA (ldA b).1 = b
     · have := readA_put hm
       rw [he] at this
       rw [this] at hr; cases hr
     · rw [decide_eq_false he, Bool.and_false]
end Go.Fw

end

section
namespace Go.Fw
open Go
theorem shrB_pow (k : Nat) (x : Int) (h : 0 ≤ x) : shrB k x = x.fdiv ((256 ^ k : Nat) : Int) ∧ 0 ≤ shrB k x := by
 induction k with
 | zero => simp only [shrB, Nat.pow_zero]; exact ⟨by rw [Int.fdiv_eq_ediv_of_nonneg _ (by omega)]; simp, h⟩
 | succ k ih =>
   obtain ⟨h1, h2⟩ := ih
   simp only [shrB]
   have hp : (0 : Int) ≤ ((256 ^ k : Nat) : Int) := Int.natCast_nonneg _
   have hp1 : (0 : Int) ≤ ((256 ^ (k + 1) : Nat) : Int) := Int.natCast_nonneg _
   refine ⟨?_, by rw [Int.fdiv_eq_ediv_of_nonneg _ (by omega)]; omega⟩
   rw [h1, Int.fdiv_eq_ediv_of_nonneg _ hp, Int.fdiv_eq_ediv_of_nonneg _ (by omega), Int.fdiv_eq_ediv_of_nonneg _ hp1, Int.ediv_ediv_of_nonneg hp]
   congr 1
theorem le_getD (k : Nat) (x : Int) (r : Nat) (h : r < k) : (le k x).getD r 0 = UInt8.ofNat (IntKind.u8.wrap (shrB r x)).toNat := by
 induction k with
 | zero => omega
 | succ k ih =>
   rw [le, List.getD_eq_getElem?_getD]
   by_cases hr : r < k
   · rw [List.getElem?_append_left (by rw [le_len]; exact hr), ← List.getD_eq_getElem?_getD]; exact ih hr
   · obtain rfl : r = k := by omega
     rw [List.getElem?_append_right (by rw [le_len]; exact Nat.le_refl _), le_len]; simp
theorem p256 (r : Nat) (h : r < 8) : (2 : Int) ^ (min (8 * r) IntKind.u64.bits) = ((256 ^ r : Nat) : Int) := by
 rcases (by omega : r = 0 ∨ r = 1 ∨ r = 2 ∨ r = 3 ∨ r = 4 ∨ r = 5 ∨ r = 6 ∨ r = 7) with rfl | rfl | rfl | rfl | rfl | rfl | rfl | rfl <;> decide
theorem byteW_of (x : UInt64) (r : Nat) (h : r < 8) : UInt8.ofNat (IntKind.u8.wrap (Int.fdiv (x.toNat : Int) (2 ^ (min (8 * r) IntKind.u64.bits)))).toNat = (le 8 (x.toNat : Int)).getD r 0 := by
 rw [le_getD 8 _ r h, (shrB_pow r (x.toNat : Int) (by omega)).1, p256 r h]
theorem wL_getD (w : W4) (r : Nat) (h : r < 8) : (wL w).getD r 0 = (le 8 (w.a.toNat : Int)).getD r 0 ∧ (wL w).getD (8 + r) 0 = (le 8 (w.b.toNat : Int)).getD r 0 ∧ (wL w).getD (16 + r) 0 = (le 8 (w.c.toNat : Int)).getD r 0 ∧ (wL w).getD (24 + r) 0 = (le 8 (w.d.toNat : Int)).getD r 0 := by
 have la := le_len 8 (w.a.toNat : Int)
 have lb := le_len 8 (w.b.toNat : Int)
 have lc := le_len 8 (w.c.toNat : Int)
 have ld := le_len 8 (w.d.toNat : Int)
 unfold wL
 generalize le 8 (w.a.toNat : Int) = A at *
 generalize le 8 (w.b.toNat : Int) = B at *
 generalize le 8 (w.c.toNat : Int) = C at *
 generalize le 8 (w.d.toNat : Int) = D at *
 simp only [List.getD_eq_getElem?_getD]
 refine ⟨?_, ?_, ?_, ?_⟩
 · rw [List.getElem?_append_left (by simp; omega), List.getElem?_append_left (by simp; omega), List.getElem?_append_left (by omega)]
 · rw [List.getElem?_append_left (by simp; omega), List.getElem?_append_left (by simp; omega), List.getElem?_append_right (by omega)]; congr 2; omega
 · rw [List.getElem?_append_left (by simp; omega), List.getElem?_append_right (by simp; omega)]; congr 2; simp; omega
 · rw [List.getElem?_append_right (by simp; omega)]; congr 2; simp; omega
def outW (L : List UInt8) (i : Nat) : List UInt8 := List.replicate (32 - i) 0 ++ (L.take i).reverse
theorem outW_len {L : List UInt8} (h : L.length = 32) {i : Nat} (hi : i ≤ 32) : (outW L i).length = 32 := by simp [outW]; omega
theorem outW_0 (L : List UInt8) : outW L 0 = zby 32 := by simp [outW, zby]
theorem outW_32 {L : List UInt8} (h : L.length = 32) : outW L 32 = L.reverse := by unfold outW; rw [List.take_of_length_le (by omega)]; rfl
theorem outW_set {L : List UInt8} (h : L.length = 32) {i : Nat} (hi : i < 32) : (outW L i).set (31 - i) (L.getD i 0) = outW L (i + 1) := by
 unfold outW
 rw [show 32 - i = (31 - i) + 1 by omega, List.replicate_succ', show 32 - (i + 1) = 31 - i by omega, List.append_assoc]
 have e1 : L.take (i + 1) = L.take i ++ [L.getD i 0] := take_getDx 0 L i (by omega)
 rw [e1, List.reverse_append, List.set_append_right _ _ (by simp)]
 simp
def mskW (L : List UInt8) (i : Nat) : List UInt8 := List.replicate (32 - i) 0 ++ L.drop (32 - i)
theorem mskW_32 (L : List UInt8) : mskW L 32 = L := by simp [mskW]
theorem mskW_len {L : List UInt8} (h : L.length = 32) (i : Nat) : (mskW L i).length = 32 := by simp [mskW]; omega
theorem num_app (a b : List UInt8) : num (a ++ b) = num a + 256 ^ a.length * num b := by
 induction a with
 | nil => simp [num]
 | cons c a ih =>
   simp only [List.cons_append, num, ih, List.length_cons, Nat.pow_succ]
   rw [Nat.mul_add, Nat.add_assoc]
   congr 2
   rw [← Nat.mul_assoc]; congr 1; omega
theorem num_zero (n : Nat) : num (List.replicate n 0) = 0 := by
 induction n with
 | zero => rfl
 | succ n ih => simp [List.replicate_succ, num, ih]
theorem rep_add (m n : Nat) : List.replicate (m + n) (0 : UInt8) = List.replicate m 0 ++ List.replicate n 0 := List.replicate_append_replicate.symm
theorem win_msk {L : List UInt8} (h : L.length = 32) {q r i : Nat} (hq : q < 4) (hr : r < 8) (hi : i + (8 * q + r) = 31) :
   ((mskW L i).drop (8 * q)).take 8 = List.replicate (r + 1) 0 ++ (L.drop (8 * q + r + 1)).take (7 - r) ∧ ((mskW L (i + 1)).drop (8 * q)).take 8 = List.replicate r 0 ++ L.getD (8 * q + r) 0 :: (L.drop (8 * q + r + 1)).take (7 - r) := by
 unfold mskW
 have e1 : 32 - i = 8 * q + (r + 1) := by omega
 have e2 : 32 - (i + 1) = 8 * q + r := by omega
 constructor
 · rw [e1, rep_add, List.append_assoc, List.drop_append_of_le_length (by simp), List.drop_of_length_le (by simp), List.nil_append, List.take_append, List.take_of_length_le (by simp; omega)]
   simp only [List.length_replicate]
   congr 2; omega
 · rw [e2, rep_add, List.append_assoc, List.drop_append_of_le_length (by simp), List.drop_of_length_le (by simp), List.nil_append, List.take_append, List.take_of_length_le (by simp; omega)]
   simp only [List.length_replicate]
   rw [drop_getD 0 L (8 * q + r) (by omega), show 8 - r = (7 - r) + 1 by omega, List.take_succ_cons]
theorem or_comm64 (a b : Nat) : arith .or .u64 (a : Int) (b : Int) = arith .or .u64 (b : Int) (a : Int) := by
 simp only [arith, abits, IntKind.bits]
 rw [Nat.or_comm]
theorem word_step {L : List UInt8} (h : L.length = 32) {q r i : Nat} (hq : q < 4) (hr : r < 8) (hi : i + (8 * q + r) = 31) :
   arith .or .u64 ((nth8 (mskW L i) q).toNat : Int) (IntKind.u64.wrap (((L.getD (8 * q + r) 0).toNat : Int) * 2 ^ (min (8 * r) IntKind.u64.bits))) = some (.int .u64 ((nth8 (mskW L (i + 1)) q).toNat : Int)) := by
 obtain ⟨h1, h2⟩ := win_msk h hq hr hi
 have hl : ((L.drop (8 * q + r + 1)).take (7 - r)).length ≤ 7 - r := by simp; omega
 generalize (L.drop (8 * q + r + 1)).take (7 - r) = U at *
 generalize hc : L.getD (8 * q + r) 0 = c at *
 have hcl := c.toNat_lt
 have n1 : (nth8 (mskW L i) q).toNat = 256 ^ (r + 1) * num U := by
   have e : num (((mskW L i).drop (8 * q)).take 8) = 256 ^ (r + 1) * num U := by rw [h1, num_app, num_zero]; simp
   have := u64_num (((mskW L i).drop (8 * q)).take 8) (by simp; omega)
   unfold nth8
   rw [e] at this ⊢; omega
 have n2 : (nth8 (mskW L (i + 1)) q).toNat = 256 ^ (r + 1) * num U + c.toNat * 256 ^ r := by
   have e : num (((mskW L (i + 1)).drop (8 * q)).take 8) = 256 ^ (r + 1) * num U + c.toNat * 256 ^ r := by
     rw [h2, num_app, num_zero]
     simp only [List.length_replicate, num, Nat.pow_succ, Nat.mul_add, Nat.zero_add]
     rw [Nat.add_comm, Nat.mul_assoc, Nat.mul_comm c.toNat]
   have := u64_num (((mskW L (i + 1)).drop (8 * q)).take 8) (by simp; omega)
   unfold nth8
   rw [e] at this ⊢; omega
 have hw : IntKind.u64.wrap ((c.toNat : Int) * 2 ^ (min (8 * r) IntKind.u64.bits)) = ((c.toNat * 256 ^ r : Nat) : Int) := by
   rw [p256 r hr]
   have hb : c.toNat * 256 ^ r < 256 * 256 ^ r := Nat.mul_lt_mul_of_pos_right hcl (Nat.pow_pos (by decide))
   have hb2 : 256 * 256 ^ r ≤ 256 ^ 8 := by rw [← Nat.pow_succ']; exact Nat.pow_le_pow_right (by decide) (by omega)
   have hb3 : (256 : Nat) ^ 8 = 18446744073709551616 := by decide
   rw [← Int.natCast_mul]
   exact wrap_u64 (by omega) (by omega)
 have hlt := (nth8 (mskW L (i + 1)) q).toNat_lt
 rw [hw, n1]
 have hs := n2 ▸ hlt
 have e3 : arith .or .u64 ((256 ^ (r + 1) * num U : Nat) : Int) ((c.toNat * 256 ^ r : Nat) : Int) = some (.int .u64 ((256 ^ (r + 1) * num U + c.toNat * 256 ^ r : Nat) : Int)) := by
   have hb : c.toNat * 256 ^ r < 256 ^ (r + 1) := by rw [Nat.pow_succ, Nat.mul_comm (256 ^ r)]; exact Nat.mul_lt_mul_of_pos_right hcl (Nat.pow_pos (by decide))
   have := or_step (c.toNat * 256 ^ r) (num U) (r + 1) hb (by rw [Nat.mul_comm (num U), Nat.add_comm]; exact hs)
   rw [or_comm64, Nat.mul_comm (num U), Nat.add_comm (c.toNat * 256 ^ r)] at this
   exact this
 rw [e3, n2]
theorem word_same {L : List UInt8} (h : L.length = 32) {q r i j : Nat} (hq : q < 4) (hr : r < 8) (hi : i + (8 * q + r) = 31) (hj : j < 4) (hne : j ≠ q) : nth8 (mskW L (i + 1)) j = nth8 (mskW L i) j := by
 unfold nth8
 congr 2
 unfold mskW
 apply List.ext_getElem?
 intro k
 simp only [List.getElem?_take, List.getElem?_drop]
 split
 · rename_i hk
   rcases Nat.lt_or_ge j q with hlt | hge
   · rw [List.getElem?_append_left (by simp; omega), List.getElem?_append_left (by simp; omega)]
     rw [List.getElem?_replicate, List.getElem?_replicate, if_pos (by omega), if_pos (by omega)]
   · rw [List.getElem?_append_right (by simp; omega), List.getElem?_append_right (by simp; omega)]
     simp only [List.length_replicate, List.getElem?_drop]
     congr 1; omega
 · rfl
theorem word_0 {L : List UInt8} (j : Nat) (h : L.length = 32) : nth8 (mskW L 0) j = 0 := by
 unfold nth8 mskW
 have : (List.replicate (32 - 0) (0 : UInt8) ++ L.drop (32 - 0)) = List.replicate 32 0 := by rw [List.drop_of_length_le (by omega)]; simp
 rw [this, List.drop_replicate, List.take_replicate, num_zero]; rfl
def bigW (l : List UInt8) (p t : Nat) : UInt64 := UInt64.ofNat (num (((l.drop (8 * p)).take t).reverse))
theorem bigW_num (l : List UInt8) (p t : Nat) (h : t ≤ 8) : ((bigW l p t).toNat : Int) = (num (((l.drop (8 * p)).take t).reverse) : Int) := u64_num _ (by simp; omega)
theorem bigW_step {l : List UInt8} (hl : l.length = 32) {p t : Nat} (hp : p < 4) (ht : t < 8) : IntKind.u64.wrap (IntKind.u64.wrap (((bigW l p t).toNat : Int) * 256) + ((l.getD (8 * p + t) 0).toNat : Int)) = ((bigW l p (t + 1)).toNat : Int) := by
 have h1 := bigW_num l p t (by omega)
 have h2 := bigW_num l p (t + 1) (by omega)
 have hlt := (bigW l p (t + 1)).toNat_lt
 have e : ((l.drop (8 * p)).take (t + 1)).reverse = l.getD (8 * p + t) 0 :: ((l.drop (8 * p)).take t).reverse := by
   rw [take_getDx 0 (l.drop (8 * p)) t (by simp; omega), List.reverse_append]
   simp [List.getD_eq_getElem?_getD]
 rw [e] at h2
 simp only [num] at h2
 rw [h1]
 have hw : IntKind.u64.wrap ((num ((l.drop (8 * p)).take t).reverse : Int) * 256) = (num ((l.drop (8 * p)).take t).reverse : Int) * 256 := wrap_u64 (by omega) (by omega)
 rw [hw, wrap_u64 (by omega) (by omega), h2]
 omega
theorem bigW_0 (l : List UInt8) (p : Nat) : bigW l p 0 = 0 := by unfold bigW; rw [List.take_zero]; rfl
theorem bigW_8 {l : List UInt8} (hl : l.length = 32) {p : Nat} (hp : p < 4) : bigW l p 8 = nth8 l.reverse (3 - p) := by
 unfold bigW nth8
 congr 2
 apply List.ext_getElem?
 intro k
 by_cases hk : k < 8
 · rw [List.getElem?_reverse (by simp; omega), List.getElem?_take, if_pos (by simp; omega), List.getElem?_drop, List.getElem?_take, if_pos hk, List.getElem?_drop, List.getElem?_reverse (by omega)]
   congr 1; simp; omega
 · rw [List.getElem?_eq_none (by simp; omega), List.getElem?_eq_none (by simp; omega)]
theorem wT_injx (a b : W4) (h : wT a = wT b) : a = b := wT_inj h
def tW (i p : Nat) : Nat := min 8 (i - 8 * p)
theorem tW_0 (p : Nat) : tW 0 p = 0 := by unfold tW; omega
theorem tW_at {i q r : Nat} (h : i = 8 * q + r) (hr : r < 8) : tW i q = r := by unfold tW; omega
theorem tW_next {i q r : Nat} (h : i = 8 * q + r) (hr : r < 8) : tW (i + 1) q = r + 1 := by unfold tW; omega
theorem tW_same {i q r p : Nat} (h : i = 8 * q + r) (hr : r < 8) (hp : p ≠ q) : tW (i + 1) p = tW i p := by unfold tW; omega
theorem tW_32 {p : Nat} (h : p < 4) : tW 32 p = 8 := by unfold tW; omega
theorem byteD_of (x : UInt64) (r : Nat) (h : r < 8) : UInt8.ofNat (IntKind.u8.wrap (IntKind.u64.wrap (Int.tdiv (x.toNat : Int) ((256 ^ r : Nat) : Int)))).toNat = (le 8 (x.toNat : Int)).getD r 0 ∧ IntKind.u64.wrap (1 * 2 ^ (min (8 * r) IntKind.u64.bits)) = ((256 ^ r : Nat) : Int) ∧ ¬ ((256 ^ r : Nat) : Int) = 0 := by
 have hx := x.toNat_lt
 have hp : 0 < 256 ^ r := Nat.pow_pos (by decide)
 have hb : 256 ^ r ≤ 256 ^ 7 := Nat.pow_le_pow_right (by decide) (by omega)
 have hb3 : (256 : Nat) ^ 7 = 72057594037927936 := by decide
 refine ⟨?_, ?_, by omega⟩
 · rw [le_getD 8 _ r h, (shrB_pow r (x.toNat : Int) (by omega)).1, Int.fdiv_eq_ediv_of_nonneg _ (by omega), Int.tdiv_eq_ediv_of_nonneg (by omega), ← Int.natCast_ediv]
   have : x.toNat / 256 ^ r ≤ x.toNat := Nat.div_le_self _ _
   have h0 : (0 : Int) ≤ ((x.toNat / 256 ^ r : Nat) : Int) := Int.natCast_nonneg _
   have h1 : ((x.toNat / 256 ^ r : Nat) : Int) ≤ (x.toNat : Int) := Int.ofNat_le.2 this
   rw [wrap_u64 h0 (by omega)]
 · rw [p256 r h, Int.one_mul, wrap_u64 (by omega) (by omega)]
end Go.Fw

end

section
namespace Go.Fw
open Go
def entS (xs : List T) (i : Nat) (e : TE) : Blk := .sq 69 (xs.set i (eT e))
theorem entS_eq (xs : List T) (i : Nat) (e : TE) : entS xs i e = .sq 69 (xs.set i (eT e)) := rfl
theorem set_getD {xs : List T} {i : Nat} (hi : i < xs.length) {y : T} : (xs.set i y).getD i default = y := by
 rw [List.getD_eq_getElem?_getD, List.getElem?_set]; simp [hi]
theorem entS_self {xs : List T} {i : Nat} (hi : i < xs.length) {e : TE} (h : xs.getD i default = eT e) : Blk.sq 69 xs = entS xs i e := by
 unfold entS
 rw [← h]
 congr 1
 apply List.ext_getElem?
 intro k
 rw [List.getElem?_set]
 split
 · rename_i hk; subst hk; simp [hi]
 · rfl
theorem T.get_at {xs : List T} {i : Nat} {y : T} (h : xs[i]? = some y) (p : List Nat) : T.get (.st xs) (i :: p) = T.get y p := by simp [T.get, h]
theorem T.off_at {xs : List T} {i : Nat} {y : T} (h : xs[i]? = some y) (p : List Nat) : T.off (.st xs) (i :: p) = (T.off y p).map (T.sizeL (xs.take i) + ·) := by simp [T.off, h]
theorem T.set_at {xs : List T} {i : Nat} {y z : T} (h : xs[i]? = some y) (p : List Nat) (v : T) (hs : T.set y p v = some z) : T.set (.st xs) (i :: p) v = some (.st (xs.set i z)) := by simp [T.set, h, hs]
theorem T.set_nil (x v : T) : T.set x [] v = some v := by cases x <;> simp [T.set]
theorem entS_tx {xs : List T} {i off : Nat} (hi : i < xs.length) (e : TE) (ho : off = i * 69 + 0) : At (entS xs i e) off (i :: [0, 0]) (.ba 32 e.tx.1) ∧ ∀ m : H32, bset (entS xs i e) (i :: [0, 0]) (.ba 32 m.1) = some (entS xs i { e with tx := m }) := by
 refine ⟨At.sq (by simpa using hi) (by rw [set_getD hi]; simp [eT_st, T.get]) (o := 0) (by rw [set_getD hi]; simp [eT_st, T.off, T.sizeL, T.size, Option.map]) ho, fun m => ?_⟩
 unfold entS bset
 dsimp only
 rw [set_getD hi]
 simp [eT_st, T.set, eT]
theorem entS_idx {xs : List T} {i off : Nat} (hi : i < xs.length) (e : TE) (ho : off = i * 69 + 32) : At (entS xs i e) off (i :: [0, 1]) (.int .u32 (e.idx.toNat : Int)) ∧ ∀ m : UInt32, bset (entS xs i e) (i :: [0, 1]) (.int .u32 (m.toNat : Int)) = some (entS xs i { e with idx := m }) := by
 refine ⟨At.sq (by simpa using hi) (by rw [set_getD hi]; simp [eT_st, T.get]) (o := 32) (by rw [set_getD hi]; simp [eT_st, T.off, T.sizeL, T.size, Option.map]) ho, fun m => ?_⟩
 unfold entS bset
 dsimp only
 rw [set_getD hi]
 simp [eT_st, T.set, eT]
theorem entS_val {xs : List T} {i off : Nat} (hi : i < xs.length) (e : TE) (ho : off = i * 69 + 33) : At (entS xs i e) off (i :: [1]) (.int .u64 (e.val.toNat : Int)) ∧ ∀ m : UInt64, bset (entS xs i e) (i :: [1]) (.int .u64 (m.toNat : Int)) = some (entS xs i { e with val := m }) := by
 refine ⟨At.sq (by simpa using hi) (by rw [set_getD hi]; simp [eT_st, T.get]) (o := 33) (by rw [set_getD hi]; simp [eT_st, T.off, T.sizeL, T.size, Option.map]) ho, fun m => ?_⟩
 unfold entS bset
 dsimp only
 rw [set_getD hi]
 simp [eT_st, T.set, eT]
theorem entS_plan {xs : List T} {i off : Nat} (hi : i < xs.length) (e : TE) (ho : off = i * 69 + 34) : At (entS xs i e) off (i :: [2]) (.int .i64 e.plan) ∧ ∀ m : Int, bset (entS xs i e) (i :: [2]) (.int .i64 m) = some (entS xs i { e with plan := m }) := by
 refine ⟨At.sq (by simpa using hi) (by rw [set_getD hi]; simp [eT_st, T.get]) (o := 34) (by rw [set_getD hi]; simp [eT_st, T.off, T.sizeL, T.size, Option.map]) ho, fun m => ?_⟩
 unfold entS bset
 dsimp only
 rw [set_getD hi]
 simp [eT_st, T.set, eT]
theorem entS_state {xs : List T} {i off : Nat} (hi : i < xs.length) (e : TE) (ho : off = i * 69 + 35) : At (entS xs i e) off (i :: [3]) (.int .i64 e.state) ∧ ∀ m : Int, bset (entS xs i e) (i :: [3]) (.int .i64 m) = some (entS xs i { e with state := m }) := by
 refine ⟨At.sq (by simpa using hi) (by rw [set_getD hi]; simp [eT_st, T.get]) (o := 35) (by rw [set_getD hi]; simp [eT_st, T.off, T.sizeL, T.size, Option.map]) ho, fun m => ?_⟩
 unfold entS bset
 dsimp only
 rw [set_getD hi]
 simp [eT_st, T.set, eT]
theorem entS_hgt {xs : List T} {i off : Nat} (hi : i < xs.length) (e : TE) (ho : off = i * 69 + 36) : At (entS xs i e) off (i :: [4]) (.int .u32 (e.hgt.toNat : Int)) ∧ ∀ m : UInt32, bset (entS xs i e) (i :: [4]) (.int .u32 (m.toNat : Int)) = some (entS xs i { e with hgt := m }) := by
 refine ⟨At.sq (by simpa using hi) (by rw [set_getD hi]; simp [eT_st, T.get]) (o := 36) (by rw [set_getD hi]; simp [eT_st, T.off, T.sizeL, T.size, Option.map]) ho, fun m => ?_⟩
 unfold entS bset
 dsimp only
 rw [set_getD hi]
 simp [eT_st, T.set, eT]
theorem entS_tpl {xs : List T} {i off : Nat} (hi : i < xs.length) (e : TE) (ho : off = i * 69 + 37) : At (entS xs i e) off (i :: [5]) (.ba 32 e.tpl.1) ∧ ∀ m : H32, bset (entS xs i e) (i :: [5]) (.ba 32 m.1) = some (entS xs i { e with tpl := m }) := by
 refine ⟨At.sq (by simpa using hi) (by rw [set_getD hi]; simp [eT_st, T.get]) (o := 37) (by rw [set_getD hi]; simp [eT_st, T.off, T.sizeL, T.size, Option.map]) ho, fun m => ?_⟩
 unfold entS bset
 dsimp only
 rw [set_getD hi]
 simp [eT_st, T.set, eT]
def ansS (a : TA) (E N : T) : Blk := .bx (.t (.st [.int .u8 (a.op.toNat : Int), .int .i64 a.e, .ba 32 a.name.1, .int .u32 (a.hgt.toNat : Int), wT a.work, .int .u64 (a.val.toNat : Int), .bool a.fst, .by a.bts, E, .ar 5 1 (a.nums.1.map nT), N]))
theorem ansS_eq (a : TA) (E N : T) : ansS a E N = .bx (.t (.st [.int .u8 (a.op.toNat : Int), .int .i64 a.e, .ba 32 a.name.1, .int .u32 (a.hgt.toNat : Int), wT a.work, .int .u64 (a.val.toNat : Int), .bool a.fst, .by a.bts, E, .ar 5 1 (a.nums.1.map nT), N])) := rfl
theorem wT_size (w : W4) : (wT w).size = 4 := rfl
theorem ansS_name (a : TA) (E N : T) : At (ansS a E N) 2 [2] (.ba 32 a.name.1) ∧ ∀ m : H32, bset (ansS a E N) [2] (.ba 32 m.1) = some (ansS { a with name := m } E N) := by
 refine ⟨At.st (y := .ba 32 a.name.1) rfl (T.get_nil _) (T.off_nil _) (by simp [T.sizeL, T.size, wT_size]), fun m => ?_⟩
 unfold ansS bset
 simp [T.set_nil]
theorem ansS_hgt (a : TA) (E N : T) : At (ansS a E N) 34 [3] (.int .u32 (a.hgt.toNat : Int)) ∧ ∀ m : UInt32, bset (ansS a E N) [3] (.int .u32 (m.toNat : Int)) = some (ansS { a with hgt := m } E N) := by
 refine ⟨At.st (y := .int .u32 (a.hgt.toNat : Int)) rfl (T.get_nil _) (T.off_nil _) (by simp [T.sizeL, T.size, wT_size]), fun m => ?_⟩
 unfold ansS bset
 simp [T.set_nil]
theorem ansS_work (a : TA) (E N : T) : At (ansS a E N) 35 [4] (wT a.work) ∧ ∀ m : W4, bset (ansS a E N) [4] (wT m) = some (ansS { a with work := m } E N) := by
 refine ⟨At.st (y := wT a.work) rfl (T.get_nil _) (T.off_nil _) (by simp [T.sizeL, T.size, wT_size]), fun m => ?_⟩
 unfold ansS bset
 simp [T.set_nil]
theorem ansS_val (a : TA) (E N : T) : At (ansS a E N) 39 [5] (.int .u64 (a.val.toNat : Int)) ∧ ∀ m : UInt64, bset (ansS a E N) [5] (.int .u64 (m.toNat : Int)) = some (ansS { a with val := m } E N) := by
 refine ⟨At.st (y := .int .u64 (a.val.toNat : Int)) rfl (T.get_nil _) (T.off_nil _) (by simp [T.sizeL, T.size, wT_size]), fun m => ?_⟩
 unfold ansS bset
 simp [T.set_nil]
theorem ansS_fst (a : TA) (E N : T) : At (ansS a E N) 40 [6] (.bool a.fst) ∧ ∀ m : Bool, bset (ansS a E N) [6] (.bool m) = some (ansS { a with fst := m } E N) := by
 refine ⟨At.st (y := .bool a.fst) rfl (T.get_nil _) (T.off_nil _) (by simp [T.sizeL, T.size, wT_size]), fun m => ?_⟩
 unfold ansS bset
 simp [T.set_nil]
theorem ansS_bts (a : TA) (E N : T) : At (ansS a E N) 41 [7] (.by a.bts) ∧ ∀ m : List UInt8, bset (ansS a E N) [7] (.by m) = some (ansS { a with bts := m } E N) := by
 refine ⟨At.st (y := .by a.bts) rfl (T.get_nil _) (T.off_nil _) (by simp [T.sizeL, T.size, wT_size]), fun m => ?_⟩
 unfold ansS bset
 simp [T.set_nil]
theorem ar_get (n sz : Nat) (xs : List T) (i : Nat) {y : T} (h : xs[i]? = some y) : T.get (.ar n sz xs) [i] = some y := by simp [T.get, h, T.get_nil]
def numS (l : List UInt32) (i : Nat) : List UInt32 := l.take i ++ List.replicate (5 - i) 0
def ansL (a : TA) (l : List UInt32) (E N : T) : Blk := .bx (.t (.st [.int .u8 (a.op.toNat : Int), .int .i64 a.e, .ba 32 a.name.1, .int .u32 (a.hgt.toNat : Int), wT a.work, .int .u64 (a.val.toNat : Int), .bool a.fst, .by a.bts, E, .ar 5 1 (l.map nT), N]))
theorem ansL_S (a : TA) (E N : T) : ansS a E N = ansL a a.nums.1 E N := rfl
theorem ansL_num (a : TA) (l : List UInt32) (E N : T) (hE : E.size = 1) {i off : Nat} (hi : i < l.length) (ho : off = 43 + i) : At (ansL a l E N) off [9, i] (.int .u32 ((l.getD i 0).toNat : Int)) ∧ ∀ m : UInt32, bset (ansL a l E N) [9, i] (.int .u32 (m.toNat : Int)) = some (ansL a (l.set i m) E N) := by
 have hg : (l.map nT)[i]? = some (.int .u32 ((l.getD i 0).toNat : Int)) := by simp [hi, nT]
 refine ⟨At.st (y := .ar 5 1 (l.map nT)) (o := i) rfl (ar_get _ _ _ _ hg) (by simp [T.off, hg, T.off_nil]) (by simp [T.sizeL, T.size, wT_size, hE]; omega), fun m => ?_⟩
 unfold ansL bset
 simp [T.set, hi, T.set_nil, List.map_set, nT]
theorem namS_at {l : List T} {i off : Nat} {h : H32} (hi : i < l.length) (hg : l.getD i default = hT h) (ho : off = i * 32) : At (.sq 32 l) off [i] (.ba 32 h.1) :=
 At.sq hi (by rw [hg]; exact T.get_nil _) (o := 0) (by rw [hg]; exact T.off_nil _) (by omega)
theorem namS_set (l : List T) (i : Nat) (m : H32) : bset (.sq 32 l) [i] (.ba 32 m.1) = some (.sq 32 (l.set i (hT m))) := by
 unfold bset
 simp [T.set_nil, hT]
end Go.Fw

end

section
namespace Go.Fw
open Go
theorem sq_slice {M : Nat → Option Obj} {sz : Nat} {l : List T} {v : Value} (h : RelT M (.sq sz l) v) : ∃ a n k, v = .slice a n k ∧ (a = none → l = []) := by
 cases h with
 | sqn => exact ⟨_, _, _, rfl, fun _ => rfl⟩
 | sq hM hw hl hm hc => exact ⟨_, _, _, rfl, fun h => by cases h⟩
theorem AWP.gnilS {kp : Nat} {P : Program} {E : Env} {q : List TypeId} (hX : XOk P E q) {gl : GCalls} (hcl : GClOk P gl) (keep : List Nat) {N id d j : Nat} {l : List Oper} {o : Oper} {t t' e : TypeId} {sz : Nat} {b : List T} {Q : Exit → AS → Prop} {S S1 : AS}
   (hop : o.op = .binOp .eql t (.tmp j) (.const (.slice none 0 0)) t') (hd : o.dst = some d) (hdN : d < N) (ht : (E t).ty = .sl e)
   (h : gops E q gl N (l ++ [o]) l S = some S1) (hw : wantA (l ++ [o]) S1.s o = some true) (hsl : lk j S1.s = .t (.sq sz b))
   (hQ : ∀ r : Bool, (r = true → b = []) → Q .normal ⟨prune keep ((d, .t (.bool r)) :: S1.s), S1.H⟩) : AWP kp P N (.region id (l ++ [o]).toArray false) Q S := by
 intro c hc m w a hi hs
 refine wp_region_list ?_
 have e1 : (l ++ [o]).toArray.toList = l ++ [o] := by simp
 rw [e1]
 refine gops_then hX hcl [o] l S S1 m w a (by rw [e1]; exact h) hi hs fun m' w' a' h1 h2 => ?_
 have hw' := wantA_ok (ops := (l ++ [o]).toArray) h2 (by rw [e1]; exact hw)
 unfold wpList
 rw [if_pos hw']
 refine .inl ?_
 have hrel := h2.2.2 j
 rw [hsl] at hrel
 obtain ⟨b0, n, k, hv, hemp⟩ := sq_slice hrel.t_inv
 have dd := (hX.env.ty ht (by simp)).1
 simp only [DescOk] at dd
 have hrun := run_sl_nil (P := P) (w := w') dd b0 n k (.tmp j) (.const (.slice none 0 0))
 have hexec : (execOp a'.eval o).run P w' = .ok (.value (.bool b0.isNone)) w' := by
   simp only [execOp, hop]
   have ev1 : a'.eval (.tmp j) = .slice b0 n k := hv
   have ev2 : a'.eval (.const (.slice none 0 0)) = .slice none 0 0 := rfl
   simp only [Sem.run_bind, ev1, ev2] at hrun ⊢
   rw [hrun]; rfl
 unfold Oper.wp
 rw [hexec]
 show wpList P (l ++ [o]).toArray (APost c N Q) [] (a'.put o.dst (.bool b0.isNone)) w'
 refine wpList_nil ?_
 have hp : aputs N o (.t (.bool b0.isNone)) S1.s = some ((d, .t (.bool b0.isNone)) :: S1.s) := by simp only [aputs, hd]; rw [if_pos hdN]
 exact ⟨m', ⟨prune keep ((d, .t (.bool b0.isNone)) :: S1.s), S1.H⟩, h1, (h2.puts (.t .bool) hp).prune keep, hQ _ fun h => hemp (by cases b0 <;> simp_all)⟩
end Go.Fw

end

section
namespace Go.Fw
open Go
theorem readQ_more {q : TQ} (h : mayQ q = true) (c : UInt8) (r : List UInt8) : (readQ (q.op :: bodyQ q ++ c :: r)).2 = false := by
 obtain ⟨h1, h2, h3⟩ := mayQ_ok h
 have hp := (codK q.op (kQ q.op) (kQ_le _)).put q (c :: r) ⟨rfl, h2, h3⟩
 have g := (goodK q.op (kQ q.op) (kQ_le _)).ok _ _ _ hp
 rw [List.cons_append, readQ_yes h1, show bodyQ q = bodyK (kQ q.op) q from rfl, g]
 rfl
theorem readQ_cut {q : TQ} (h : mayQ q = true) : (readQ ((q.op :: bodyQ q).take ((q.op :: bodyQ q).length - 1))).2 = false := by
 obtain ⟨h1, h2, h3⟩ := mayQ_ok h
 by_cases hb : (bodyQ q).length = 0
 · have : bodyQ q = [] := List.length_eq_zero_iff.1 hb
   rw [this]; rfl
 · have e : (q.op :: bodyQ q).take ((q.op :: bodyQ q).length - 1) = q.op :: (bodyQ q).take ((bodyQ q).length - 1) := by
     rw [List.length_cons, show (bodyQ q).length + 1 - 1 = ((bodyQ q).length - 1) + 1 by omega, List.take_succ_cons]
   rw [e, readQ_yes h1]
   have hp := (codK q.op (kQ q.op) (kQ_le _)).cut q ((bodyQ q).length - 1) ⟨rfl, h2, h3⟩ (show (bodyQ q).length - 1 < (bodyQ q).length by omega)
   have g := (goodK q.op (kQ q.op) (kQ_le _)).err _ _ hp
   show (decide ((rdK q.op (kQ q.op) ⟨(bodyK (kQ q.op) q).take ((bodyQ q).length - 1), 0⟩).2.e = 0) && _) = false
   rw [g.2]; rfl
theorem readA_more {a : TA} (h : mayA a = true) (c : UInt8) (r : List UInt8) : (readA (bytA a ++ c :: r)).2 = false := by
 obtain ⟨h1, h2, h3, h4⟩ := mayA_ok h
 have he := e99 h2
 by_cases hz : a.e = 0
 · unfold stripA at h3
   rw [if_pos hz] at h3
   have hp := (codAK a.op (kA a.op) (kA_le _)).put a (c :: r) ⟨rfl, hz, h3, h4⟩
   have g := (goodAK a.op (kA a.op) (kA_le _)).ok _ _ _ hp
   unfold bytA bodyA
   rw [if_pos hz, hz]
   show (readA (a.op :: 0 :: (bodyAK (kA a.op) a ++ c :: r))).2 = false
   rw [readA_yes h1, g]
   rfl
 · unfold bytA bodyA
   rw [if_neg hz]
   have hne : UInt8.ofNat a.e.toNat ≠ 0 := fun hh => by rw [hh] at he; exact hz he.symm
   show (readA (a.op :: UInt8.ofNat a.e.toNat :: c :: r)).2 = false
   rw [readA_err h1 (by omega) hne]
   rfl
theorem readA_cut {a : TA} (h : mayA a = true) : (readA ((bytA a).take ((bytA a).length - 1))).2 = false := by
 obtain ⟨h1, h2, h3, h4⟩ := mayA_ok h
 have he := e99 h2
 by_cases hb : (bodyA a).length = 0
 · have hb' : bodyA a = [] := List.length_eq_zero_iff.1 hb
   unfold bytA
   rw [hb']; rfl
 · have hz : a.e = 0 := by
     by_cases hz : a.e = 0
     · exact hz
     · exfalso; apply hb; unfold bodyA; rw [if_neg hz]; rfl
   have e : (bytA a).take ((bytA a).length - 1) = a.op :: 0 :: (bodyAK (kA a.op) a).take ((bodyAK (kA a.op) a).length - 1) := by
     have hbo : bodyA a = bodyAK (kA a.op) a := by unfold bodyA; rw [if_pos hz]
     rw [hbo] at hb
     unfold bytA
     rw [hbo, hz, List.length_cons, List.length_cons, show (bodyAK (kA a.op) a).length + 1 + 1 - 1 = ((bodyAK (kA a.op) a).length - 1) + 1 + 1 by omega, List.take_succ_cons, List.take_succ_cons]; rfl
   have hbo : bodyA a = bodyAK (kA a.op) a := by unfold bodyA; rw [if_pos hz]
   rw [hbo] at hb
   rw [e, readA_yes h1]
   unfold stripA at h3
   rw [if_pos hz] at h3
   have hp := (codAK a.op (kA a.op) (kA_le _)).cut a ((bodyAK (kA a.op) a).length - 1) ⟨rfl, hz, h3, h4⟩ (by omega)
   have g := (goodAK a.op (kA a.op) (kA_le _)).err _ _ hp
   show (decide ((rdAK a.op (kA a.op) ⟨(bodyAK (kA a.op) a).take ((bodyAK (kA a.op) a).length - 1), 0⟩).2.e = 0) && _) = false
   rw [decide_eq_false (by rw [g.2]; exact g.1)]; rfl
theorem tkA_put {a : TA} (h : mayA a = true) : tkA (bytA a) = a ∧ tkAe (bytA a) = 0 := by
 have := readA_put h
 exact ⟨by unfold tkA; rw [this]; rfl, by unfold tkAe; rw [this]; rfl⟩
theorem tkA_no {b : List UInt8} (h : (readA b).2 = false) : tkA b = noA ∧ tkAe b = 3 := ⟨if_neg (by rw [h]; simp), if_neg (by rw [h]; simp)⟩
theorem tkA_yes {b : List UInt8} (h : (readA b).2 = true) : tkA b = (readA b).1 ∧ tkAe b = 0 := ⟨if_pos h, if_pos h⟩
theorem tkQ_put {q : TQ} (h : mayQ q = true) : tkQ (q.op :: bodyQ q) = q ∧ tkQe (q.op :: bodyQ q) = 0 := by
 have := readQ_put h
 exact ⟨by unfold tkQ; rw [this]; rfl, by unfold tkQe; rw [this]; rfl⟩
theorem tkQ_no {b : List UInt8} (h : (readQ b).2 = false) : tkQ b = dQ ∧ tkQe b = 3 := ⟨if_neg (by rw [h]; simp), if_neg (by rw [h]; simp)⟩
theorem tkQ_yes {b : List UInt8} (h : (readQ b).2 = true) : tkQ b = (readQ b).1 ∧ tkQe b = 0 := ⟨if_pos h, if_pos h⟩
theorem putQ_yesB {q : TQ} (h : mayQ q = true) : putQ q = q.op :: bodyK (kQ q.op) q ∧ putQe q = 0 := ⟨if_pos h, if_pos h⟩
def entA (l : List TE) : TA := ⟨6, 0, zH, 0, zW, 0, false, [], l, zN, []⟩
def okEb (e : TE) : Bool := decide (0 ≤ e.plan) && decide (e.plan < 2147483648) && decide (0 ≤ e.state) && decide (e.state < 2147483648)
theorem okEb_iff (e : TE) : okEb e = true ↔ okE e := by
 unfold okEb okE
 simp only [Bool.and_eq_true, decide_eq_true_eq, and_assoc]
theorem entA_may (l : List TE) : mayA (entA l) = (decide (l.length ≤ 200) && l.all okEb) := by
 rw [Bool.eq_iff_iff]
 simp only [Bool.and_eq_true, decide_eq_true_eq, List.all_eq_true]
 constructor
 · intro h
   obtain ⟨h1, h2, h3, h4⟩ := mayA_ok h
   exact ⟨h4.2.1, fun x hx => (okEb_iff x).2 (h4.2.2.2 x hx)⟩
 · rintro ⟨h1, h2⟩
   exact mayA_of ⟨rfl, ⟨show (0 : Int) ≤ 0 by decide, show (0 : Int) ≤ 99 by decide⟩, rfl, Nat.zero_le _, h1, Nat.zero_le _, fun x hx => (okEb_iff x).1 (h2 x hx)⟩
end Go.Fw

end
