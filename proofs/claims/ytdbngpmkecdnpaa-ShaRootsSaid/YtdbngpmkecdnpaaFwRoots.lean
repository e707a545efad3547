/- The abstract machine, and the contracts of the code: part 44. -/
import Derived.Test.YtdbngpmkecdnpaaFwT

section
/- Digits, roots, primes: plain laws. -/
namespace Go.Fw
open Go
set_option linter.unusedVariables false
set_option linter.unusedSimpArgs false

def n64 (n : Nat) : T := .int .u64 (n : Int)

/-- What digits of 16 bits stand for, the lowest first. -/
def dval : List Nat → Nat
  | [] => 0
  | d :: l => d + 65536 * dval l
/-- So many digits of a number. -/
def digs : Nat → Nat → List Nat
  | 0, _ => []
  | n + 1, v => v % 65536 :: digs n (v / 65536)
def dig (l : List Nat) : Prop := ∀ e ∈ l, e < 65536

theorem digs_len : ∀ n v, (digs n v).length = n
  | 0, _ => rfl
  | n + 1, v => by simp [digs, digs_len n]
theorem digs_dig : ∀ n v, dig (digs n v)
  | 0, _ => by simp [digs, dig]
  | n + 1, v => by
    intro e he
    simp only [digs, List.mem_cons] at he
    rcases he with rfl | he
    · omega
    · exact digs_dig n _ e he
theorem dval_lt : ∀ {l : List Nat}, dig l → dval l < 65536 ^ l.length
  | [], _ => by simp [dval]
  | d :: l, h => by
    have h1 := dval_lt (l := l) (fun e he => h e (by simp [he]))
    have h2 := h d (by simp)
    simp only [dval, List.length_cons, Nat.pow_succ]; omega
theorem dval_digs : ∀ n v, v < 65536 ^ n → dval (digs n v) = v
  | 0, v, h => by simp at h; simp [digs, dval, h]
  | n + 1, v, h => by
    simp only [digs, dval]
    rw [dval_digs n (v / 65536) (by rw [Nat.pow_succ] at h; exact Nat.div_lt_of_lt_mul (by omega))]
    omega
theorem digs_dval : ∀ {l : List Nat}, dig l → digs l.length (dval l) = l
  | [], _ => rfl
  | d :: l, h => by
    have h2 := h d (by simp)
    simp only [List.length_cons, digs, dval]
    have e1 : (d + 65536 * dval l) % 65536 = d := by omega
    have e2 : (d + 65536 * dval l) / 65536 = dval l := by omega
    rw [e1, e2, digs_dval (l := l) (fun e he => h e (by simp [he]))]
theorem digs_uniq {l : List Nat} {n v : Nat} (h : dig l) (hn : l.length = n) (hv : dval l = v) : l = digs n v := by
  rw [← hn, ← hv, digs_dval h]
theorem digs_get : ∀ n v i, i < n → (digs n v).getD i 0 = v / 65536 ^ i % 65536
  | 0, _, _, h => by omega
  | n + 1, v, 0, _ => by simp [digs]
  | n + 1, v, i + 1, h => by
    simp only [digs, List.getD_cons_succ]
    rw [digs_get n _ i (by omega), Nat.div_div_eq_div_mul, Nat.pow_succ, Nat.mul_comm]
theorem dval_set : ∀ (l : List Nat) (j e : Nat), j < l.length → dval (l.set j e) + l.getD j 0 * 65536 ^ j = dval l + e * 65536 ^ j
  | [], j, e, h => by simp at h
  | d :: l, 0, e, _ => by simp [dval]; omega
  | d :: l, j + 1, e, h => by
    have ih := dval_set l j e (by simpa using h)
    simp only [List.set_cons_succ, dval, List.getD_cons_succ, Nat.pow_succ]
    have e1 : l.getD j 0 * (65536 ^ j * 65536) = 65536 * (l.getD j 0 * 65536 ^ j) := by
      rw [← Nat.mul_assoc, Nat.mul_comm]
    have e2 : e * (65536 ^ j * 65536) = 65536 * (e * 65536 ^ j) := by rw [← Nat.mul_assoc, Nat.mul_comm]
    rw [e1, e2]; omega
theorem dig_set {l : List Nat} (h : dig l) {j e : Nat} (he : e < 65536) : dig (l.set j e) := by
  intro x hx
  rcases List.mem_or_eq_of_mem_set hx with h1 | h1
  · exact h x h1
  · omega
theorem dval_take : ∀ (l : List Nat) (i : Nat), i < l.length → dval (l.take (i + 1)) = dval (l.take i) + l.getD i 0 * 65536 ^ i
  | [], i, h => by simp at h
  | d :: l, 0, _ => by simp [dval]
  | d :: l, i + 1, h => by
    have ih := dval_take l i (by simpa using h)
    simp only [List.take_succ_cons, dval, ih, List.getD_cons_succ, Nat.pow_succ]
    rw [← Nat.mul_assoc (l.getD i 0), Nat.mul_comm (l.getD i 0 * 65536 ^ i) 65536]; omega
theorem dig_get {l : List Nat} (h : dig l) {i : Nat} (hi : i < l.length) : l.getD i 0 < 65536 := by
  have : l.getD i 0 = l[i] := by simp [hi]
  rw [this]; exact h _ (List.getElem_mem _)
theorem dig_take {l : List Nat} (h : dig l) (i : Nat) : dig (l.take i) := fun e he => h e (List.mem_of_mem_take he)
theorem zero_dig (n : Nat) : dig (List.replicate n 0) := by intro e he; simp at he; omega
theorem zero_val (n : Nat) : dval (List.replicate n 0) = 0 := by
  induction n with
  | zero => rfl
  | succ n ih => simp [List.replicate_succ, dval, ih]
theorem dval_snoc : ∀ (l : List Nat) (e : Nat), dval (l ++ [e]) = dval l + e * 65536 ^ l.length
  | [], e => by simp [dval]
  | d :: l, e => by
    simp only [List.cons_append, dval, dval_snoc l e, List.length_cons, Nat.pow_succ]
    rw [← Nat.mul_assoc e, Nat.mul_comm (e * 65536 ^ l.length) 65536]; omega

/-- One place of a product: the carry. -/
theorem carry_step {V c B j o a xk R : Nat} {W : Nat} (hW : V + c * B = R) (hs : W + o * B = V + ((c + o + a * xk) % 65536) * B) :
    W + (c + o + a * xk) / 65536 * (B * 65536) = R + a * xk * B := by
  have h1 : (c + o + a * xk) / 65536 * (B * 65536) + (c + o + a * xk) % 65536 * B = (c + o + a * xk) * B := by
    have := Nat.div_add_mod (c + o + a * xk) 65536
    calc (c + o + a * xk) / 65536 * (B * 65536) + (c + o + a * xk) % 65536 * B = (65536 * ((c + o + a * xk) / 65536) + (c + o + a * xk) % 65536) * B := by
          rw [Nat.add_mul, Nat.mul_comm B 65536, ← Nat.mul_assoc, Nat.mul_comm 65536]
      _ = _ := by rw [this]
  have h2 : (c + o + a * xk) * B = c * B + o * B + a * xk * B := by rw [Nat.add_mul, Nat.add_mul]
  omega

/-- The bits of a root, found one by one. -/
def okR (cube : Bool) (p y : Nat) : Bool := decide ((y : Int) < 137438953472) && (if cube then decide (y * y * y ≤ p * 65536 ^ 6) else decide (y * y ≤ p * 65536 ^ 4))
def rootG (f : Nat → Bool) : Nat → Nat → Nat
  | 0, x => x
  | i + 1, x => rootG f i (if f (x + 2 ^ i) then x + 2 ^ i else x)
def rootF (cube : Bool) (p : Nat) : Nat → Nat → Nat := rootG (okR cube p)
theorem rootG_succ (f : Nat → Bool) (i x : Nat) : rootG f (i + 1) x = rootG f i (if f (x + 2 ^ i) then x + 2 ^ i else x) := rfl

/-- The primes below. -/
def pr : Nat → List Nat
  | 0 => []
  | p + 1 => if 2 ≤ p then (if (pr p).all (fun q => p % q != 0) then pr p ++ [p] else pr p) else []
theorem pr_ge : ∀ p, ∀ q ∈ pr p, 2 ≤ q
  | 0, q, h => by simp [pr] at h
  | p + 1, q, h => by
    unfold pr at h
    split at h
    · split at h
      · rcases List.mem_append.1 h with h | h
        · exact pr_ge p q h
        · simp at h; omega
      · exact pr_ge p q h
    · simp at h
theorem pr_succ {p : Nat} (h : 2 ≤ p) : pr (p + 1) = if (pr p).all (fun q => p % q != 0) then pr p ++ [p] else pr p := by
  rw [pr, if_pos h]
theorem pr_pre {p : Nat} (hp : 2 ≤ p) : ∀ k, ∃ t, pr (p + k) = pr p ++ t
  | 0 => ⟨[], by simp⟩
  | k + 1 => by
    obtain ⟨t, ht⟩ := pr_pre hp k
    rw [show p + (k + 1) = (p + k) + 1 by omega, pr_succ (by omega)]
    split
    · exact ⟨t ++ [p + k], by rw [ht]; simp⟩
    · exact ⟨t, ht⟩
theorem pr_len (p : Nat) : (pr p).length ≤ p := by
  induction p with
  | zero => simp [pr]
  | succ p ih =>
    unfold pr
    split
    · split
      · simp; omega
      · omega
    · simp
def P64 : List Nat := [2, 3, 5, 7, 11, 13, 17, 19, 23, 29, 31, 37, 41, 43, 47, 53, 59, 61, 67, 71, 73, 79, 83, 89, 97, 101, 103, 107, 109, 113, 127, 131, 137, 139, 149, 151, 157, 163, 167, 173, 179, 181, 191, 193, 197, 199, 211, 223, 227, 229, 233, 239, 241, 251, 257, 263, 269, 271, 277, 281, 283, 293, 307, 311]
theorem pr_all : pr 312 = P64 := by decide +kernel
theorem P64_400 : P64.all (fun q => q.ble 400) = true := by decide
theorem P64_len : P64.length = 64 := rfl
theorem pr_312 : (pr 312).length = 64 := by rw [pr_all]; rfl
/-- The first so many. -/
theorem pr_first {p n : Nat} (hp : 2 ≤ p) (hp2 : p ≤ 312) (hn : (pr p).length = n) : pr p = (pr 312).take n := by
  obtain ⟨t, ht⟩ := pr_pre hp (312 - p)
  rw [show p + (312 - p) = 312 by omega] at ht
  rw [ht, ← hn]; simp

theorem steps_roots : ∀ i < 64, UInt32.ofNat (rootF true ((pr 312).getD i 0) 37 0) = kS.getD i 0 := by decide +kernel
theorem firsts_roots : ∀ i < 8, UInt32.ofNat (rootF false ((pr 312).getD i 0) 37 0) = hS.getD i 0 := by decide +kernel

theorem getD_lt {l : List Nat} (h : l.all (fun q => q.ble 400) = true) {i : Nat} (hi : i < l.length) : l.getD i 0 < 65536 := by
  have h2 : l.getD i 0 = l[i] := by simp [hi]
  have h3 := List.all_eq_true.1 h _ (List.getElem_mem (l := l) hi)
  have h4 := Nat.le_of_ble_eq_true h3
  rw [h2]; omega
theorem pr_lt (i : Nat) (h : i < 64) : (pr 312).getD i 0 < 65536 := by rw [pr_all]; exact getD_lt P64_400 (by rw [P64_len]; exact h)
theorem pr_take {n i : Nat} (h : i < n) : ((pr 312).take n).getD i 0 = (pr 312).getD i 0 := by
  simp only [List.getD_eq_getElem?_getD, List.getElem?_take, if_pos h]

theorem pow36 {i : Nat} (h : i ≤ 36) : 2 ^ i ≤ 68719476736 := by
  have h1 := Nat.pow_le_pow_right (n := 2) (by omega) h
  have h2 : 2 ^ 36 = 68719476736 := by decide +kernel
  rwa [h2] at h1

/-- Which of two numbers is above, told by their highest digits that differ. -/
theorem cmp_digit {V W B : Nat} (h : V / (B * 65536) = W / (B * 65536)) (hne : V / B % 65536 ≠ W / B % 65536) : (V / B % 65536 < W / B % 65536) = (V ≤ W) := by
  have e1 := Nat.div_div_eq_div_mul V B 65536
  have e2 := Nat.div_div_eq_div_mul W B 65536
  have h1 : V / B / 65536 = W / B / 65536 := by rw [e1, e2, h]
  apply propext
  constructor
  · intro hlt
    have : V / B < W / B := by omega
    rcases Nat.lt_or_ge W V with hw | hw
    · have := Nat.div_le_div_right (c := B) (Nat.le_of_lt hw); omega
    · exact hw
  · intro hle
    have := Nat.div_le_div_right (c := B) hle
    omega

section
theorem add64 {a b : Nat} (h : a + b < 18446744073709551616) : IntKind.u64.wrap ((a : Int) + (b : Int)) = ((a + b : Nat) : Int) := by rw [wrap_u64 (by omega) (by omega)]; omega
theorem mul64 {a b : Nat} (h : a * b < 18446744073709551616) : IntKind.u64.wrap ((a : Int) * (b : Int)) = ((a * b : Nat) : Int) := by
  rw [← Int.natCast_mul]; exact wrap_u64 (by omega) (by omega)
theorem mod64 {a : Nat} (b : Nat) (h : a < 18446744073709551616) : IntKind.u64.wrap (Int.tmod (a : Int) (b : Int)) = ((a % b : Nat) : Int) := by
  have : Int.tmod (a : Int) (b : Int) = ((a % b : Nat) : Int) := by rw [Int.tmod_eq_emod_of_nonneg (by omega)]; exact (Int.natCast_emod a b).symm
  rw [this]
  have := Nat.mod_le a b
  generalize a % b = q at *
  exact wrap_u64 (by omega) (by omega)
theorem div64 {a : Nat} (b : Nat) (h : a < 18446744073709551616) : IntKind.u64.wrap (Int.tdiv (a : Int) (b : Int)) = ((a / b : Nat) : Int) := by
  have : Int.tdiv (a : Int) (b : Int) = ((a / b : Nat) : Int) := by rw [Int.tdiv_eq_ediv_of_nonneg (by omega)]; exact (Int.natCast_ediv a b).symm
  rw [this]
  have := Nat.div_le_self a b
  generalize a / b = q at *
  exact wrap_u64 (by omega) (by omega)
theorem mod16 {a : Nat} (h : a < 18446744073709551616) : IntKind.u64.wrap (Int.tmod (a : Int) 65536) = ((a % 65536 : Nat) : Int) := mod64 65536 h
theorem div16 {a : Nat} (h : a < 18446744073709551616) : IntKind.u64.wrap (Int.tdiv (a : Int) 65536) = ((a / 65536 : Nat) : Int) := div64 65536 h
end

theorem n64_getD {l : List Nat} {i : Nat} (h : i < l.length) : (l.map n64).getD i default = .int .u64 ((l.getD i 0 : Nat) : Int) := by
  simp [List.getD_eq_getElem?_getD, h, n64]
theorem n64_set (l : List Nat) (j e : Nat) : (l.map n64).set j (.int .u64 (e : Int)) = (l.set j e).map n64 := by
  rw [List.map_set]; rfl
theorem n64_inj {a b : Nat} (h : n64 a = n64 b) : a = b := by simp only [n64, T.int.injEq, true_and] at h; omega
theorem n64s_inj : ∀ a b : List Nat, a.map n64 = b.map n64 → a = b
  | [], [], _ => rfl
  | [], _ :: _, h => by simp at h
  | _ :: _, [], h => by simp at h
  | x :: a, y :: b, h => by
    simp only [List.map_cons, List.cons.injEq] at h
    rw [n64_inj h.1, n64s_inj a b h.2]
noncomputable def as64 (xs : List T) : Option (List Nat) := inv (fun l : List Nat => l.map n64) xs
theorem as64_map (l : List Nat) : as64 (l.map n64) = some l := inv_of n64s_inj l
theorem as64_inv {xs : List T} {l : List Nat} (h : as64 xs = some l) : xs = l.map n64 := inv_inv (f := fun l : List Nat => l.map n64) h
theorem clean_n64 (l : List Nat) : T.cleanL (l.map n64) = true := by
  induction l with
  | nil => rfl
  | cons x l ih => simp only [List.map_cons, T.cleanL, ih]; rfl
theorem n64_zero (n : Nat) : List.replicate n (T.int .u64 0) = (List.replicate n 0).map n64 := by simp [n64]

end Go.Fw

end
