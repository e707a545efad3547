/- The abstract machine, and the contracts of the code: part 47. -/
import Derived.Test.YtchljppcenckaaaFwCb

section
/- Transactions: their trees, their bytes. Plain laws. -/
namespace Go.Fw
open Go
set_option linter.unusedVariables false
set_option linter.unusedSimpArgs false

abbrev H32 := { l : List UInt8 // l.length = 32 }
def zH : H32 := ⟨List.replicate 32 0, by simp⟩
structure TIn where
  (prev : H32) (idx seq : UInt32) (wit : List (List UInt8))
  deriving DecidableEq
structure TOut where
  (val : UInt64) (scr : List UInt8)
  deriving DecidableEq
structure TTx where
  (ver : UInt32) (ins : List TIn) (outs : List TOut) (lock : UInt32)
  deriving DecidableEq
def refT (h : H32) (i : UInt32) : T := .st [.ba 32 h.1, .int .u32 (i.toNat : Int)]
def inT (x : TIn) : T := .st [refT x.prev x.idx, .int .u32 (x.seq.toNat : Int), .sq 1 (x.wit.map .by)]
def outT (x : TOut) : T := .st [.int .u64 (x.val.toNat : Int), .by x.scr]
def txT (x : TTx) : T := .st [.int .u32 (x.ver.toNat : Int), .sq 35 (x.ins.map inT), .sq 2 (x.outs.map outT), .int .u32 (x.lock.toNat : Int)]
def dIn : TIn := ⟨zH, 0, 0, []⟩
def dOut : TOut := ⟨0, []⟩
def dTx : TTx := ⟨0, [], [], 0⟩

/-! ### Trees are of one thing only. -/
theorem map_inj {α β : Type} {f : α → β} (hf : ∀ a b, f a = f b → a = b) : ∀ l k : List α, l.map f = k.map f → l = k
  | [], [], _ => rfl
  | [], _ :: _, h => by simp at h
  | _ :: _, [], h => by simp at h
  | a :: l, b :: k, h => by
    simp only [List.map_cons, List.cons.injEq] at h
    rw [hf a b h.1, map_inj hf l k h.2]
theorem by_inj (a b : List UInt8) (h : T.by a = T.by b) : a = b := by cases h; rfl
theorem n32_inj {a b : UInt32} (h : (a.toNat : Int) = (b.toNat : Int)) : a = b := UInt32.toNat_inj.1 (by exact_mod_cast h)
theorem n64_inj {a b : UInt64} (h : (a.toNat : Int) = (b.toNat : Int)) : a = b := UInt64.toNat_inj.1 (by exact_mod_cast h)
theorem refT_inj {a b : H32} {i j : UInt32} (h : refT a i = refT b j) : a = b ∧ i = j := by
  unfold refT at h
  simp only [T.st.injEq, List.cons.injEq, T.ba.injEq, T.int.injEq, true_and, and_true] at h
  exact ⟨Subtype.ext h.1, n32_inj h.2⟩
theorem inT_inj (a b : TIn) (h : inT a = inT b) : a = b := by
  obtain ⟨a1, a2, a3, a4⟩ := a
  obtain ⟨b1, b2, b3, b4⟩ := b
  unfold inT at h
  simp only [T.st.injEq, List.cons.injEq, T.sq.injEq, T.int.injEq, true_and, and_true] at h
  obtain ⟨h1, h2, h3⟩ := h
  obtain ⟨rfl, rfl⟩ := refT_inj h1
  rw [n32_inj h2, map_inj by_inj _ _ h3]
theorem outT_inj (a b : TOut) (h : outT a = outT b) : a = b := by
  obtain ⟨a1, a2⟩ := a
  obtain ⟨b1, b2⟩ := b
  unfold outT at h
  simp only [T.st.injEq, List.cons.injEq, T.by.injEq, T.int.injEq, true_and, and_true] at h
  rw [n64_inj h.1, h.2]
theorem txT_inj (a b : TTx) (h : txT a = txT b) : a = b := by
  obtain ⟨a1, a2, a3, a4⟩ := a
  obtain ⟨b1, b2, b3, b4⟩ := b
  unfold txT at h
  simp only [T.st.injEq, List.cons.injEq, T.sq.injEq, T.int.injEq, true_and, and_true] at h
  obtain ⟨h1, h2, h3, h4⟩ := h
  rw [n32_inj h1, n32_inj h4, map_inj inT_inj _ _ h2, map_inj outT_inj _ _ h3]

theorem in_getD (l : List TIn) (k : Nat) (h : k < l.length) : (l.map inT).getD k default = inT (l.getD k dIn) := by simp [h]
theorem out_getD (l : List TOut) (k : Nat) (h : k < l.length) : (l.map outT).getD k default = outT (l.getD k dOut) := by simp [h]

/-! ### Bytes. -/
/-- What comes of each, one behind the other. -/
def cat {α : Type} (f : α → List UInt8) (l : List α) : List UInt8 := (l.map f).flatten
theorem cat_snoc {α : Type} (f : α → List UInt8) (l : List α) (x : α) : cat f (l ++ [x]) = cat f l ++ f x := by simp [cat]
theorem cat_nil {α : Type} (f : α → List UInt8) : cat f [] = [] := rfl
theorem cat_cons {α : Type} (f : α → List UInt8) (x : α) (l : List α) : cat f (x :: l) = f x ++ cat f l := by simp [cat]
theorem take_getDx {α : Type} (d : α) (l : List α) (k : Nat) (h : k < l.length) : l.take (k + 1) = l.take k ++ [l.getD k d] := by
  rw [List.take_succ_eq_append_getElem h]; simp [h]
theorem cat_take {α : Type} (f : α → List UInt8) (d : α) (l : List α) (k : Nat) (h : k < l.length) : cat f (l.take (k + 1)) = cat f (l.take k) ++ f (l.getD k d) := by
  rw [take_getDx d l k h, cat_snoc]
theorem cat_len {α : Type} (f : α → List UInt8) (m : Nat) : ∀ l : List α, (∀ x ∈ l, (f x).length ≤ m) → (cat f l).length ≤ l.length * m
  | [], _ => by simp [cat]
  | x :: l, h => by
    rw [cat_cons, List.length_append, List.length_cons, Nat.succ_mul]
    have h1 := h x (by simp)
    have h2 := cat_len f m l (fun y hy => h y (by simp [hy]))
    omega
theorem cat_take_le {α : Type} (f : α → List UInt8) (l : List α) (k : Nat) : (cat f (l.take k)).length ≤ (cat f l).length := by
  conv => rhs; rw [← List.take_append_drop k l]
  rw [cat, cat, List.map_append, List.flatten_append, List.length_append]; omega

def tInB (x : TIn) : List UInt8 := x.prev.1 ++ le 4 (x.idx.toNat : Int) ++ le 4 (x.seq.toNat : Int)
def tOutB (x : TOut) : List UInt8 := le 8 (x.val.toNat : Int) ++ (sizeB x.scr.length ++ x.scr)
def witB (x : TIn) : List UInt8 := sizeB x.wit.length ++ flat x.wit
def bareB (t : TTx) : List UInt8 := le 4 (t.ver.toNat : Int) ++ sizeB t.ins.length ++ cat tInB t.ins ++ sizeB t.outs.length ++ cat tOutB t.outs ++ le 4 (t.lock.toNat : Int)
def wholeB (t : TTx) : List UInt8 := bareB t ++ cat witB t.ins

def scrOk (x : TOut) : Bool := decide (x.scr.length ≤ 1000)
def witOk (x : TIn) : Bool := decide (x.wit.length ≤ 30) && x.wit.all fun y => decide (y.length ≤ 1000)
/-- Does it fit, but for the bytes in all? -/
def countsB (t : TTx) : Bool := decide (t.ins.length ≤ 20) && decide (t.outs.length ≤ 20) && t.outs.all scrOk && t.ins.all witOk
def fitsB (t : TTx) : Bool := countsB t && decide ((wholeB t).length ≤ 12000)
def chkE (t : TTx) : Int := if fitsB t = true then 0 else 4

theorem tInB_len (x : TIn) : (tInB x).length = 40 := by simp [tInB, le_len, x.prev.2]
theorem flat_le (m : Nat) : ∀ l : List (List UInt8), (∀ y ∈ l, y.length ≤ m) → (flat l).length ≤ l.length * (9 + m)
  | [], _ => by simp [flat]
  | x :: l, h => by
    have h1 := h x (by simp)
    have h2 := flat_le m l (fun y hy => h y (by simp [hy]))
    have h3 := sizeB_len (x.length : Int)
    simp only [flat, List.length_append, List.length_cons, Nat.succ_mul]
    omega
theorem countsB_ok {t : TTx} (h : countsB t = true) : t.ins.length ≤ 20 ∧ t.outs.length ≤ 20 ∧ (∀ x ∈ t.outs, x.scr.length ≤ 1000) ∧ ∀ x ∈ t.ins, x.wit.length ≤ 30 ∧ ∀ y ∈ x.wit, y.length ≤ 1000 := by
  simpa [countsB, scrOk, witOk, and_assoc] using h
theorem cat_in_len (l : List TIn) : (cat tInB l).length = l.length * 40 := by
  induction l with
  | nil => rfl
  | cons x l ih => rw [cat_cons, List.length_append, ih, tInB_len, List.length_cons]; omega
/-- A bound of the parts' bytes: what is asked of numbers. -/
theorem bare_len {t : TTx} {n m k : Nat} (h1 : t.ins.length ≤ n) (h2 : t.outs.length ≤ m) (h3 : ∀ x ∈ t.outs, x.scr.length ≤ k) : (bareB t).length ≤ 26 + n * 40 + m * (17 + k) := by
  have a1 := sizeB_len (t.ins.length : Int)
  have a2 := sizeB_len (t.outs.length : Int)
  have a3 := cat_in_len t.ins
  have a4 := cat_len tOutB (17 + k) t.outs (fun x hx => by
    have b1 := h3 x hx
    have b2 := sizeB_len (x.scr.length : Int)
    simp only [tOutB, List.length_append, le_len]; omega)
  have a5 : t.ins.length * 40 ≤ n * 40 := Nat.mul_le_mul_right _ h1
  have a6 : t.outs.length * (17 + k) ≤ m * (17 + k) := Nat.mul_le_mul_right _ h2
  simp only [bareB, List.length_append, le_len]
  omega
theorem whole_len {t : TTx} {n m k w : Nat} (h1 : t.ins.length ≤ n) (h2 : t.outs.length ≤ m) (h3 : ∀ x ∈ t.outs, x.scr.length ≤ k) (h4 : ∀ x ∈ t.ins, x.wit.length ≤ w ∧ ∀ y ∈ x.wit, y.length ≤ k) :
    (wholeB t).length ≤ 26 + n * 40 + m * (17 + k) + n * (9 + w * (9 + k)) := by
  have a1 := bare_len h1 h2 h3
  have a4 := cat_len witB (9 + w * (9 + k)) t.ins (fun x hx => by
    obtain ⟨b1, b2⟩ := h4 x hx
    have b3 := flat_le k x.wit b2
    have b4 := sizeB_len (x.wit.length : Int)
    have b5 : x.wit.length * (9 + k) ≤ w * (9 + k) := Nat.mul_le_mul_right _ b1
    simp only [witB, List.length_append]; omega)
  have a5 : t.ins.length * (9 + w * (9 + k)) ≤ n * (9 + w * (9 + k)) := Nat.mul_le_mul_right _ h1
  simp only [wholeB, List.length_append]
  omega
theorem counts_len {t : TTx} (h : countsB t = true) : (bareB t).length ≤ 100000 ∧ (wholeB t).length ≤ 1000000 := by
  obtain ⟨h1, h2, h3, h4⟩ := countsB_ok h
  have := bare_len h1 h2 h3
  have := whole_len h1 h2 h3 h4
  omega

/-- Such as may be asked about. -/
def smallT (t : TTx) : Bool := decide (t.ins.length ≤ 6) && decide (t.outs.length ≤ 6) && (t.outs.all fun x => decide (x.scr.length ≤ 600)) && t.ins.all fun x => decide (x.wit.length ≤ 6) && x.wit.all fun y => decide (y.length ≤ 600)
theorem smallT_ok {t : TTx} (h : smallT t = true) : t.ins.length ≤ 6 ∧ t.outs.length ≤ 6 ∧ (∀ x ∈ t.outs, x.scr.length ≤ 600) ∧ ∀ x ∈ t.ins, x.wit.length ≤ 6 ∧ ∀ y ∈ x.wit, y.length ≤ 600 := by
  simpa [smallT, and_assoc] using h

end Go.Fw

end
