/- The abstract machine, and the contracts of the code: part 1. -/
import Derived.WalkKit
import Derived.WalkLawsBesides

section
/- The abstract machine of this claim: values as trees, rows and variables that a call made itself by number; what it means that memory holds them. -/
namespace Go.Fw
set_option linter.unusedVariables false
set_option linter.unusedSimpArgs false
open Go

/-- A value by what it holds, read only. -/
inductive T where
  | int (k : IntKind) (n : Int)
  | bool (b : Bool)
  | str (l : List UInt8)
  | nilp
  | nilf
  | nil
  | fn (f : FuncId)
  | op (v : Value)
  | by (l : List UInt8)
  | sq (sz : Nat) (xs : List T)
  | ba (n : Nat) (l : List UInt8)
  | ar (n sz : Nat) (xs : List T)
  | st (xs : List T)
  deriving Inhabited

def u8 (c : UInt8) : T := .int .u8 c.toNat
def vu8 (c : UInt8) : Value := .int .u8 c.toNat

mutual
def T.size : T → Nat
  | .ba n _ => n
  | .ar n sz _ => n * sz
  | .st xs => T.sizeL xs
  | _ => 1
def T.sizeL : List T → Nat
  | [] => 0
  | x :: xs => x.size + T.sizeL xs
end

mutual
def T.cells : T → List T
  | .ba _ l => l.map u8
  | .ar _ _ xs => T.cellsL xs
  | .st xs => T.cellsL xs
  | .int k n => [.int k n]
  | .bool b => [.bool b]
  | .str l => [.str l]
  | .nilp => [.nilp]
  | .nilf => [.nilf]
  | .nil => [.nil]
  | .fn f => [.fn f]
  | .op v => [.op v]
  | .by l => [.by l]
  | .sq sz xs => [.sq sz xs]
def T.cellsL : List T → List T
  | [] => []
  | x :: xs => x.cells ++ T.cellsL xs
end

def inK (k : IntKind) (n : Int) : Prop := k.min ≤ n ∧ n ≤ k.max

mutual
def T.wf : T → Prop
  | .int k n => inK k n
  | .by l => l.length ≤ maxLen
  | .str l => l.length ≤ maxLen
  | .op v => v.oneCell' = true
  | .ba n l => l.length = n
  | .ar n sz xs => xs.length = n ∧ (∀ x ∈ xs, x.size = sz) ∧ T.wfL xs
  | .st xs => T.wfL xs
  | .sq sz xs => 0 < sz ∧ xs.length ≤ maxLen ∧ (∀ x ∈ xs, x.size = sz) ∧ T.wfL xs
  | _ => True
def T.wfL : List T → Prop
  | [] => True
  | x :: xs => x.wf ∧ T.wfL xs
end

mutual
theorem T.cells_len : ∀ (x : T), x.wf → x.cells.length = x.size
  | .ba n l, h => by simpa [T.cells, T.size, T.wf] using h
  | .ar n sz xs, h => by
    obtain ⟨h1, h2, h3⟩ := (by simpa only [T.wf] using h : xs.length = n ∧ (∀ x ∈ xs, x.size = sz) ∧ T.wfL xs)
    have := T.cellsL_len xs h3
    have e : T.sizeL xs = xs.length * sz := T.sizeL_const xs sz h2
    simp only [T.cells, T.size]
    rw [this, e, h1]
  | .st xs, h => by simp only [T.cells, T.size]; exact T.cellsL_len xs (by simpa only [T.wf] using h)
  | .int k n, _ => rfl
  | .bool b, _ => rfl
  | .str l, _ => rfl
  | .nilp, _ => rfl
  | .nilf, _ => rfl
  | .nil, _ => rfl
  | .fn f, _ => rfl
  | .op v, _ => rfl
  | .by l, _ => rfl
  | .sq sz xs, _ => rfl
theorem T.cellsL_len : ∀ (xs : List T), T.wfL xs → (T.cellsL xs).length = T.sizeL xs
  | [], _ => rfl
  | x :: xs, h => by
    obtain ⟨h1, h2⟩ := (by simpa only [T.wfL] using h : x.wf ∧ T.wfL xs)
    simp only [T.cellsL, T.sizeL, List.length_append, T.cells_len x h1, T.cellsL_len xs h2]
theorem T.sizeL_const : ∀ (xs : List T) (sz : Nat), (∀ x ∈ xs, x.size = sz) → T.sizeL xs = xs.length * sz
  | [], sz, _ => by simp [T.sizeL]
  | x :: xs, sz, h => by
    have h1 := h x (by simp)
    have h2 := T.sizeL_const xs sz (fun y hy => h y (by simp [hy]))
    simp only [T.sizeL, h1, h2, List.length_cons, Nat.add_mul]; omega
end

theorem T.wfL_iff : ∀ (xs : List T), T.wfL xs ↔ ∀ x ∈ xs, x.wf
  | [] => by simp [T.wfL]
  | x :: xs => by simp [T.wfL, T.wfL_iff xs]

/-- The value of one cell or of several ('.agg'), read only memory given block by block. -/
inductive RelT (M : Nat → Option Obj) : T → Value → Prop
  | int {k : IntKind} {n : Int} (h : inK k n) : RelT M (.int k n) (.int k n)
  | bool {b : Bool} : RelT M (.bool b) (.bool b)
  | str {l : List UInt8} (h : l.length ≤ maxLen) : RelT M (.str l) (.string ⟨l.toArray⟩)
  | nilp : RelT M .nilp (.pointer none)
  | nilf : RelT M .nilf .nilFunc
  | nil : RelT M .nil (.slice none 0 0)
  | fn {f : FuncId} : RelT M (.fn f) (.func (.func f) #[] #[])
  | op {v : Value} (h : v.oneCell' = true) : RelT M (.op v) v
  | byn {a : Option Addr} : RelT M (.by []) (.slice a 0 0)
  | by {l : List UInt8} {b off cap : Nat} {cur : Array Value} {ty : TypeId} {fr : Nat × Nat} (hM : M b = some (.cells cur ty fr))
      (hl : l.length ≤ cap) (hm : cap ≤ maxLen) (hc : ∀ i c, l[i]? = some c → cur[off + i]? = some (vu8 c)) :
      RelT M (.by l) (.slice (some ⟨b, off, none⟩) l.length cap)
  | sqn {sz : Nat} {a : Option Addr} (h : 0 < sz) : RelT M (.sq sz []) (.slice a 0 0)
  | sq {sz : Nat} {xs : List T} {b off cap : Nat} {cur : Array Value} {ty : TypeId} {fr : Nat × Nat} (hM : M b = some (.cells cur ty fr))
      (hw : T.wf (.sq sz xs)) (hl : xs.length ≤ cap) (hm : cap ≤ maxLen) (g : Nat → Value)
      (hc : ∀ i c, (T.cellsL xs)[i]? = some c → cur[off + i]? = some (g i)) (hr : ∀ i c, (T.cellsL xs)[i]? = some c → RelT M c (g i)) :
      RelT M (.sq sz xs) (.slice (some ⟨b, off, none⟩) xs.length cap)
  | ba {n : Nat} {l : List UInt8} (h : l.length = n) : RelT M (.ba n l) (.agg (l.map vu8).toArray)
  | ar {n sz : Nat} {xs : List T} {arr : Array Value} (hw : T.wf (.ar n sz xs)) (ha : arr.size = n * sz)
      (hr : ∀ i c, (T.cellsL xs)[i]? = some c → RelT M c (arr.getD i undef)) : RelT M (.ar n sz xs) (.agg arr)
  | st {xs : List T} {arr : Array Value} (hw : T.wf (.st xs)) (ha : arr.size = T.sizeL xs)
      (hr : ∀ i c, (T.cellsL xs)[i]? = some c → RelT M c (arr.getD i undef)) : RelT M (.st xs) (.agg arr)

theorem RelT.wf {M : Nat → Option Obj} {x : T} {v : Value} (h : RelT M x v) : x.wf := by
  cases h <;> simp only [T.wf] <;> first | trivial | assumption | (simp [T.wfL]; try assumption) | omega

def MLe (M M' : Nat → Option Obj) : Prop := ∀ b o, M b = some o → M' b = some o

theorem RelT.mono {M M' : Nat → Option Obj} (hM : MLe M M') {x : T} {v : Value} (h : RelT M x v) : RelT M' x v := by
  induction h with
  | int h => exact .int h
  | bool => exact .bool
  | str h => exact .str h
  | nilp => exact .nilp
  | nilf => exact .nilf
  | nil => exact .nil
  | fn => exact .fn
  | op h => exact .op h
  | byn => exact .byn
  | «by» h hl hm hc => exact .by (hM _ _ h) hl hm hc
  | sqn h => exact .sqn h
  | sq h hw hl hm g hc _ ih => exact .sq (hM _ _ h) hw hl hm g hc ih
  | ba h => exact .ba h
  | ar hw ha _ ih => exact .ar hw ha ih
  | st hw ha _ ih => exact .st hw ha ih

/-- A value while a call runs: a tree, or something that lies in the call's own blocks. -/
inductive AV where
  | any
  | und
  | t (x : T)
  | own (i : Nat)
  | sub (i : Nat) (p : List Nat) (sz off lo len : Nat)
  | ptr (i off : Nat) (p : List Nat)
  | ip (x : T)
  | ex (x : T)
  | st (xs : List AV)
  | tup (xs : List AV)
  | clo (f : FuncId) (cs : List AV)
  deriving Inhabited

mutual
def AV.size : AV → Nat
  | .t x => x.size
  | .st xs => AV.sizeL xs
  | _ => 1
def AV.sizeL : List AV → Nat
  | [] => 0
  | x :: xs => x.size + AV.sizeL xs
end

mutual
def AV.cells : AV → List AV
  | .t x => x.cells.map .t
  | .st xs => AV.cellsL xs
  | v => [v]
def AV.cellsL : List AV → List AV
  | [] => []
  | x :: xs => x.cells ++ AV.cellsL xs
end

mutual
def AV.wf : AV → Prop
  | .t x => x.wf
  | .st xs => AV.wfL xs
  | _ => True
def AV.wfL : List AV → Prop
  | [] => True
  | x :: xs => x.wf ∧ AV.wfL xs
end

mutual
theorem AV.cells_len : ∀ (x : AV), x.wf → x.cells.length = x.size
  | .t x, h => by simp only [AV.cells, AV.size, List.length_map]; exact T.cells_len x (by simpa only [AV.wf] using h)
  | .st xs, h => by simp only [AV.cells, AV.size]; exact AV.cellsL_len xs (by simpa only [AV.wf] using h)
  | .any, _ => rfl
  | .und, _ => rfl
  | .own _, _ => rfl
  | .sub _ _ _ _ _ _, _ => rfl
  | .ptr _ _ _, _ => rfl
  | .ip _, _ => rfl
  | .ex _, _ => rfl
  | .tup _, _ => rfl
  | .clo _ _, _ => rfl
theorem AV.cellsL_len : ∀ (xs : List AV), AV.wfL xs → (AV.cellsL xs).length = AV.sizeL xs
  | [], _ => rfl
  | x :: xs, h => by
    obtain ⟨h1, h2⟩ := (by simpa only [AV.wfL] using h : x.wf ∧ AV.wfL xs)
    simp only [AV.cellsL, AV.sizeL, List.length_append, AV.cells_len x h1, AV.cellsL_len xs h2]
end

def blk : Value → Option Nat
  | .slice (some a) _ _ => some a.block
  | .pointer (some a) => some a.block
  | _ => none

structure Mem where
  M : Nat → Option Obj
  η : Nat → Value
  n : Nat

/-- A function and what it has caught; a number above a million: a method with its receiver. -/
@[irreducible] def fnV (f : Nat) (vs : Array Value) : Value := if f < 1000000 then .func (.func f) #[] vs else .func (.func (f - 1000000)) vs #[]
theorem fnV_lt {f : Nat} {vs : Array Value} (h : f < 1000000) : fnV f vs = .func (.func f) #[] vs := by unfold fnV; exact if_pos h
theorem fnV_ge {f : Nat} {vs : Array Value} (h : ¬ f < 1000000) : fnV f vs = .func (.func (f - 1000000)) vs #[] := by unfold fnV; exact if_neg h

inductive RelA (m : Mem) : AV → Value → Prop
  | any {v : Value} : RelA m .any v
  | und : RelA m .und undef
  | t {x : T} {v : Value} (h : RelT m.M x v) : RelA m (.t x) v
  | own {i : Nat} (h : i < m.n) : RelA m (.own i) (m.η i)
  | sub {i : Nat} {p : List Nat} {sz off lo len cap : Nat} {a : Option Addr} (h : i < m.n) (hl : len ≤ cap) (hm : cap ≤ maxLen)
      (ha : (a = none ∧ cap = 0 ∧ len = 0) ∨ ∃ b o, blk (m.η i) = some b ∧ a = some ⟨b, o, none⟩ ∧ (len ≠ 0 → o = off + lo * sz)) : RelA m (.sub i p sz off lo len) (.slice a len cap)
  | ptr {i off b : Nat} {p : List Nat} (h : i < m.n) (hb : blk (m.η i) = some b) : RelA m (.ptr i off p) (.pointer (some ⟨b, off, none⟩))
  | ip {x : T} {b off : Nat} {cur : Array Value} {ty : TypeId} {fr : Nat × Nat} (hM : m.M b = some (.cells cur ty fr)) (hw : x.wf)
      (hr : ∀ i c, x.cells[i]? = some c → ∃ u, cur[off + i]? = some u ∧ RelT m.M c u) : RelA m (.ip x) (.pointer (some ⟨b, off, none⟩))
  | ex {x : T} {a : Option Addr} {n : Nat} (h : RelT m.M x (.slice a n n)) : RelA m (.ex x) (.slice a n n)
  | st {xs : List AV} {arr : Array Value} (hw : AV.wfL xs) (ha : arr.size = AV.sizeL xs)
      (hr : ∀ i c, (AV.cellsL xs)[i]? = some c → RelA m c (arr.getD i undef)) : RelA m (.st xs) (.agg arr)
  | tup {xs : List AV} {vs : Array Value} (ha : vs.size = xs.length)
      (hr : ∀ i c, xs[i]? = some c → RelA m c (vs.getD i undef)) : RelA m (.tup xs) (.tuple vs)
  | clo {f : FuncId} {cs : List AV} {vs : Array Value} (ha : vs.size = cs.length)
      (hr : ∀ i c, cs[i]? = some c → RelA m c (vs.getD i undef)) : RelA m (.clo f cs) (fnV f vs)

theorem RelA.own_inv {m : Mem} {i : Nat} {v : Value} (h : RelA m (.own i) v) : v = m.η i ∧ i < m.n := by
  generalize hx : AV.own i = x at h
  cases h <;> cases hx
  exact ⟨rfl, by assumption⟩

theorem RelA.sub_inv {m : Mem} {i : Nat} {p : List Nat} {sz off lo len : Nat} {v : Value} (h : RelA m (.sub i p sz off lo len) v) :
    ∃ a cap, v = .slice a len cap ∧ i < m.n ∧ len ≤ cap ∧ cap ≤ maxLen ∧
      ((a = none ∧ cap = 0 ∧ len = 0) ∨ ∃ b o, blk (m.η i) = some b ∧ a = some ⟨b, o, none⟩ ∧ (len ≠ 0 → o = off + lo * sz)) := by
  generalize hx : AV.sub i p sz off lo len = x at h
  cases h <;> cases hx
  exact ⟨_, _, rfl, by assumption, by assumption, by assumption, by assumption⟩

theorem RelA.ptr_inv {m : Mem} {i off : Nat} {p : List Nat} {v : Value} (h : RelA m (.ptr i off p) v) :
    ∃ b, v = .pointer (some ⟨b, off, none⟩) ∧ i < m.n ∧ blk (m.η i) = some b := by
  generalize hx : AV.ptr i off p = x at h
  cases h <;> cases hx
  exact ⟨_, rfl, by assumption, by assumption⟩

structure Ext (m m' : Mem) : Prop where
  M : MLe m.M m'.M
  n : m.n ≤ m'.n
  η : ∀ i, i < m.n → m'.η i = m.η i

theorem MLe.refl (M : Nat → Option Obj) : MLe M M := fun _ _ h => h
theorem MLe.trans {a b c : Nat → Option Obj} (h : MLe a b) (k : MLe b c) : MLe a c := fun i o e => k i o (h i o e)
theorem Ext.refl (m : Mem) : Ext m m := ⟨.refl _, Nat.le_refl _, fun _ _ => rfl⟩
theorem Ext.trans {a b c : Mem} (h : Ext a b) (k : Ext b c) : Ext a c :=
  ⟨h.M.trans k.M, Nat.le_trans h.n k.n, fun i hi => (k.η i (Nat.lt_of_lt_of_le hi h.n)).trans (h.η i hi)⟩

theorem RelA.mono {m m' : Mem} (hm : Ext m m') {x : AV} {v : Value} (h : RelA m x v) : RelA m' x v := by
  induction h with
  | any => exact .any
  | und => exact .und
  | t h => exact .t (h.mono hm.M)
  | own h => rw [← hm.η _ h]; exact .own (Nat.lt_of_lt_of_le h hm.n)
  | sub h hl hx ha => exact .sub (Nat.lt_of_lt_of_le h hm.n) hl hx (by rw [hm.η _ h]; exact ha)
  | ptr h hb => exact .ptr (Nat.lt_of_lt_of_le h hm.n) (by rw [hm.η _ h]; exact hb)
  | ip hM hw hr => exact .ip (hm.M _ _ hM) hw (fun i c h => let ⟨u, h1, h2⟩ := hr i c h; ⟨u, h1, h2.mono hm.M⟩)
  | ex h => exact .ex (h.mono hm.M)
  | st hw ha _ ih => exact .st hw ha ih
  | tup ha _ ih => exact .tup ha ih
  | clo ha _ ih => exact .clo ha ih

/-- What a block of the call's own holds. -/
inductive Blk where
  | by (l : List UInt8)
  | sq (sz : Nat) (xs : List T)
  | bx (v : AV)
  | fz (x : T)
  | fb (x : T)
  | no
  deriving Inhabited

def Blk.live : Blk → Bool
  | .fz _ => false
  | .fb _ => false
  | .no => false
  | _ => true

def BlkOk (m : Mem) (w : World) : Blk → Value → Prop
  | .by l, hd => (hd = .slice none 0 0 ∧ l = []) ∨ ∃ (b cap : Nat) (cur : Array Value) (e : TypeId), hd = .slice (some ⟨b, 0, none⟩) l.length cap ∧ w.heap[b]? = some (.cells cur e (0, 0)) ∧
      cur.size = cap ∧ l.length ≤ cap ∧ cap ≤ maxLen ∧ m.M b = none ∧ ∀ (j : Nat) (c : UInt8), l[j]? = some c → cur[j]? = some (vu8 c)
  | .sq sz xs, hd => T.wf (.sq sz xs) ∧ ((hd = .slice none 0 0 ∧ xs = []) ∨ ∃ (b cap : Nat) (cur : Array Value) (e : TypeId), hd = .slice (some ⟨b, 0, none⟩) xs.length cap ∧
      w.heap[b]? = some (.cells cur e (0, 0)) ∧ cur.size = cap * sz ∧ xs.length ≤ cap ∧ cap ≤ maxLen ∧ m.M b = none ∧
      ∀ (j : Nat) (c : T), (T.cellsL xs)[j]? = some c → ∃ u, cur[j]? = some u ∧ RelT m.M c u)
  | .bx v, hd => ∃ (b : Nat) (cur : Array Value) (e : TypeId), hd = .pointer (some ⟨b, 0, none⟩) ∧ w.heap[b]? = some (.cells cur e (0, 0)) ∧ m.M b = none ∧ v.wf ∧ cur.size = v.size ∧
      ∀ (j : Nat) (c : AV), v.cells[j]? = some c → ∃ u, cur[j]? = some u ∧ RelA m c u
  | .fz x, hd => RelT m.M x hd ∧ ∀ a n k, hd = .slice (some a) n k → a.off = 0 ∧ ∃ cur ty fr, m.M a.block = some (.cells cur ty fr)
  | .fb x, hd => x.wf ∧ ∃ (b : Nat) (cur : Array Value) (e : TypeId) (fr : Nat × Nat), hd = .pointer (some ⟨b, 0, none⟩) ∧ m.M b = some (.cells cur e fr) ∧
      ∀ (j : Nat) (c : T), x.cells[j]? = some c → ∃ u, cur[j]? = some u ∧ RelT m.M c u
  | .no, _ => True

/-- The call's beginning: the world, the blocks that it was lent, what is read only. -/
structure Ctx where
  w0 : World
  O : Nat → Prop
  M0 : Nat → Option Obj
  k : Nat
  η0 : Nat → Value

/-- None of its cells is shared with a string. -/
def plainO : Obj → Prop
  | .cells c _ fr => fr = (0, 0) ∨ c.size ≤ fr.1
  | _ => True

structure Inv (c : Ctx) (m : Mem) (w : World) (H : List Blk) : Prop where
  len : m.n = H.length
  imm : ∀ b o, m.M b = some o → w.heap[b]? = some o
  le : MLe c.M0 m.M
  new : ∀ b o, m.M b = some o → c.M0 b = some o ∨ ((c.w0.heap.size ≤ b ∨ c.O b) ∧ plainO o)
  ok : ∀ i B, H[i]? = some B → BlkOk m w B (m.η i)
  own : ∀ i B b, H[i]? = some B → B.live = true → blk (m.η i) = some b → c.w0.heap.size ≤ b ∨ c.O b
  disj : ∀ i j B B' b, H[i]? = some B → H[j]? = some B' → B.live = true → B'.live = true → blk (m.η i) = some b → blk (m.η j) = some b → i = j
  os : w.os = c.w0.os
  tape : w.tape = c.w0.tape
  output : w.output = c.w0.output
  size : c.w0.heap.size ≤ w.heap.size
  frame : ∀ b, b < c.w0.heap.size → ¬ c.O b → w.heap[b]? = c.w0.heap[b]?
  keep : ∀ i, i < c.k → i < m.n ∧ m.η i = c.η0 i

theorem lt_of_heap {w : World} {b : Nat} {o : Obj} (h : w.heap[b]? = some o) : b < w.heap.size := (Array.getElem?_eq_some_iff.1 h).1

/-- The block of a live one lies in memory, and is not read only. -/
theorem BlkOk.at {m : Mem} {w : World} {B : Blk} {hd : Value} (h : BlkOk m w B hd) (hl : B.live = true) {b : Nat} (hb : blk hd = some b) :
    m.M b = none ∧ b < w.heap.size := by
  cases B with
  | «by» l =>
    rcases h with ⟨rfl, _⟩ | ⟨b', cap, cur, e, rfl, hh, _, _, _, hM, _⟩
    · simp [blk] at hb
    · simp [blk] at hb; subst hb; exact ⟨hM, lt_of_heap hh⟩
  | sq sz xs =>
    rcases h with ⟨_, ⟨rfl, _⟩ | ⟨b', cap, cur, e, rfl, hh, _, _, _, hM, _⟩⟩
    · simp [blk] at hb
    · simp [blk] at hb; subst hb; exact ⟨hM, lt_of_heap hh⟩
  | bx v =>
    obtain ⟨b', cur, e, rfl, hh, hM, _⟩ := h
    simp [blk] at hb; subst hb; exact ⟨hM, lt_of_heap hh⟩
  | fz x => simp [Blk.live] at hl
  | fb x => simp [Blk.live] at hl
  | no => simp [Blk.live] at hl

theorem BlkOk.plain {m : Mem} {w : World} {B : Blk} {hd : Value} (h : BlkOk m w B hd) (hl : B.live = true) {b : Nat} (hb : blk hd = some b) {o : Obj} (ho : w.heap[b]? = some o) : plainO o := by
  cases B with
  | «by» l =>
    rcases h with ⟨rfl, _⟩ | ⟨b', cap, cur, e, rfl, hh, _⟩
    · simp [blk] at hb
    · simp [blk] at hb; subst hb; rw [hh] at ho; cases ho; exact .inl rfl
  | sq sz xs =>
    rcases h with ⟨_, ⟨rfl, _⟩ | ⟨b', cap, cur, e, rfl, hh, _⟩⟩
    · simp [blk] at hb
    · simp [blk] at hb; subst hb; rw [hh] at ho; cases ho; exact .inl rfl
  | bx v =>
    obtain ⟨b', cur, e, rfl, hh, _⟩ := h
    simp [blk] at hb; subst hb; rw [hh] at ho; cases ho; exact .inl rfl
  | fz x => simp [Blk.live] at hl
  | fb x => simp [Blk.live] at hl
  | no => simp [Blk.live] at hl

theorem BlkOk.move {m m' : Mem} {w w' : World} {B : Blk} {hd : Value} (h : BlkOk m w B hd) (hm : Ext m m')
    (hM : ∀ b, B.live = true → blk hd = some b → m'.M b = none) (hw : ∀ b, B.live = true → blk hd = some b → w'.heap[b]? = w.heap[b]?) : BlkOk m' w' B hd := by
  cases B with
  | «by» l =>
    rcases h with h | ⟨b', cap, cur, e, rfl, hh, h1, h2, h3, _, h4⟩
    · exact .inl h
    · exact .inr ⟨b', cap, cur, e, rfl, (hw b' rfl rfl).trans hh, h1, h2, h3, hM b' rfl rfl, h4⟩
  | sq sz xs =>
    obtain ⟨hwf, h⟩ := h
    refine ⟨hwf, ?_⟩
    rcases h with h | ⟨b', cap, cur, e, rfl, hh, h1, h2, h3, _, h4⟩
    · exact .inl h
    · exact .inr ⟨b', cap, cur, e, rfl, (hw b' rfl rfl).trans hh, h1, h2, h3, hM b' rfl rfl, fun j c hj => let ⟨u, a, b⟩ := h4 j c hj; ⟨u, a, b.mono hm.M⟩⟩
  | bx v =>
    obtain ⟨b', cur, e, rfl, hh, _, h1, h2, h3⟩ := h
    exact ⟨b', cur, e, rfl, (hw b' rfl rfl).trans hh, hM b' rfl rfl, h1, h2, fun j c hj => let ⟨u, a, b⟩ := h3 j c hj; ⟨u, a, b.mono hm⟩⟩
  | fb x =>
    obtain ⟨hw, b, cur, e, fr, h1, h2, h3⟩ := h
    exact ⟨hw, b, cur, e, fr, h1, hm.M _ _ h2, fun j c hj => let ⟨u, a, b⟩ := h3 j c hj; ⟨u, a, b.mono hm.M⟩⟩
  | fz x => exact ⟨RelT.mono hm.M h.1, fun a n k he => let ⟨h0, cur, ty, fr, hc⟩ := h.2 a n k he; ⟨h0, cur, ty, fr, hm.M _ _ hc⟩⟩
  | no => trivial

/-- One block more, known by its header. -/
def Mem.push (m : Mem) (hd : Value) : Mem := { M := m.M, η := fun k => if k = m.n then hd else m.η k, n := m.n + 1 }

theorem Ext.push (m : Mem) (hd : Value) : Ext m (m.push hd) :=
  ⟨.refl _, by simp [Mem.push], fun i hi => by simp only [Mem.push]; rw [if_neg (by omega)]⟩

/-- A step that makes one block, and takes the place of at most some that die. -/
theorem Inv.put {c : Ctx} {m : Mem} {w w' : World} {H H1 : List Blk} (h : Inv c m w H) (D : Nat → Prop) (hos : w'.os = w.os) (htape : w'.tape = w.tape)
    (hout : w'.output = w.output) (hsize : w.heap.size ≤ w'.heap.size) (hblk : ∀ b, b < w.heap.size → ¬ D b → w'.heap[b]? = w.heap[b]?)
    (hlen : H1.length = H.length) (hH1 : ∀ (k : Nat) (B : Blk), H1[k]? = some B → B.live = true → H[k]? = some B ∧ ∀ b, blk (m.η k) = some b → ¬ D b)
    (hfz : ∀ (k : Nat) (B : Blk), H1[k]? = some B → B.live = false → H[k]? = some B ∨ B = .no)
    (hD : ∀ b, D b → m.M b = none ∧ (c.w0.heap.size ≤ b ∨ c.O b))
    {B : Blk} {hd : Value} (hB : BlkOk (m.push hd) w' B hd) (hnew : ∀ b, B.live = true → blk hd = some b → w.heap.size ≤ b ∨ D b) :
    Inv c (m.push hd) w' (H1 ++ [B]) := by
  have hat : ∀ k B b, H[k]? = some B → B.live = true → blk (m.η k) = some b → m.M b = none ∧ b < w.heap.size := fun k B b hk hl hb => (h.ok k B hk).at hl hb
  have hget : ∀ k B', (H1 ++ [B])[k]? = some B' → (k < m.n ∧ H1[k]? = some B' ∧ (m.push hd).η k = m.η k) ∨ (k = m.n ∧ B' = B ∧ (m.push hd).η k = hd) := by
    intro k B' hk
    rcases Nat.lt_or_ge k H1.length with hlt | hge
    · rw [List.getElem?_append_left hlt] at hk
      exact .inl ⟨by rw [h.len, ← hlen]; exact hlt, hk, by simp only [Mem.push]; rw [if_neg (by rw [h.len, ← hlen]; omega)]⟩
    · rw [List.getElem?_append_right hge] at hk
      have : k - H1.length = 0 := by
        rcases Nat.eq_zero_or_pos (k - H1.length) with h0 | hp
        · exact h0
        · rw [List.getElem?_eq_none (by simp only [List.length_cons, List.length_nil]; omega)] at hk; cases hk
      have hk' : k = m.n := by rw [h.len, ← hlen]; omega
      rw [this] at hk
      simp at hk
      exact .inr ⟨hk', hk.symm, by simp [Mem.push, hk']⟩
  refine ⟨by simp [Mem.push, h.len, hlen], ?_, h.le, h.new, ?_, ?_, ?_, hos.trans h.os, htape.trans h.tape, hout.trans h.output, Nat.le_trans h.size hsize, ?_, fun i hi => ⟨by have := (h.keep i hi).1; simp only [Mem.push]; omega, by rw [← (h.keep i hi).2]; simp only [Mem.push]; rw [if_neg (by have := (h.keep i hi).1; omega)]⟩⟩
  · intro b o hb
    have h1 := h.imm b o hb
    rw [hblk b (lt_of_heap h1) (fun hd => by have := (hD b hd).1; simp only [Mem.push] at hb; rw [this] at hb; cases hb)]
    exact h1
  · intro k B' hk
    rcases hget k B' hk with ⟨hlt, hk1, he⟩ | ⟨rfl, rfl, he⟩
    · rw [he]
      cases hlive : B'.live with
      | true =>
        obtain ⟨h1, h2⟩ := hH1 k B' hk1 hlive
        refine (h.ok k B' h1).move (Ext.push m hd) (fun b hl hb => (hat k B' b h1 hl hb).1) (fun b hl hb => hblk b (hat k B' b h1 hl hb).2 (h2 b hb))
      | false =>
        rcases hfz k B' hk1 hlive with h1 | rfl
        · exact (h.ok k B' h1).move (Ext.push m hd) (fun b hl _ => by rw [hlive] at hl; cases hl) (fun b hl _ => by rw [hlive] at hl; cases hl)
        · trivial
    · rw [he]; exact hB
  · intro k B' b hk hl hb
    rcases hget k B' hk with ⟨hlt, hk1, he⟩ | ⟨rfl, rfl, he⟩
    · rw [he] at hb
      exact h.own k B' b (hH1 k B' hk1 hl).1 hl hb
    · rw [he] at hb
      rcases hnew b hl hb with h1 | h1
      · exact .inl (Nat.le_trans h.size h1)
      · exact (hD b h1).2
  · intro i j B1 B2 b hi hj hl1 hl2 hb1 hb2
    rcases hget i B1 hi with ⟨_, hi1, hei⟩ | ⟨hin, rfl, hei⟩ <;> rcases hget j B2 hj with ⟨_, hj1, hej⟩ | ⟨hjn, rfl, hej⟩ <;> rw [hei] at hb1 <;> rw [hej] at hb2
    · exact h.disj i j B1 B2 b (hH1 i B1 hi1 hl1).1 (hH1 j B2 hj1 hl2).1 hl1 hl2 hb1 hb2
    · obtain ⟨h1, h2⟩ := hH1 i B1 hi1 hl1
      rcases hnew b hl2 hb2 with h3 | h3
      · have := (hat i B1 b h1 hl1 hb1).2; omega
      · exact (h2 b hb1 h3).elim
    · obtain ⟨h1, h2⟩ := hH1 j B2 hj1 hl2
      rcases hnew b hl1 hb1 with h3 | h3
      · have := (hat j B2 b h1 hl2 hb2).2; omega
      · exact (h2 b hb2 h3).elim
    · omega
  · intro b hb hO
    rw [hblk b (Nat.lt_of_lt_of_le hb h.size) (fun hd => by
      rcases (hD b hd).2 with h1 | h1
      · omega
      · exact hO h1)]
    exact h.frame b hb hO

/-- A step that turns no block. -/
theorem Inv.still {c : Ctx} {m : Mem} {w w' : World} {H : List Blk} (h : Inv c m w H) (hos : w'.os = w.os) (htape : w'.tape = w.tape)
    (hout : w'.output = w.output) (hh : w'.heap = w.heap) : Inv c m w' H :=
  ⟨h.len, fun b o hb => by rw [hh]; exact h.imm b o hb, h.le, h.new,
    fun i B hi => (h.ok i B hi).move (.refl m) (fun b hl hb => ((h.ok i B hi).at hl hb).1) (fun b _ _ => by rw [hh]), h.own, h.disj,
    hos.trans h.os, htape.trans h.tape, hout.trans h.output, by rw [hh]; exact h.size, fun b hb hO => by rw [hh]; exact h.frame b hb hO, h.keep⟩

end Go.Fw

end
