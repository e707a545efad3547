/- The abstract machine, and the contracts of the code: part 2. -/
import Derived.Laws.Concat
import Derived.Test.YtchljppcenckaaaFwA

section
/- What each operation makes of abstract values, and that the model's run makes a value of that kind: operations that turn no memory. -/
namespace Go.Fw
set_option linter.unusedVariables false
set_option linter.unusedSimpArgs false
open Go

inductive Ty where
  | bad
  | int (k : IntKind)
  | bool
  | str
  | sl (e : TypeId)
  | arr (n : Nat) (e : TypeId)
  | st (fs : List (Nat × TypeId))
  | ptr (e : TypeId)
  | fn
  deriving Inhabited, DecidableEq

structure TI where
  ty : Ty
  size : Nat
  bytes : Nat
  zero : T

abbrev Env := TypeId → TI

def noM : Nat → Option Obj := fun _ => none

def DescOk (P : Program) (t : TypeId) : Ty → Prop
  | .bad => False
  | .int k => P.underlying t = some (.int k)
  | .bool => P.underlying t = some .bool
  | .str => P.underlying t = some .string
  | .sl e => P.underlying t = some (.slice e)
  | .arr n e => P.underlying t = some (.array n e)
  | .st fs => ∃ fields, P.underlying t = some (.struct fields) ∧ fields.toList.map (fun f => (f.offset, f.type)) = fs
  | .ptr e => P.underlying t = some (.pointer e)
  | .fn => ∃ a b c, P.underlying t = some (.func a b c)

structure TyOk (P : Program) (E : Env) (t : TypeId) : Prop where
  desc : DescOk P t (E t).ty
  info : ∃ i z, P.info? t = some i ∧ i.size = (E t).size ∧ i.bytes = (E t).bytes ∧ i.zero = some z ∧ RelT noM (E t).zero z ∧ (E t).zero.size = (E t).size ∧ 0 < (E t).size

def badTI : TI := ⟨.bad, 0, 0, .nilp⟩

def EnvOk (P : Program) (E : Env) : Prop := ∀ t, E t = badTI ∨ TyOk P E t

theorem EnvOk.ty {P : Program} {E : Env} (hE : EnvOk P E) {t : TypeId} {d : Ty} (h : (E t).ty = d) (hd : d ≠ .bad) : DescOk P t d ∧ TyOk P E t := by
  rcases hE t with h1 | h1
  · rw [h1] at h; exact (hd h.symm).elim
  · exact ⟨h ▸ h1.desc, h1⟩

theorem EnvOk.size {P : Program} {E : Env} (hE : EnvOk P E) {t : TypeId} {n : Nat} (h : (E t).size = n) (hn : 0 < n) : TyOk P E t := by
  rcases hE t with h1 | h1
  · rw [h1] at h; simp [badTI] at h; omega
  · exact h1

theorem TyOk.sizeOf {P : Program} {E : Env} {t : TypeId} (h : TyOk P E t) (w : World) : (sizeOf t).run P w = .ok (E t).size w := by
  obtain ⟨i, z, hi, h1, _⟩ := h.info
  simp [Go.sizeOf, typeInfo, hi, h1]

/-- Slots of a frame, by number; the youngest first. -/
abbrev Slots := List (Nat × AV)

def lk (i : Nat) : Slots → AV
  | [] => .any
  | (j, v) :: r => if i = j then v else lk i r

def inKb (k : IntKind) (n : Int) : Bool :=
  match k with
  | .i8 => decide (-128 ≤ n) && decide (n ≤ 127)
  | .i16 => decide (-32768 ≤ n) && decide (n ≤ 32767)
  | .i32 => decide (-2147483648 ≤ n) && decide (n ≤ 2147483647)
  | .i64 => decide (-9223372036854775808 ≤ n) && decide (n ≤ 9223372036854775807)
  | .u8 => decide (0 ≤ n) && decide (n ≤ 255)
  | .u16 => decide (0 ≤ n) && decide (n ≤ 65535)
  | .u32 => decide (0 ≤ n) && decide (n ≤ 4294967295)
  | .u64 => decide (0 ≤ n) && decide (n ≤ 18446744073709551615)

theorem inKb_iff (k : IntKind) (n : Int) : inKb k n = true ↔ inK k n := by
  cases k <;> simp [inKb, inK, IntKind.min, IntKind.max, IntKind.signed, IntKind.bits]

def konst : Value → AV
  | .int k n => if inKb k n = true then .t (.int k n) else .any
  | .bool b => .t (.bool b)
  | .string s => if s.data.toList.length ≤ 1000000 then .t (.str s.data.toList) else .any
  | .slice none 0 0 => .t .nil
  | .pointer none => .t .nilp
  | _ => .any

def ev (s : Slots) : Operand → AV
  | .tmp i => lk i s
  | .const v => konst v
  | .func f => .t (.fn f)
  | .global _ => .any

theorem konst_ok (m : Mem) (v : Value) : RelA m (konst v) v := by
  unfold konst
  split
  · split
    · rename_i h; exact .t (.int ((inKb_iff _ _).1 h))
    · exact .any
  · exact .t .bool
  · rename_i s
    split
    · rename_i h
      have := RelT.str (M := m.M) (l := s.data.toList) (by unfold maxLen; omega)
      simpa using RelA.t this
    · exact .any
  · exact .t .nil
  · exact .t .nilp
  · exact .any

/-- nil, by the type that it stands for. -/
def tyd (E : Env) (t : TypeId) (v : AV) : AV :=
  match v with
  | .t .nil => match (E t).ty with
    | .sl e => if (E e).ty = .int .u8 then .t (.by []) else if 0 < (E e).size then .t (.sq (E e).size []) else .t .nil
    | _ => .t .nil
  | v => v

theorem RelA.t_inv {m : Mem} {x : T} {v : Value} (h : RelA m (.t x) v) : RelT m.M x v := by cases h; assumption

theorem tyd_ok {m : Mem} {E : Env} {t : TypeId} {v : AV} {u : Value} (h : RelA m v u) : RelA m (tyd E t v) u := by
  unfold tyd
  split
  · cases h.t_inv
    split
    · split
      · exact .t .byn
      · split
        · rename_i h; exact .t (.sqn h)
        · exact .t .nil
    · exact .t .nil
  · exact h

def abits (op : BinOp) (k : IntKind) (x y : Int) : Int :=
  let a := (x % 2 ^ k.bits).toNat
  let b := (y % 2 ^ k.bits).toNat
  match op with
  | .and => k.wrap (a &&& b : Nat)
  | .or => k.wrap (a ||| b : Nat)
  | .xor => k.wrap (a ^^^ b : Nat)
  | .andNot => k.wrap (a &&& 2 ^ k.bits - 1 - b : Nat)
  | _ => 0

def arith (op : BinOp) (k : IntKind) (x y : Int) : Option T :=
  match op with
  | .add => some (.int k (k.wrap (x + y)))
  | .sub => some (.int k (k.wrap (x - y)))
  | .mul => some (.int k (k.wrap (x * y)))
  | .quo => if y = 0 then none else some (.int k (k.wrap (x.tdiv y)))
  | .rem => if y = 0 then none else some (.int k (k.wrap (x.tmod y)))
  | .and => some (.int k (abits .and k x y))
  | .or => some (.int k (abits .or k x y))
  | .xor => some (.int k (abits .xor k x y))
  | .andNot => some (.int k (abits .andNot k x y))
  | .eql => some (.bool (x == y))
  | .neq => some (.bool (x != y))
  | .lss => some (.bool (x < y))
  | .leq => some (.bool (x ≤ y))
  | .gtr => some (.bool (x > y))
  | .geq => some (.bool (x ≥ y))
  | .shl => if y < 0 then none else some (.int k (k.wrap (x * 2 ^ (min y.toNat k.bits))))
  | .shr => if y < 0 then none else some (.int k (x.fdiv (2 ^ (min y.toNat k.bits))))

def isShift : BinOp → Bool
  | .shl | .shr => true
  | _ => false

def aBin (E : Env) (op : BinOp) (t : TypeId) (x y : AV) : Option AV :=
  match x, y with
  | .t (.int k a), .t (.int k' b) => if isShift op = true ∨ k = k' then (arith op k a b).map .t else none
  | .t (.bool a), .t (.bool b) =>
    if (E t).ty = .bool then (match op with | .eql => some (.t (.bool (a == b))) | .neq => some (.t (.bool (!(a == b)))) | _ => none) else none
  | .t (.str a), .t (.str b) =>
    match op with
    | .eql => some (.t (.bool (a == b)))
    | .neq => some (.t (.bool (!(a == b))))
    | .add => if a.length + b.length ≤ 4611686018427387904 then some (.t (.str (a ++ b))) else none
    | .lss => some (.t (.bool (Op.bytesLess a b)))
    | _ => none
  | _, _ => none

theorem wrap_inK (k : IntKind) (n : Int) : inK k (k.wrap n) := by
  cases k <;> simp only [inK, IntKind.wrap, IntKind.min, IntKind.max, IntKind.signed, IntKind.bits] <;> simp <;> (try split) <;> omega

theorem fdiv_inK (k : IntKind) (x : Int) (p : Nat) (h : inK k x) : inK k (x.fdiv (2 ^ p)) := by
  have hp : (0 : Int) < 2 ^ p := by exact_mod_cast Nat.two_pow_pos p
  have hp1 : (1 : Int) ≤ 2 ^ p := hp
  rw [Int.fdiv_eq_ediv_of_nonneg _ (by omega)]
  have lo : ∀ m : Int, m ≤ 0 → m ≤ x → m ≤ x / 2 ^ p := by
    intro m hm hx
    rw [Int.le_ediv_iff_mul_le hp]
    have := Int.mul_le_mul_of_nonpos_left hm hp1
    omega
  have hi : ∀ m : Int, 0 ≤ m → x ≤ m → x / 2 ^ p ≤ m := by
    intro m hm hx
    have h1 : x / 2 ^ p < m + 1 := by
      rw [Int.ediv_lt_iff_lt_mul hp]
      have := Int.mul_le_mul_of_nonneg_left hp1 (show (0:Int) ≤ m + 1 by omega)
      omega
    omega
  cases k <;> simp only [inK, IntKind.min, IntKind.max, IntKind.signed, IntKind.bits] at h ⊢ <;> simp at h ⊢ <;>
    exact ⟨lo _ (by omega) (by omega), hi _ (by omega) (by omega)⟩

theorem tmod_wrap (k : IntKind) (x y : Int) (hx : inK k x) : k.wrap (x.tmod y) = x.tmod y := by
  have h0 : (x.tmod y).natAbs ≤ x.natAbs := by rw [Int.natAbs_tmod]; exact Nat.mod_le _ _
  have h1 : 0 ≤ x → 0 ≤ x.tmod y := fun h => Int.tmod_nonneg _ h
  have h2 : x ≤ 0 → x.tmod y ≤ 0 := fun h => by
    have e : (-x).tmod y = -(x.tmod y) := Int.neg_tmod _ _
    have := Int.tmod_nonneg y (show 0 ≤ -x by omega)
    omega
  generalize x.tmod y = r at *
  cases k <;> simp only [inK, IntKind.wrap, IntKind.min, IntKind.max, IntKind.signed, IntKind.bits] at hx ⊢ <;> simp at hx ⊢ <;> (try split) <;> omega

theorem RelA.int_inv {m : Mem} {k : IntKind} {n : Int} {v : Value} (h : RelA m (.t (.int k n)) v) : v = .int k n ∧ inK k n := by
  cases h.t_inv; exact ⟨rfl, by assumption⟩
theorem RelA.bool_inv {m : Mem} {b : Bool} {v : Value} (h : RelA m (.t (.bool b)) v) : v = .bool b := by
  cases h.t_inv; rfl
theorem RelA.str_inv {m : Mem} {l : List UInt8} {v : Value} (h : RelA m (.t (.str l)) v) : v = .string ⟨l.toArray⟩ ∧ l.length ≤ maxLen := by
  cases h.t_inv; exact ⟨rfl, by assumption⟩

theorem run_arith {P : Program} {m : Mem} {w : World} {op : BinOp} {t : TypeId} {k k' : IntKind} {a b : Int} {x : T} (hk : isShift op = true ∨ k = k')
    (ha : inK k a) (h : arith op k a b = some x) : ∃ val, RelT m.M x val ∧ (binOp op t (.int k a) (.int k' b)).run P w = .ok val w := by
  cases op <;> simp only [arith, isShift] at h hk
  case add => obtain rfl := hk.resolve_left (by simp); cases h; exact ⟨_, .int (wrap_inK _ _), by simp [binOp, Op.intArith]⟩
  case sub => obtain rfl := hk.resolve_left (by simp); cases h; exact ⟨_, .int (wrap_inK _ _), by simp [binOp, Op.intArith]⟩
  case mul => obtain rfl := hk.resolve_left (by simp); cases h; exact ⟨_, .int (wrap_inK _ _), by simp [binOp, Op.intArith]⟩
  case quo =>
    obtain rfl := hk.resolve_left (by simp)
    split at h
    · cases h
    · rename_i hb; cases h; exact ⟨_, .int (wrap_inK _ _), by simp [binOp, Op.intDiv, hb]⟩
  case rem =>
    obtain rfl := hk.resolve_left (by simp)
    split at h
    · cases h
    · rename_i hb; cases h; exact ⟨_, .int (wrap_inK _ _), by rw [tmod_wrap _ _ _ ha]; simp [binOp, Op.intDiv, hb]⟩
  case and => obtain rfl := hk.resolve_left (by simp); cases h; exact ⟨_, .int (wrap_inK _ _), by simp [binOp, Op.intBits, abits]⟩
  case or => obtain rfl := hk.resolve_left (by simp); cases h; exact ⟨_, .int (wrap_inK _ _), by simp [binOp, Op.intBits, abits]⟩
  case xor => obtain rfl := hk.resolve_left (by simp); cases h; exact ⟨_, .int (wrap_inK _ _), by simp [binOp, Op.intBits, abits]⟩
  case andNot => obtain rfl := hk.resolve_left (by simp); cases h; exact ⟨_, .int (wrap_inK _ _), by simp [binOp, Op.intBits, abits]⟩
  case eql => obtain rfl := hk.resolve_left (by simp); cases h; exact ⟨_, .bool, by simp [binOp, Op.intCmp]⟩
  case neq => obtain rfl := hk.resolve_left (by simp); cases h; exact ⟨_, .bool, by simp [binOp, Op.intCmp]⟩
  case lss => obtain rfl := hk.resolve_left (by simp); cases h; exact ⟨_, .bool, by simp [binOp, Op.intCmp]⟩
  case leq => obtain rfl := hk.resolve_left (by simp); cases h; exact ⟨_, .bool, by simp [binOp, Op.intCmp]⟩
  case gtr => obtain rfl := hk.resolve_left (by simp); cases h; exact ⟨_, .bool, by simp [binOp, Op.intCmp]⟩
  case geq => obtain rfl := hk.resolve_left (by simp); cases h; exact ⟨_, .bool, by simp [binOp, Op.intCmp]⟩
  case shl =>
    split at h
    · cases h
    · rename_i hb; cases h; exact ⟨_, .int (wrap_inK _ _), by simp [binOp, Op.shift, hb]⟩
  case shr =>
    split at h
    · cases h
    · rename_i hb; cases h; exact ⟨_, .int (fdiv_inK _ _ _ ha), by simp [binOp, Op.shift, hb]⟩

theorem run_equalIn_bool {P : Program} {w : World} {t : TypeId} (d : Nat) (p q : Bool) (hd : P.underlying t = some .bool) :
    (Op.equalIn (d + 1) t (.bool p) (.bool q)).run P w = .ok (p == q) w := by
  simp [Op.equalIn, run_underlying hd]

theorem run_equal_bool {P : Program} {w : World} {t : TypeId} (p q : Bool) (hd : P.underlying t = some .bool) :
    (Op.equal t (.bool p) (.bool q)).run P w = .ok (p == q) w := run_equalIn_bool 9999 p q hd

theorem run_aBin {P : Program} {E : Env} (hE : EnvOk P E) {m : Mem} {w : World} {op : BinOp} {t : TypeId} {x y : Operand} {ax ay v : AV} {a b : Value}
    (h : aBin E op t ax ay = some v) (hx : RelA m ax a) (hy : RelA m ay b) :
    ∃ val, RelA m v val ∧ ((do eqGuard op t x y a b; binOp op t a b) : Sem Value).run P w = .ok val w := by
  unfold aBin at h
  split at h
  · rename_i k n k' n'
    obtain ⟨rfl, hn⟩ := hx.int_inv
    obtain ⟨rfl, _⟩ := hy.int_inv
    split at h
    · rename_i hk
      simp only [Option.map_eq_some_iff] at h
      obtain ⟨x, hx, rfl⟩ := h
      obtain ⟨val, h1, h2⟩ := run_arith (P := P) (w := w) (t := t) (m := m) hk hn hx
      exact ⟨val, .t h1, by simp [eqGuard, h2]⟩
    · cases h
  · rename_i p q
    obtain rfl := hx.bool_inv
    obtain rfl := hy.bool_inv
    split at h
    · rename_i ht
      have hd := (hE.ty ht (by simp)).1
      simp only [DescOk] at hd
      split at h
      · cases h; exact ⟨_, .t .bool, by simp only [eqGuard, binOp, Sem.run_bind]; simp [run_equal_bool p q hd]⟩
      · cases h; exact ⟨_, .t .bool, by simp only [eqGuard, binOp, Sem.run_bind]; simp [run_equal_bool p q hd]⟩
      · cases h
    · cases h
  · rename_i p q
    obtain ⟨rfl, _⟩ := hx.str_inv
    obtain ⟨rfl, _⟩ := hy.str_inv
    split at h
    · cases h; exact ⟨_, .t .bool, by simp [eqGuard, binOp_string_eql]⟩
    · cases h; exact ⟨_, .t .bool, by simp [eqGuard, binOp_string_neq]⟩
    · split at h
      · rename_i hl
        cases h
        refine ⟨.string ⟨(p ++ q).toArray⟩, .t (.str (by unfold maxLen; simp only [List.length_append]; omega)), ?_⟩
        have h1 := run_string_add_sum (P := P) (w := w) ⟨p.toArray⟩ ⟨q.toArray⟩ (by
          show p.toArray.size + q.toArray.size ≤ _
          simp only [List.size_toArray]; omega)
        have h2 : (⟨p.toArray⟩ ++ ⟨q.toArray⟩ : ByteArray) = ⟨(p ++ q).toArray⟩ := by
          apply ByteArray.ext; simp
        rw [h2] at h1
        simp [eqGuard, binOp_string_add, h1]
      · cases h
    · cases h; exact ⟨_, .t .bool, by simp [eqGuard, binOp_string_lss]⟩
    · cases h
  · cases h

end Go.Fw

end
