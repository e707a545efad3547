/- The abstract machine, and the contracts of the code: part 44. -/
import Derived.Test.YticnacaeibpicaaProg
import Derived.Test.YticnacaeibpicaaFwNq

section
/- The table of this program's types, and that the program bears it. -/
namespace Go.Fw
set_option linter.unusedVariables false
open Go Go.Proofs

set_option maxRecDepth 20000
set_option linter.defProp false

def tbl : Tbl := [(2, ⟨.int .i64, 1, 8, .int .i64 0⟩),
  (3, ⟨.int .i64, 1, 8, .int .i64 0⟩),
  (4, ⟨.bool, 1, 1, .bool false⟩),
  (5, ⟨.int .u8, 1, 1, .int .u8 0⟩),
  (9, ⟨.str, 1, 16, .str []⟩),
  (12, ⟨.int .u64, 1, 8, .int .u64 0⟩),
  (17, ⟨.ptr 162, 1, 8, .nilp⟩),
  (21, ⟨.int .i32, 1, 4, .int .i32 0⟩),
  (22, ⟨.sl 5, 1, 24, .nil⟩),
  (24, ⟨.int .u32, 1, 4, .int .u32 0⟩),
  (25, ⟨.arr 32 5, 32, 32, .ba 32 (zby 32)⟩),
  (26, ⟨.st [(0, 24), (1, 25), (33, 25), (65, 24), (66, 24), (67, 24)], 68, 80, .st [.int .u32 0, .ba 32 (zby 32), .ba 32 (zby 32), .int .u32 0, .int .u32 0, .int .u32 0]⟩),
  (27, ⟨.st [(0, 24), (1, 25), (33, 25), (65, 24), (66, 24), (67, 24)], 68, 80, .st [.int .u32 0, .ba 32 (zby 32), .ba 32 (zby 32), .int .u32 0, .int .u32 0, .int .u32 0]⟩),
  (28, ⟨.sl 55, 1, 24, .nil⟩),
  (29, ⟨.st [(0, 27), (68, 28)], 69, 104, .st [.st [.int .u32 0, .ba 32 (zby 32), .ba 32 (zby 32), .int .u32 0, .int .u32 0, .int .u32 0], .nil]⟩),
  (30, ⟨.st [(0, 27), (68, 28)], 69, 104, .st [.st [.int .u32 0, .ba 32 (zby 32), .ba 32 (zby 32), .int .u32 0, .int .u32 0, .int .u32 0], .nil]⟩),
  (31, ⟨.int .i64, 1, 8, .int .i64 0⟩),
  (52, ⟨.sl 90, 1, 24, .nil⟩),
  (53, ⟨.sl 93, 1, 24, .nil⟩),
  (54, ⟨.st [(0, 24), (1, 52), (2, 53), (3, 24)], 4, 64, .st [.int .u32 0, .nil, .nil, .int .u32 0]⟩),
  (55, ⟨.st [(0, 24), (1, 52), (2, 53), (3, 24)], 4, 64, .st [.int .u32 0, .nil, .nil, .int .u32 0]⟩),
  (57, ⟨.int .u64, 1, 8, .int .u64 0⟩),
  (75, ⟨.sl 25, 1, 24, .nil⟩),
  (81, ⟨.ptr 83, 1, 8, .nilp⟩),
  (82, ⟨.st [(0, 22), (1, 31)], 2, 32, .st [.nil, .int .i64 0]⟩),
  (83, ⟨.st [(0, 22), (1, 31)], 2, 32, .st [.nil, .int .i64 0]⟩),
  (86, ⟨.st [(0, 25), (32, 24)], 33, 36, .st [.ba 32 (zby 32), .int .u32 0]⟩),
  (87, ⟨.st [(0, 25), (32, 24)], 33, 36, .st [.ba 32 (zby 32), .int .u32 0]⟩),
  (88, ⟨.sl 22, 1, 24, .nil⟩),
  (89, ⟨.st [(0, 87), (33, 24), (34, 88)], 35, 64, .st [.st [.ba 32 (zby 32), .int .u32 0], .int .u32 0, .nil]⟩),
  (90, ⟨.st [(0, 87), (33, 24), (34, 88)], 35, 64, .st [.st [.ba 32 (zby 32), .int .u32 0], .int .u32 0, .nil]⟩),
  (92, ⟨.st [(0, 57), (1, 22)], 2, 32, .st [.int .u64 0, .nil]⟩),
  (93, ⟨.st [(0, 57), (1, 22)], 2, 32, .st [.int .u64 0, .nil]⟩),
  (103, ⟨.int .u16, 1, 2, .int .u16 0⟩),
  (108, ⟨.ptr 110, 1, 8, .nilp⟩),
  (109, ⟨.st [(0, 22), (1, 31)], 2, 32, .st [.nil, .int .i64 0]⟩),
  (110, ⟨.st [(0, 22), (1, 31)], 2, 32, .st [.nil, .int .i64 0]⟩),
  (117, ⟨.int .u64, 1, 8, .int .u64 0⟩),
  (118, ⟨.ptr 137, 1, 8, .nilp⟩),
  (122, ⟨.sl 24, 1, 24, .nil⟩),
  (133, ⟨.arr 8 24, 8, 32, .ar 8 1 (List.replicate 8 (.int .u32 0))⟩),
  (134, ⟨.arr 8 24, 8, 32, .ar 8 1 (List.replicate 8 (.int .u32 0))⟩),
  (136, ⟨.st [(0, 134), (8, 22), (9, 57)], 10, 64, .st [.ar 8 1 (List.replicate 8 (.int .u32 0)), .nil, .int .u64 0]⟩),
  (137, ⟨.st [(0, 134), (8, 22), (9, 57)], 10, 64, .st [.ar 8 1 (List.replicate 8 (.int .u32 0)), .nil, .int .u64 0]⟩),
  (140, ⟨.arr 64 5, 64, 64, .ba 64 (zby 64)⟩),
  (141, ⟨.ptr 134, 1, 8, .nilp⟩),
  (142, ⟨.arr 64 24, 64, 256, .ar 64 1 (zar 64 (.int .u32 0))⟩),
  (158, ⟨.ptr 5, 1, 8, .nilp⟩)]

def E : Env := envOf tbl

theorem tbl_ok : tblB Try.prog tbl = true := by kernel_rfl

theorem E_ok : EnvOk Try.prog E := envOf_ok tbl_ok

theorem B_ok : ByteOk E := byteOk_of (by kernel_rfl)

theorem E2 : E 2 = ⟨.int .i64, 1, 8, .int .i64 0⟩ := rfl
theorem E3 : E 3 = ⟨.int .i64, 1, 8, .int .i64 0⟩ := rfl
theorem E4 : E 4 = ⟨.bool, 1, 1, .bool false⟩ := rfl
theorem E5 : E 5 = ⟨.int .u8, 1, 1, .int .u8 0⟩ := rfl
theorem E9 : E 9 = ⟨.str, 1, 16, .str []⟩ := rfl
theorem E12 : E 12 = ⟨.int .u64, 1, 8, .int .u64 0⟩ := rfl
theorem E17 : E 17 = ⟨.ptr 162, 1, 8, .nilp⟩ := rfl
theorem E21 : E 21 = ⟨.int .i32, 1, 4, .int .i32 0⟩ := rfl
theorem E22 : E 22 = ⟨.sl 5, 1, 24, .nil⟩ := rfl
theorem E24 : E 24 = ⟨.int .u32, 1, 4, .int .u32 0⟩ := rfl
theorem E25 : E 25 = ⟨.arr 32 5, 32, 32, .ba 32 (zby 32)⟩ := rfl
theorem E26 : E 26 = ⟨.st [(0, 24), (1, 25), (33, 25), (65, 24), (66, 24), (67, 24)], 68, 80, .st [.int .u32 0, .ba 32 (zby 32), .ba 32 (zby 32), .int .u32 0, .int .u32 0, .int .u32 0]⟩ := rfl
theorem E27 : E 27 = ⟨.st [(0, 24), (1, 25), (33, 25), (65, 24), (66, 24), (67, 24)], 68, 80, .st [.int .u32 0, .ba 32 (zby 32), .ba 32 (zby 32), .int .u32 0, .int .u32 0, .int .u32 0]⟩ := rfl
theorem E28 : E 28 = ⟨.sl 55, 1, 24, .nil⟩ := rfl
theorem E29 : E 29 = ⟨.st [(0, 27), (68, 28)], 69, 104, .st [.st [.int .u32 0, .ba 32 (zby 32), .ba 32 (zby 32), .int .u32 0, .int .u32 0, .int .u32 0], .nil]⟩ := rfl
theorem E30 : E 30 = ⟨.st [(0, 27), (68, 28)], 69, 104, .st [.st [.int .u32 0, .ba 32 (zby 32), .ba 32 (zby 32), .int .u32 0, .int .u32 0, .int .u32 0], .nil]⟩ := rfl
theorem E31 : E 31 = ⟨.int .i64, 1, 8, .int .i64 0⟩ := rfl
theorem E52 : E 52 = ⟨.sl 90, 1, 24, .nil⟩ := rfl
theorem E53 : E 53 = ⟨.sl 93, 1, 24, .nil⟩ := rfl
theorem E54 : E 54 = ⟨.st [(0, 24), (1, 52), (2, 53), (3, 24)], 4, 64, .st [.int .u32 0, .nil, .nil, .int .u32 0]⟩ := rfl
theorem E55 : E 55 = ⟨.st [(0, 24), (1, 52), (2, 53), (3, 24)], 4, 64, .st [.int .u32 0, .nil, .nil, .int .u32 0]⟩ := rfl
theorem E57 : E 57 = ⟨.int .u64, 1, 8, .int .u64 0⟩ := rfl
theorem E75 : E 75 = ⟨.sl 25, 1, 24, .nil⟩ := rfl
theorem E81 : E 81 = ⟨.ptr 83, 1, 8, .nilp⟩ := rfl
theorem E82 : E 82 = ⟨.st [(0, 22), (1, 31)], 2, 32, .st [.nil, .int .i64 0]⟩ := rfl
theorem E83 : E 83 = ⟨.st [(0, 22), (1, 31)], 2, 32, .st [.nil, .int .i64 0]⟩ := rfl
theorem E86 : E 86 = ⟨.st [(0, 25), (32, 24)], 33, 36, .st [.ba 32 (zby 32), .int .u32 0]⟩ := rfl
theorem E87 : E 87 = ⟨.st [(0, 25), (32, 24)], 33, 36, .st [.ba 32 (zby 32), .int .u32 0]⟩ := rfl
theorem E88 : E 88 = ⟨.sl 22, 1, 24, .nil⟩ := rfl
theorem E89 : E 89 = ⟨.st [(0, 87), (33, 24), (34, 88)], 35, 64, .st [.st [.ba 32 (zby 32), .int .u32 0], .int .u32 0, .nil]⟩ := rfl
theorem E90 : E 90 = ⟨.st [(0, 87), (33, 24), (34, 88)], 35, 64, .st [.st [.ba 32 (zby 32), .int .u32 0], .int .u32 0, .nil]⟩ := rfl
theorem E92 : E 92 = ⟨.st [(0, 57), (1, 22)], 2, 32, .st [.int .u64 0, .nil]⟩ := rfl
theorem E93 : E 93 = ⟨.st [(0, 57), (1, 22)], 2, 32, .st [.int .u64 0, .nil]⟩ := rfl
theorem E103 : E 103 = ⟨.int .u16, 1, 2, .int .u16 0⟩ := rfl
theorem E108 : E 108 = ⟨.ptr 110, 1, 8, .nilp⟩ := rfl
theorem E109 : E 109 = ⟨.st [(0, 22), (1, 31)], 2, 32, .st [.nil, .int .i64 0]⟩ := rfl
theorem E110 : E 110 = ⟨.st [(0, 22), (1, 31)], 2, 32, .st [.nil, .int .i64 0]⟩ := rfl
theorem E117 : E 117 = ⟨.int .u64, 1, 8, .int .u64 0⟩ := rfl
theorem E118 : E 118 = ⟨.ptr 137, 1, 8, .nilp⟩ := rfl
theorem E122 : E 122 = ⟨.sl 24, 1, 24, .nil⟩ := rfl
theorem E133 : E 133 = ⟨.arr 8 24, 8, 32, .ar 8 1 (List.replicate 8 (.int .u32 0))⟩ := rfl
theorem E134 : E 134 = ⟨.arr 8 24, 8, 32, .ar 8 1 (List.replicate 8 (.int .u32 0))⟩ := rfl
theorem E136 : E 136 = ⟨.st [(0, 134), (8, 22), (9, 57)], 10, 64, .st [.ar 8 1 (List.replicate 8 (.int .u32 0)), .nil, .int .u64 0]⟩ := rfl
theorem E137 : E 137 = ⟨.st [(0, 134), (8, 22), (9, 57)], 10, 64, .st [.ar 8 1 (List.replicate 8 (.int .u32 0)), .nil, .int .u64 0]⟩ := rfl
theorem E140 : E 140 = ⟨.arr 64 5, 64, 64, .ba 64 (zby 64)⟩ := rfl
theorem E141 : E 141 = ⟨.ptr 134, 1, 8, .nilp⟩ := rfl
theorem E142 : E 142 = ⟨.arr 64 24, 64, 256, .ar 64 1 (zar 64 (.int .u32 0))⟩ := rfl
theorem E158 : E 158 = ⟨.ptr 5, 1, 8, .nilp⟩ := rfl
def ES := And.intro @E2 <| And.intro @E3 <| And.intro @E4 <| And.intro @E5 <| And.intro @E9 <| And.intro @E12 <| And.intro @E17 <| And.intro @E21 <| And.intro @E22 <| And.intro @E24 <| And.intro @E25 <| And.intro @E26 <| And.intro @E27 <| And.intro @E28 <| And.intro @E29 <| And.intro @E30 <| And.intro @E31 <| And.intro @E52 <| And.intro @E53 <| And.intro @E54 <| And.intro @E55 <| And.intro @E57 <| And.intro @E75 <| And.intro @E81 <| And.intro @E82 <| And.intro @E83 <| And.intro @E86 <| And.intro @E87 <| And.intro @E88 <| And.intro @E89 <| And.intro @E90 <| And.intro @E92 <| And.intro @E93 <| And.intro @E103 <| And.intro @E108 <| And.intro @E109 <| And.intro @E110 <| And.intro @E117 <| And.intro @E118 <| And.intro @E122 <| And.intro @E133 <| And.intro @E134 <| And.intro @E136 <| And.intro @E137 <| And.intro @E140 <| And.intro @E141 <| And.intro @E142 <| @E158

def eqq : List TypeId := [9, 25, 26, 27, 86, 87, 133, 134, 140, 142]

theorem X_ok : XOk Try.prog E eqq := ⟨E_ok, B_ok, fitOk_of (by kernel_rfl), eqsB_ok (by kernel_rfl)⟩

def W := And.intro FWA ES

theorem mix : Try.prog.follows .mixedOrders = true := by kernel_rfl

/-! ### Steps, with the program's table. -/

/-- What a function's walk needs: its calls' contracts, the slots that live, the orders of its drawn regions. -/
structure CT (gl : GCalls) (keep : List Nat) (ds : List (Nat × List Info)) : Prop where
  cl : GClOk Try.prog gl

def lkD (id : Nat) : List (Nat × List Info) → Option (List Info)
  | [] => none
  | (i, l) :: r => if i = id then some l else lkD id r

section
variable {gl : GCalls} {keep : List Nat} {ds : List (Nat × List Info)} {kp N id : Nat} {l : List Oper} {Q : Exit → AS → Prop} {S S' : AS}

theorem AWP.rK (ct : CT gl keep ds) (h : gopsP E eqq gl N keep l S = some S') (hQ : Q .normal S') : AWP kp Try.prog N (.region id l.toArray false) Q S := AWP.greg X_ok ct.cl keep h hQ
theorem AWP.dK (ct : CT gl keep ds) {fs : List Info} (hl : lkD id ds = some fs) (hdep : dOk l fs = true) (h : drunP E eqq gl N keep l fs S = some S') (hQ : Q .normal S') : AWP kp Try.prog N (.region id l.toArray true) Q S :=
  AWP.gdraw X_ok ct.cl keep mix fs hdep h hQ
theorem AWP.cT {cd : Operand} {x y : Code} {b : Bool} (hc : ev S.s cd = .t (.bool b)) (hb : b = true) (ht : AWP kp Try.prog N x Q S) : AWP kp Try.prog N (.cond cd x y) Q S := AWP.condT (by rw [hc, hb]) ht
theorem AWP.cF {cd : Operand} {x y : Code} {b : Bool} (hc : ev S.s cd = .t (.bool b)) (hb : b = false) (hf : AWP kp Try.prog N y Q S) : AWP kp Try.prog N (.cond cd x y) Q S := AWP.condF (by rw [hc, hb]) hf
end

def BL := And.intro @decide_eq_true_eq <| And.intro @decide_eq_false_iff_not <| And.intro @Bool.not_eq_true' <| And.intro @Bool.not_eq_false' <| And.intro @Bool.and_eq_true <| And.intro @Bool.or_eq_true <| And.intro @Bool.or_eq_false_iff <| And.intro @Bool.and_eq_false_iff <| @ne_eq.{1}

/-- A region's end, reckoned. -/
theorem Ev {F : Prop} (hF : F) {α : Type} {a b : α} (h : F → a = b := by (intro hF; (repeat (first | simp only [W, eqq, ↓reduceIte, Nat.reduceEqDiff, Nat.reduceLT, Nat.reduceLeDiff, Nat.reduceAdd, Nat.reduceMul, Nat.reduceSub, Nat.reduceBEq, Int.reduceLE, Int.reduceLT, Int.reduceNeg, Int.reduceToNat, Int.reduceEq, Int.reduceBEq, Int.reduceBNe, Nat.reduceBNe, bne_self_eq_false, reduceCtorEq, gt_iff_lt, ge_iff_le, hF] | (rewrite [if_pos]; rotate_left; focus (first | omega | (simp only [LN, hF]; omega) | (refine ⟨?_, ?_⟩ <;> (simp only [LN, hF] <;> omega)))) | (rewrite [if_neg]; rotate_left; focus (first | omega | (simp only [LN, hF]; omega) | (refine ⟨?_, ?_⟩ <;> (simp only [LN, hF] <;> omega)))) | simp (disch := omega) only [wrap_i64, wrap_u64])); with_reducible rfl)) : a = b := h hF

structure KB (B : Prop) : Prop where
  out : B

/-- One step. -/
theorem St {F : Prop} (hF : F) {gl : GCalls} {keep : List Nat} {ds : List (Nat × List Info)} (ct : CT gl keep ds) {A B : Prop} (k : B) (h : F → CT gl keep ds → KB B → A := by
  (intro hF ct hk; (first
    | refine AWP.seq ?_
    | refine AWP.block ?_
    | (refine AWP.rK ct (Ev hF) ?_; try show AWP _ _ _ _ _ _)
    | (refine AWP.condT ?_ ?_; focus (simp only [W, eqq, ↓reduceIte, Nat.reduceEqDiff, Nat.reduceLT, Nat.reduceLeDiff, Nat.reduceAdd, Nat.reduceMul, Nat.reduceSub, Nat.reduceBEq, Int.reduceLE, Int.reduceLT, Int.reduceNeg, Int.reduceToNat, Int.reduceEq, Int.reduceBEq, Int.reduceBNe, Nat.reduceBNe, bne_self_eq_false, reduceCtorEq, gt_iff_lt, ge_iff_le, hF]; done))
    | (refine AWP.condF ?_ ?_; focus (simp only [W, eqq, ↓reduceIte, Nat.reduceEqDiff, Nat.reduceLT, Nat.reduceLeDiff, Nat.reduceAdd, Nat.reduceMul, Nat.reduceSub, Nat.reduceBEq, Int.reduceLE, Int.reduceLT, Int.reduceNeg, Int.reduceToNat, Int.reduceEq, Int.reduceBEq, Int.reduceBNe, Nat.reduceBNe, bne_self_eq_false, reduceCtorEq, gt_iff_lt, ge_iff_le, hF]; done))
    | (refine AWP.cT (by simp only [W, eqq, ↓reduceIte, Nat.reduceEqDiff, Nat.reduceLT, Nat.reduceLeDiff, Nat.reduceAdd, Nat.reduceMul, Nat.reduceSub, Nat.reduceBEq, Int.reduceLE, Int.reduceLT, Int.reduceNeg, Int.reduceToNat, Int.reduceEq, Int.reduceBEq, Int.reduceBNe, Nat.reduceBNe, bne_self_eq_false, reduceCtorEq, gt_iff_lt, ge_iff_le, hF]; with_reducible rfl) (by simp only [BL, beq_iff_eq, bne_iff_ne, beq_eq_false_iff_ne, bne_eq_false_iff_eq]; omega) ?_)
    | (refine AWP.cF (by simp only [W, eqq, ↓reduceIte, Nat.reduceEqDiff, Nat.reduceLT, Nat.reduceLeDiff, Nat.reduceAdd, Nat.reduceMul, Nat.reduceSub, Nat.reduceBEq, Int.reduceLE, Int.reduceLT, Int.reduceNeg, Int.reduceToNat, Int.reduceEq, Int.reduceBEq, Int.reduceBNe, Nat.reduceBNe, bne_self_eq_false, reduceCtorEq, gt_iff_lt, ge_iff_le, hF]; with_reducible rfl) (by simp only [BL, beq_iff_eq, bne_iff_ne, beq_eq_false_iff_ne, bne_eq_false_iff_eq]; omega) ?_)
    | (refine AWP.skip ?_; try show AWP _ _ _ _ _ _)
    | (refine AWP.exit ?_; try show AWP _ _ _ _ _ _)
    | (refine AWP.dK ct (by rfl) (by kernel_rfl) (Ev hF) ?_; try show AWP _ _ _ _ _ _)); exact hk.out)) : A := h hF ct ⟨k⟩

/-- A state told anew. -/
theorem Wt {F : Prop} (hF : F) (ks ids : List Nat) {kp N : Nat} {S S' : AS} (hok : okIds kp ids := by first | decide | (show okIds 0 _; decide) | (show okIds 1 _; decide) | (show okIds 2 _; decide) | (show okIds 3 _; decide) | (show okIds 4 _; decide))
    (h : F → S.norm ks ids = S' := by (intro hF; first | (simp only [W, eqq, ↓reduceIte, Nat.reduceEqDiff, Nat.reduceLT, Nat.reduceLeDiff, Nat.reduceAdd, Nat.reduceMul, Nat.reduceSub, Nat.reduceBEq, Int.reduceLE, Int.reduceLT, Int.reduceNeg, Int.reduceToNat, Int.reduceEq, Int.reduceBEq, Int.reduceBNe, Nat.reduceBNe, bne_self_eq_false, reduceCtorEq, gt_iff_lt, ge_iff_le, hF]; done) | (simp only [W, eqq, ↓reduceIte, Nat.reduceEqDiff, Nat.reduceLT, Nat.reduceLeDiff, Nat.reduceAdd, Nat.reduceMul, Nat.reduceSub, Nat.reduceBEq, Int.reduceLE, Int.reduceLT, Int.reduceNeg, Int.reduceToNat, Int.reduceEq, Int.reduceBEq, Int.reduceBNe, Nat.reduceBNe, bne_self_eq_false, reduceCtorEq, gt_iff_lt, ge_iff_le, hF]; rfl) | (simp only [W, eqq, ↓reduceIte, Nat.reduceEqDiff, Nat.reduceLT, Nat.reduceLeDiff, Nat.reduceAdd, Nat.reduceMul, Nat.reduceSub, Nat.reduceBEq, Int.reduceLE, Int.reduceLT, Int.reduceNeg, Int.reduceToNat, Int.reduceEq, Int.reduceBEq, Int.reduceBNe, Nat.reduceBNe, bne_self_eq_false, reduceCtorEq, gt_iff_lt, ge_iff_le, hF, Int.natCast_add, Int.cast_ofNat_Int]; done))) : Weak kp N S S' := Weak.to ks ids hok (h hF)

/-- The end of a walk. -/
theorem Fin {F : Prop} (hF : F) (fz ids : List Nat) {rs : List RS} {kp : Nat} {H : List Blk} {r : AV} {e : Exit} {S : AS} (he : e = .normal ∨ e = .ret := by first | exact .inl rfl | exact .inr rfl) (hok : okIds kp ids := by first | decide | (show okIds 0 _; decide) | (show okIds 1 _; decide) | (show okIds 2 _; decide) | (show okIds 3 _; decide) | (show okIds 4 _; decide))
    (h : F → cres E rs (freezeOnes S.H fz) S.s ids = some (H, r) := by (intro hF; first | (simp only [cres, resVals, RS.val, thawV, freezeOnes, freezeOne, renH, one, AV.ren, AV.renL, Blk.ren, W, eqq, ↓reduceIte, Nat.reduceEqDiff, Nat.reduceLT, Nat.reduceLeDiff, Nat.reduceAdd, Nat.reduceMul, Nat.reduceSub, Nat.reduceBEq, Int.reduceLE, Int.reduceLT, Int.reduceNeg, Int.reduceToNat, Int.reduceEq, Int.reduceBEq, Int.reduceBNe, Nat.reduceBNe, bne_self_eq_false, reduceCtorEq, gt_iff_lt, ge_iff_le, hF]; done) | (simp only [cres, resVals, RS.val, thawV, freezeOnes, freezeOne, renH, one, AV.ren, AV.renL, Blk.ren, W, eqq, ↓reduceIte, Nat.reduceEqDiff, Nat.reduceLT, Nat.reduceLeDiff, Nat.reduceAdd, Nat.reduceMul, Nat.reduceSub, Nat.reduceBEq, Int.reduceLE, Int.reduceLT, Int.reduceNeg, Int.reduceToNat, Int.reduceEq, Int.reduceBEq, Int.reduceBNe, Nat.reduceBNe, bne_self_eq_false, reduceCtorEq, gt_iff_lt, ge_iff_le, hF]; rfl))) : cretQ E rs kp H r e S := ⟨he, fz, ids, hok, h hF⟩

/-- nil in a box, taken for an empty row. -/
theorem Wn {kp N : Nat} {S : AS} {v v' : AV} (i : Nat) (p : List Nat) (o : Nat) (B : T) (hi : S.H[i]? = some (.bx v) := by rfl) (hg : AV.get v p = some (.t .nil) := by (simp only [W, eqq, ↓reduceIte, Nat.reduceEqDiff, Nat.reduceLT, Nat.reduceLeDiff, Nat.reduceAdd, Nat.reduceMul, Nat.reduceSub, Nat.reduceBEq, Int.reduceLE, Int.reduceLT, Int.reduceNeg, Int.reduceToNat, Int.reduceEq, Int.reduceBEq, Int.reduceBNe, Nat.reduceBNe, bne_self_eq_false, reduceCtorEq, gt_iff_lt, ge_iff_le])) (ho : AV.off v p = some o := by (simp only [W, eqq, ↓reduceIte, Nat.reduceEqDiff, Nat.reduceLT, Nat.reduceLeDiff, Nat.reduceAdd, Nat.reduceMul, Nat.reduceSub, Nat.reduceBEq, Int.reduceLE, Int.reduceLT, Int.reduceNeg, Int.reduceToNat, Int.reduceEq, Int.reduceBEq, Int.reduceBNe, Nat.reduceBNe, bne_self_eq_false, reduceCtorEq, gt_iff_lt, ge_iff_le])) (hs' : AV.set v p (.t B) = some v' := by (simp only [W, eqq, ↓reduceIte, Nat.reduceEqDiff, Nat.reduceLT, Nat.reduceLeDiff, Nat.reduceAdd, Nat.reduceMul, Nat.reduceSub, Nat.reduceBEq, Int.reduceLE, Int.reduceLT, Int.reduceNeg, Int.reduceToNat, Int.reduceEq, Int.reduceBEq, Int.reduceBNe, Nat.reduceBNe, bne_self_eq_false, reduceCtorEq, gt_iff_lt, ge_iff_le]; rfl))
    (hB : B = .by [] ∨ ∃ sz, 0 < sz ∧ B = .sq sz [] := by first | exact .inl rfl | exact .inr ⟨_, by decide, rfl⟩) : Weak kp N S ⟨S.s, S.H.set i (.bx v')⟩ := Weak.nilBx i p o B hi hg ho hs' hB
/-- A nil slot, taken for an empty row of the call's own. -/
theorem Wo {kp N : Nat} {S : AS} (i : Nat) (B : Blk) (hi : lk i S.s = .t .nil := by (simp only [W, eqq, ↓reduceIte, Nat.reduceEqDiff, Nat.reduceLT, Nat.reduceLeDiff, Nat.reduceAdd, Nat.reduceMul, Nat.reduceSub, Nat.reduceBEq, Int.reduceLE, Int.reduceLT, Int.reduceNeg, Int.reduceToNat, Int.reduceEq, Int.reduceBEq, Int.reduceBNe, Nat.reduceBNe, bne_self_eq_false, reduceCtorEq, gt_iff_lt, ge_iff_le])) (hB : B = .by [] ∨ ∃ sz, 0 < sz ∧ B = .sq sz [] := by first | exact .inl rfl | exact .inr ⟨_, by decide, rfl⟩) : Weak kp N S ⟨(i, .own S.H.length) :: S.s, S.H ++ [B]⟩ := Weak.own i B hi hB
/-- A comparison with nil, at a region's end. -/
theorem AWP.nK {gl : GCalls} {keep : List Nat} {ds : List (Nat × List Info)} {kp N id d j : Nat} {l : List Oper} {o : Oper} {t t' e : TypeId} {b : List UInt8} {Q : Exit → AS → Prop} {S S1 : AS} {F : Prop} (hF : F) (ct : CT gl keep ds)
    (hQ : ∀ r : Bool, (r = true → b = []) → Q .normal ⟨prune keep ((d, .t (.bool r)) :: S1.s), S1.H⟩)
    (hop : o.op = .binOp .eql t (.tmp j) (.const (.slice none 0 0)) t' := by rfl) (hd : o.dst = some d := by rfl) (hdN : d < N := by decide) (ht : (E t).ty = .sl e := by rfl)
    (h : F → gops E eqq gl N (l ++ [o]) l S = some S1 := by (intro hF; simp only [W, eqq, ↓reduceIte, Nat.reduceEqDiff, Nat.reduceLT, Nat.reduceLeDiff, Nat.reduceAdd, Nat.reduceMul, Nat.reduceSub, Nat.reduceBEq, Int.reduceLE, Int.reduceLT, Int.reduceNeg, Int.reduceToNat, Int.reduceEq, Int.reduceBEq, Int.reduceBNe, Nat.reduceBNe, bne_self_eq_false, reduceCtorEq, gt_iff_lt, ge_iff_le, hF]; with_reducible rfl)) (hw : wantA (l ++ [o]) S1.s o = some true := by rfl) (hsl : lk j S1.s = .t (.by b) := by rfl) :
    AWP kp Try.prog N (.region id (l ++ [o]).toArray false) Q S := AWP.gnil X_ok ct.cl keep hop hd hdN ht (h hF) hw hsl hQ

end Go.Fw

end
