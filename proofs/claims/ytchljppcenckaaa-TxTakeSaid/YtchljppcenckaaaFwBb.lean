/- The abstract machine, and the contracts of the code: part 3. -/
import Derived.Test.YtchljppcenckaaaFwB

section
/- Parts of trees and of blocks, by a path. -/
namespace Go.Fw
set_option linter.unusedVariables false
set_option linter.unusedSimpArgs false
open Go

theorem sizeL_append (xs ys : List T) : T.sizeL (xs ++ ys) = T.sizeL xs + T.sizeL ys := by
  induction xs with
  | nil => simp [T.sizeL]
  | cons x xs ih => simp [T.sizeL, ih]; omega

theorem addr_add (b o i : Nat) : ((⟨b, o, none⟩ : Addr).add i) = ⟨b, o + i, none⟩ := by
  unfold Addr.add; split <;> simp_all

def T.isAgg : T → Bool
  | .ba _ _ | .ar _ _ _ | .st _ => true
  | _ => false

theorem cell_at {w : World} {b o : Nat} {cur : Array Value} {ty : TypeId} {fr : Nat × Nat} (h : w.heap[b]? = some (.cells cur ty fr)) : w.cell? ⟨b, o, none⟩ = cur[o]? := by
  simp [World.cell?, h]

theorem T.cells_leaf {x : T} (h : x.isAgg = false) : x.cells = [x] := by cases x <;> first | rfl | simp [T.isAgg] at h

theorem u8_rel {M : Nat → Option Obj} {c : UInt8} {u : Value} (h : RelT M (u8 c) u) : u = vu8 c := by
  generalize hx : u8 c = x at h
  cases h <;> simp [u8] at hx
  obtain ⟨rfl, rfl⟩ := hx; rfl

/-! ### Parts of a tree, by a path. -/

def T.get : T → List Nat → Option T
  | x, [] => some x
  | .st xs, i :: p => match xs[i]? with
    | some y => T.get y p
    | none => none
  | .ar _ _ xs, i :: p => match xs[i]? with
    | some y => T.get y p
    | none => none
  | .ba _ l, i :: p => match l[i]? with
    | some c => T.get (u8 c) p
    | none => none
  | _, _ :: _ => none
termination_by _ p => p.length

def T.off : T → List Nat → Option Nat
  | _, [] => some 0
  | .st xs, i :: p => match xs[i]? with
    | some y => (T.off y p).map (T.sizeL (xs.take i) + ·)
    | none => none
  | .ar _ sz xs, i :: p => match xs[i]? with
    | some y => (T.off y p).map (i * sz + ·)
    | none => none
  | .ba _ l, i :: p => match l[i]? with
    | some c => (T.off (u8 c) p).map (i + ·)
    | none => none
  | _, _ :: _ => none
termination_by _ p => p.length

theorem cellsL_get {xs : List T} (hw : T.wfL xs) {i : Nat} {y : T} (hi : xs[i]? = some y) (j : Nat) (c : T) (hj : y.cells[j]? = some c) :
    (T.cellsL xs)[T.sizeL (xs.take i) + j]? = some c := by
  induction xs generalizing i with
  | nil => simp at hi
  | cons x xs ih =>
    obtain ⟨h1, h2⟩ := (by simpa only [T.wfL] using hw : x.wf ∧ T.wfL xs)
    cases i with
    | zero =>
      simp at hi; subst hi
      simp only [List.take_zero, T.sizeL, T.cellsL, Nat.zero_add]
      rw [List.getElem?_append_left (List.getElem?_eq_some_iff.1 hj).1]; exact hj
    | succ i =>
      simp only [List.getElem?_cons_succ] at hi
      simp only [List.take_succ_cons, T.sizeL, T.cellsL]
      rw [List.getElem?_append_right (by rw [T.cells_len x h1]; omega), T.cells_len x h1]
      rw [show x.size + T.sizeL (xs.take i) + j - x.size = T.sizeL (xs.take i) + j by omega]
      exact ih h2 hi

theorem sizeL_take_const {sz : Nat} {xs : List T} (hs : ∀ x ∈ xs, x.size = sz) (i : Nat) (hi : i ≤ xs.length) : T.sizeL (xs.take i) = i * sz := by
  rw [T.sizeL_const _ sz (fun x hx => hs x (List.mem_of_mem_take hx)), List.length_take, Nat.min_eq_left hi]

theorem wfL_get {xs : List T} (hw : T.wfL xs) {i : Nat} {y : T} (hi : xs[i]? = some y) : y.wf :=
  (T.wfL_iff _).1 hw _ (List.mem_of_getElem? hi)

theorem u8_wf (c : UInt8) : (u8 c).wf := by
  have := UInt8.toNat_lt c
  simp [u8, T.wf, inK, IntKind.min, IntKind.max, IntKind.signed, IntKind.bits]; omega

theorem RelT_u8 {M : Nat → Option Obj} (c : UInt8) : RelT M (u8 c) (vu8 c) := by
  have := u8_wf c
  simp only [u8, T.wf] at this
  exact .int this

theorem T.get_ok (p : List Nat) : ∀ (x y : T) (o : Nat), x.wf → T.get x p = some y → T.off x p = some o → y.wf ∧ ∀ j c, y.cells[j]? = some c → x.cells[o + j]? = some c := by
  induction p with
  | nil => intro x y o hw hg ho; simp [T.get] at hg; simp [T.off] at ho; subst hg; subst ho; exact ⟨hw, fun j c h => by simpa using h⟩
  | cons i p ih =>
    intro x y o hw hg ho
    cases x with
    | st xs =>
      simp only [T.get] at hg; simp only [T.off] at ho
      split at hg
      · rename_i z hz
        rw [hz] at ho
        simp only [Option.map_eq_some_iff] at ho
        obtain ⟨o', ho', rfl⟩ := ho
        simp only [T.wf] at hw
        obtain ⟨h1, h2⟩ := ih z y o' (wfL_get hw hz) hg ho'
        refine ⟨h1, fun j c hj => ?_⟩
        simp only [T.cells]
        rw [Nat.add_assoc]
        exact cellsL_get hw hz _ _ (h2 j c hj)
      · cases hg
    | ar n sz xs =>
      simp only [T.get] at hg; simp only [T.off] at ho
      split at hg
      · rename_i z hz
        rw [hz] at ho
        simp only [Option.map_eq_some_iff] at ho
        obtain ⟨o', ho', rfl⟩ := ho
        simp only [T.wf] at hw
        obtain ⟨hn, hs, hwl⟩ := hw
        obtain ⟨h1, h2⟩ := ih z y o' (wfL_get hwl hz) hg ho'
        refine ⟨h1, fun j c hj => ?_⟩
        simp only [T.cells]
        rw [Nat.add_assoc]
        have := cellsL_get hwl hz _ _ (h2 j c hj)
        rwa [sizeL_take_const hs i (by have := (List.getElem?_eq_some_iff.1 hz).1; omega)] at this
      · cases hg
    | ba n l =>
      simp only [T.get] at hg; simp only [T.off] at ho
      split at hg
      · rename_i z hz
        rw [hz] at ho
        simp only [Option.map_eq_some_iff] at ho
        obtain ⟨o', ho', rfl⟩ := ho
        obtain ⟨h1, h2⟩ := ih (u8 z) y o' (u8_wf z) hg ho'
        refine ⟨h1, fun j c hj => ?_⟩
        have := h2 j c hj
        simp only [u8, T.cells] at this
        have hlt := (List.getElem?_eq_some_iff.1 this).1
        simp at hlt
        obtain ⟨h3, h4⟩ : o' = 0 ∧ j = 0 := ⟨by omega, by omega⟩
        subst h3; subst h4
        simp at this
        subst this
        simp [T.cells, hz, u8]
      · cases hg
    | _ => simp [T.get] at hg

def AV.get : AV → List Nat → Option AV
  | v, [] => some v
  | .st xs, i :: p => match xs[i]? with
    | some y => AV.get y p
    | none => none
  | .t x, i :: p => (T.get x (i :: p)).map .t
  | _, _ :: _ => none
termination_by _ p => p.length

def AV.off : AV → List Nat → Option Nat
  | _, [] => some 0
  | .st xs, i :: p => match xs[i]? with
    | some y => (AV.off y p).map (AV.sizeL (xs.take i) + ·)
    | none => none
  | .t x, i :: p => T.off x (i :: p)
  | _, _ :: _ => none
termination_by _ p => p.length

theorem AV.cellsL_get {xs : List AV} (hw : AV.wfL xs) {i : Nat} {y : AV} (hi : xs[i]? = some y) (j : Nat) (c : AV) (hj : y.cells[j]? = some c) :
    (AV.cellsL xs)[AV.sizeL (xs.take i) + j]? = some c := by
  induction xs generalizing i with
  | nil => simp at hi
  | cons x xs ih =>
    obtain ⟨h1, h2⟩ := (by simpa only [AV.wfL] using hw : x.wf ∧ AV.wfL xs)
    cases i with
    | zero =>
      simp at hi; subst hi
      simp only [List.take_zero, AV.sizeL, AV.cellsL, Nat.zero_add]
      rw [List.getElem?_append_left (List.getElem?_eq_some_iff.1 hj).1]; exact hj
    | succ i =>
      simp only [List.getElem?_cons_succ] at hi
      simp only [List.take_succ_cons, AV.sizeL, AV.cellsL]
      rw [List.getElem?_append_right (by rw [AV.cells_len x h1]; omega), AV.cells_len x h1]
      rw [show x.size + AV.sizeL (xs.take i) + j - x.size = AV.sizeL (xs.take i) + j by omega]
      exact ih h2 hi

theorem AV.wfL_iff : ∀ (xs : List AV), AV.wfL xs ↔ ∀ x ∈ xs, x.wf
  | [] => by simp [AV.wfL]
  | x :: xs => by simp [AV.wfL, AV.wfL_iff xs]

theorem AV.get_ok (p : List Nat) : ∀ (x y : AV) (o : Nat), x.wf → AV.get x p = some y → AV.off x p = some o → y.wf ∧ ∀ j c, y.cells[j]? = some c → x.cells[o + j]? = some c := by
  induction p with
  | nil => intro x y o hw hg ho; simp [AV.get] at hg; simp [AV.off] at ho; subst hg; subst ho; exact ⟨hw, fun j c h => by simpa using h⟩
  | cons i p ih =>
    intro x y o hw hg ho
    cases x with
    | st xs =>
      simp only [AV.get] at hg; simp only [AV.off] at ho
      split at hg
      · rename_i z hz
        rw [hz] at ho
        simp only [Option.map_eq_some_iff] at ho
        obtain ⟨o', ho', rfl⟩ := ho
        simp only [AV.wf] at hw
        obtain ⟨h1, h2⟩ := ih z y o' ((AV.wfL_iff _).1 hw _ (List.mem_of_getElem? hz)) hg ho'
        refine ⟨h1, fun j c hj => ?_⟩
        simp only [AV.cells]
        rw [Nat.add_assoc]
        exact AV.cellsL_get hw hz _ _ (h2 j c hj)
      · cases hg
    | t x =>
      simp only [AV.get, Option.map_eq_some_iff] at hg; simp only [AV.off] at ho
      obtain ⟨z, hz, rfl⟩ := hg
      obtain ⟨h1, h2⟩ := T.get_ok _ x z o (by simpa only [AV.wf] using hw) hz ho
      refine ⟨by simpa only [AV.wf] using h1, fun j c hj => ?_⟩
      simp only [AV.cells, List.getElem?_map, Option.map_eq_some_iff] at hj ⊢
      obtain ⟨d, hd, rfl⟩ := hj
      exact ⟨d, h2 j d hd, rfl⟩
    | _ => simp [AV.get] at hg

/-- What lies in a block, at a path; and where. -/
def Blk.get : Blk → List Nat → Option AV
  | .by l, [j] => (l[j]?).map fun c => .t (u8 c)
  | .sq _ xs, j :: p => match xs[j]? with
    | some y => (T.get y p).map .t
    | none => none
  | .bx v, p => AV.get v p
  | .fb x, p => match T.get x p with
    | some y => some (.t y)
    | none => none
  | _, _ => none

def Blk.off : Blk → List Nat → Option Nat
  | .by _, [j] => some j
  | .sq sz xs, j :: p => match xs[j]? with
    | some y => (T.off y p).map (j * sz + ·)
    | none => none
  | .bx v, p => AV.off v p
  | .fb x, p => T.off x p
  | _, _ => none

theorem Blk.get_ok {m : Mem} {w : World} (himm : ∀ b o, m.M b = some o → w.heap[b]? = some o) {B : Blk} {hd : Value} (h : BlkOk m w B hd) {p : List Nat} {y : AV} {o : Nat} (hg : B.get p = some y) (ho : B.off p = some o) :
    ∃ b cur e fr, blk hd = some b ∧ w.heap[b]? = some (.cells cur e fr) ∧ y.wf ∧ ∀ j c, y.cells[j]? = some c → ∃ u, cur[o + j]? = some u ∧ RelA m c u := by
  cases B with
  | «by» l =>
    match p with
    | [] => simp [Blk.get] at hg
    | [i] =>
      simp only [Blk.get, Option.map_eq_some_iff] at hg
      simp only [Blk.off, Option.some.injEq] at ho
      subst ho
      obtain ⟨c, hc, rfl⟩ := hg
      rcases h with ⟨_, rfl⟩ | ⟨b, cap, cur, e, rfl, hh, _, _, _, _, hcc⟩
      · simp at hc
      · refine ⟨b, cur, e, _, rfl, hh, by simpa only [AV.wf] using u8_wf c, fun j d hj => ?_⟩
        simp only [AV.cells, u8, T.cells] at hj
        have hlt := (List.getElem?_eq_some_iff.1 hj).1
        simp at hlt; subst hlt
        simp at hj; subst hj
        refine ⟨vu8 c, hcc _ _ hc, .t (.int ?_)⟩
        have := u8_wf c
        simpa [u8, T.wf] using this
    | _ :: _ :: _ => simp [Blk.get] at hg
  | sq sz xs =>
    match p with
    | [] => simp [Blk.get] at hg
    | i :: p =>
      simp only [Blk.get] at hg
      simp only [Blk.off] at ho
      split at hg
      · rename_i z hz
        rw [hz] at ho
        simp only [Option.map_eq_some_iff] at ho hg
        obtain ⟨o', ho', rfl⟩ := ho
        obtain ⟨y', hy', rfl⟩ := hg
        obtain ⟨hw, h⟩ := h
        obtain ⟨hw1, hw2, hw3, hw4⟩ := (by simpa only [T.wf] using hw : 0 < sz ∧ xs.length ≤ maxLen ∧ (∀ x ∈ xs, x.size = sz) ∧ T.wfL xs)
        rcases h with ⟨_, rfl⟩ | ⟨b, cap, cur, e, rfl, hh, _, _, _, _, hcc⟩
        · simp at hz
        · obtain ⟨g1, g2⟩ := T.get_ok p z y' o' (wfL_get hw4 hz) hy' ho'
          refine ⟨b, cur, e, _, rfl, hh, by simpa only [AV.wf] using g1, fun j d hj => ?_⟩
          simp only [AV.cells, List.getElem?_map, Option.map_eq_some_iff] at hj
          obtain ⟨d', hd', rfl⟩ := hj
          have := cellsL_get hw4 hz _ _ (g2 j d' hd')
          rw [sizeL_take_const hw3 i (by have := (List.getElem?_eq_some_iff.1 hz).1; omega)] at this
          obtain ⟨u, hu, hr⟩ := hcc _ _ this
          exact ⟨u, by rw [Nat.add_assoc]; exact hu, .t hr⟩
      · cases hg
  | bx v =>
    obtain ⟨b, cur, e, rfl, hh, _, hw, hs, hcc⟩ := h
    obtain ⟨g1, g2⟩ := AV.get_ok p v y o hw hg ho
    exact ⟨b, cur, e, _, rfl, hh, g1, fun j c hj => hcc _ _ (g2 j c hj)⟩
  | fb x =>
    obtain ⟨hw, b, cur, e, fr, rfl, hM, hcc⟩ := h
    simp only [Blk.get] at hg
    simp only [Blk.off] at ho
    split at hg
    · rename_i z hz
      cases hg
      obtain ⟨g1, g2⟩ := T.get_ok p x z o hw hz ho
      refine ⟨b, cur, e, fr, rfl, himm _ _ hM, by simpa only [AV.wf] using g1, fun j c hj => ?_⟩
      simp only [AV.cells, List.getElem?_map, Option.map_eq_some_iff] at hj
      obtain ⟨d, hd, rfl⟩ := hj
      obtain ⟨u, hu, hr⟩ := hcc _ _ (g2 j d hd)
      exact ⟨u, hu, .t hr⟩
    · cases hg
  | fz x => cases p <;> simp [Blk.get] at hg
  | no => cases p <;> simp [Blk.get] at hg

end Go.Fw

end
