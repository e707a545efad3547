/- The abstract machine, and the contracts of the code: part 22. -/
import Derived.Test.YtchljppcenckaaaFwX

section
/- Parts of trees and of boxes replaced; stores of any value; new boxes. -/
namespace Go.Fw
set_option linter.unusedVariables false
set_option linter.unusedSimpArgs false
open Go

/-! ### A part replaced, by a path. -/

def baSet (n : Nat) (l : List UInt8) (i : Nat) (p : List Nat) (y : T) : Option T :=
  match p, y with
  | [], .int .u8 k => if i < l.length then some (.ba n (l.set i (UInt8.ofNat k.toNat))) else none
  | _, _ => none

def T.set : T → List Nat → T → Option T
  | _, [], y => some y
  | .st xs, i :: p, y => match xs[i]? with
    | some x => match T.set x p y with
      | some z => some (.st (xs.set i z))
      | none => none
    | none => none
  | .ar n sz xs, i :: p, y => match xs[i]? with
    | some x => match T.set x p y with
      | some z => some (.ar n sz (xs.set i z))
      | none => none
    | none => none
  | .ba n l, i :: p, y => baSet n l i p y
  | _, _ :: _, _ => none
termination_by _ p => p.length

/-- New cells in the place of old ones, and all others as they were. -/
def Patched {α : Type} (old new : List α) (o : Nat) (ins : List α) : Prop :=
  ∀ j, new[j]? = if o ≤ j ∧ j < o + ins.length then ins[j - o]? else old[j]?

theorem cellsL_set {xs : List T} (hw : T.wfL xs) {i : Nat} {x z : T} (hi : xs[i]? = some x) (hz : z.wf) (hs : z.size = x.size) :
    Patched (T.cellsL xs) (T.cellsL (xs.set i z)) (T.sizeL (xs.take i)) z.cells ∧ T.wfL (xs.set i z) ∧ T.sizeL (xs.set i z) = T.sizeL xs := by
  induction xs generalizing i with
  | nil => simp at hi
  | cons y xs ih =>
    obtain ⟨h1, h2⟩ := (by simpa only [T.wfL] using hw : y.wf ∧ T.wfL xs)
    cases i with
    | zero =>
      simp at hi; subst hi
      refine ⟨fun j => ?_, by simp [T.wfL, hz, h2], by simp [T.sizeL, hs]⟩
      simp only [List.set_cons_zero, List.take_zero, T.sizeL, T.cellsL, Nat.zero_le, true_and, Nat.zero_add, Nat.sub_zero]
      have hl := T.cells_len z hz
      have hl' := T.cells_len y h1
      by_cases hj : j < z.cells.length
      · rw [if_pos hj, List.getElem?_append_left hj]
      · rw [if_neg hj, List.getElem?_append_right (by omega), List.getElem?_append_right (by omega)]
        congr 1; omega
    | succ i =>
      simp only [List.getElem?_cons_succ] at hi
      obtain ⟨g1, g2, g3⟩ := ih h2 hi
      refine ⟨fun j => ?_, by simp [T.wfL, h1, g2], by simp [T.sizeL, g3]⟩
      simp only [List.set_cons_succ, List.take_succ_cons, T.sizeL, T.cellsL]
      have hl' := T.cells_len y h1
      by_cases hj : j < y.cells.length
      · rw [if_neg (by omega), List.getElem?_append_left hj, List.getElem?_append_left hj]
      · rw [List.getElem?_append_right (by omega), List.getElem?_append_right (by omega), g1]
        by_cases hk : y.size + T.sizeL (List.take i xs) ≤ j ∧ j < y.size + T.sizeL (List.take i xs) + z.cells.length
        · rw [if_pos hk, if_pos (by omega)]; congr 1; omega
        · rw [if_neg hk, if_neg (by omega)]

theorem Patched.trans {α : Type} {old mid ins insub : List α} {new : List α} {o o' : Nat} {part : List α} (h : Patched old new o ins) (k : Patched part ins o' insub)
    (hlen : ins.length = part.length) (hin : o' + insub.length ≤ part.length) (hpart : ∀ j c, part[j]? = some c → old[o + j]? = some c) : Patched old new (o + o') insub := by
  intro j
  rw [h j]
  by_cases h1 : o ≤ j ∧ j < o + ins.length
  · rw [if_pos h1, k (j - o)]
    by_cases h2 : o' ≤ j - o ∧ j - o < o' + insub.length
    · rw [if_pos h2, if_pos (by omega)]; congr 1; omega
    · rw [if_neg h2, if_neg (by omega)]
      have hlt : j - o < part.length := by omega
      have := hpart (j - o) _ (List.getElem?_eq_getElem hlt)
      rw [List.getElem?_eq_getElem hlt, ← this]; congr 1; omega
  · rw [if_neg h1, if_neg (by omega)]

theorem Patched.self {α : Type} (old new : List α) (h : old.length = new.length) : Patched old new 0 new := by
  intro j
  by_cases hj : j < new.length
  · rw [if_pos (by omega)]; simp
  · rw [if_neg (by omega), List.getElem?_eq_none (by omega), List.getElem?_eq_none (by omega)]

theorem T.set_ok (p : List Nat) : ∀ (x old y z : T) (o : Nat), x.wf → T.get x p = some old → T.off x p = some o → T.set x p y = some z → y.wf → y.size = old.size →
    z.wf ∧ z.size = x.size ∧ o + y.size ≤ x.size ∧ Patched x.cells z.cells o y.cells := by
  induction p with
  | nil =>
    intro x old y z o hw hg ho hs hy hsz
    simp [T.get] at hg; simp [T.off] at ho; simp [T.set] at hs
    subst hg; subst ho; subst hs
    exact ⟨hy, hsz, by omega, Patched.self _ _ (by rw [T.cells_len _ hy, T.cells_len _ hw, hsz])⟩
  | cons i p ih =>
    intro x old y z o hw hg ho hs hy hsz
    cases x with
    | st xs =>
      simp only [T.get] at hg; simp only [T.off] at ho; simp only [T.set] at hs
      split at hg
      · rename_i x1 hx1
        rw [hx1] at ho hs
        simp only [Option.map_eq_some_iff] at ho
        obtain ⟨o', ho', rfl⟩ := ho
        simp only at hs
        split at hs
        · rename_i z1 hz1
          cases hs
          simp only [T.wf] at hw
          have hxw := wfL_get hw hx1
          obtain ⟨g1, g2, g3, g4⟩ := ih x1 old y z1 o' hxw hg ho' hz1 hy hsz
          obtain ⟨k1, k2, k3⟩ := cellsL_set hw hx1 g1 g2
          have hle : T.sizeL (xs.take i) + x1.size ≤ T.sizeL xs := by
            have := (List.getElem?_eq_some_iff.1 hx1)
            obtain ⟨hlt, he⟩ := this
            have e : xs = xs.take i ++ x1 :: xs.drop (i + 1) := by rw [← he]; simp
            have := sizeL_append (xs.take i) (x1 :: xs.drop (i + 1))
            rw [← e] at this
            simp only [T.sizeL] at this; omega
          refine ⟨by simpa only [T.wf] using k2, by simpa only [T.size] using k3, by simp only [T.size]; omega, ?_⟩
          simp only [T.cells]
          refine Patched.trans (mid := []) k1 g4 (by rw [T.cells_len _ g1, T.cells_len _ hxw, g2]) (by rw [T.cells_len _ hy, T.cells_len _ hxw]; exact g3) ?_
          intro j c hj
          exact cellsL_get hw hx1 j c hj
        · cases hs
      · cases hg
    | ar n sz xs =>
      simp only [T.get] at hg; simp only [T.off] at ho; simp only [T.set] at hs
      split at hg
      · rename_i x1 hx1
        rw [hx1] at ho hs
        simp only [Option.map_eq_some_iff] at ho
        obtain ⟨o', ho', rfl⟩ := ho
        simp only at hs
        split at hs
        · rename_i z1 hz1
          cases hs
          simp only [T.wf] at hw
          obtain ⟨hn, hsz', hwl⟩ := hw
          have hxw := wfL_get hwl hx1
          obtain ⟨g1, g2, g3, g4⟩ := ih x1 old y z1 o' hxw hg ho' hz1 hy hsz
          obtain ⟨k1, k2, k3⟩ := cellsL_set hwl hx1 g1 g2
          have hlt := (List.getElem?_eq_some_iff.1 hx1).1
          have hxs : x1.size = sz := hsz' x1 (List.mem_of_getElem? hx1)
          have htk := sizeL_take_const hsz' i (by omega)
          rw [htk] at k1
          refine ⟨?_, by simp [T.size], ?_, ?_⟩
          · simp only [T.wf]
            refine ⟨by simpa using hn, fun x hx => ?_, k2⟩
            rcases List.mem_or_eq_of_mem_set hx with h | h
            · exact hsz' x h
            · rw [h, g2, hxs]
          · simp only [T.size]
            have h1 : (i + 1) * sz ≤ n * sz := Nat.mul_le_mul_right sz (by omega)
            rw [Nat.add_mul] at h1; omega
          · simp only [T.cells]
            refine Patched.trans (mid := []) k1 g4 (by rw [T.cells_len _ g1, T.cells_len _ hxw, g2]) (by rw [T.cells_len _ hy, T.cells_len _ hxw]; exact g3) ?_
            intro j c hj
            have := cellsL_get hwl hx1 j c hj
            rwa [htk] at this
        · cases hs
      · cases hg
    | ba n l =>
      simp only [T.get] at hg; simp only [T.off] at ho; simp only [T.set, baSet] at hs
      split at hs
      · rename_i k
        split at hs
        · rename_i hil
          cases hs
          simp only [List.getElem?_eq_getElem hil, T.off, Option.map_some, Option.some.injEq, Nat.add_zero] at ho
          subst ho
          simp only [T.wf] at hw
          simp only [T.wf, inK, IntKind.min, IntKind.max, IntKind.signed, IntKind.bits] at hy
          simp at hy
          refine ⟨by simpa [T.wf] using hw, rfl, by simp [T.size]; omega, fun j => ?_⟩
          simp only [T.cells, List.length_cons, List.length_nil, Nat.zero_add, List.getElem?_map, List.getElem?_set]
          by_cases hj : i = j
          · subst hj
            rw [if_pos (show i ≤ i ∧ i < i + 1 by omega)]
            simp [u8, hil]; omega
          · rw [if_neg (show ¬ (i ≤ j ∧ j < i + 1) by omega)]; simp [hj]
        · cases hs
      · cases hs
    | _ => simp [T.get] at hg

def AV.asT : AV → Option T
  | .t x => some x
  | _ => none

theorem AV.asT_some {y : AV} {x : T} (h : y.asT = some x) : y = .t x := by cases y <;> simp [AV.asT] at h; rw [h]

def AV.set : AV → List Nat → AV → Option AV
  | _, [], y => some y
  | .st xs, i :: p, y => match xs[i]? with
    | some x => match AV.set x p y with
      | some z => some (.st (xs.set i z))
      | none => none
    | none => none
  | .t (.st xs), i :: p, y => match y.asT with
    | some y' => match T.set (.st xs) (i :: p) y' with
      | some z => some (.t z)
      | none => none
    | none => match xs[i]? with
      | some x => match AV.set (.t x) p y with
        | some z => some (.st ((xs.map .t).set i z))
        | none => none
      | none => none
  | .t x, i :: p, y => match y.asT with
    | some y' => match T.set x (i :: p) y' with
      | some z => some (.t z)
      | none => none
    | none => none
  | _, _ :: _, _ => none
termination_by _ p => p.length

theorem AV.cellsL_set {xs : List AV} (hw : AV.wfL xs) {i : Nat} {x z : AV} (hi : xs[i]? = some x) (hz : z.wf) (hs : z.size = x.size) :
    Patched (AV.cellsL xs) (AV.cellsL (xs.set i z)) (AV.sizeL (xs.take i)) z.cells ∧ AV.wfL (xs.set i z) ∧ AV.sizeL (xs.set i z) = AV.sizeL xs := by
  induction xs generalizing i with
  | nil => simp at hi
  | cons y xs ih =>
    obtain ⟨h1, h2⟩ := (by simpa only [AV.wfL] using hw : y.wf ∧ AV.wfL xs)
    cases i with
    | zero =>
      simp at hi; subst hi
      refine ⟨fun j => ?_, by simp [AV.wfL, hz, h2], by simp [AV.sizeL, hs]⟩
      simp only [List.set_cons_zero, List.take_zero, AV.sizeL, AV.cellsL, Nat.zero_le, true_and, Nat.zero_add, Nat.sub_zero]
      have hl := AV.cells_len z hz
      have hl' := AV.cells_len y h1
      by_cases hj : j < z.cells.length
      · rw [if_pos hj, List.getElem?_append_left hj]
      · rw [if_neg hj, List.getElem?_append_right (by omega), List.getElem?_append_right (by omega)]
        congr 1; omega
    | succ i =>
      simp only [List.getElem?_cons_succ] at hi
      obtain ⟨g1, g2, g3⟩ := ih h2 hi
      refine ⟨fun j => ?_, by simp [AV.wfL, h1, g2], by simp [AV.sizeL, g3]⟩
      simp only [List.set_cons_succ, List.take_succ_cons, AV.sizeL, AV.cellsL]
      have hl' := AV.cells_len y h1
      by_cases hj : j < y.cells.length
      · rw [if_neg (by omega), List.getElem?_append_left hj, List.getElem?_append_left hj]
      · rw [List.getElem?_append_right (by omega), List.getElem?_append_right (by omega), g1]
        by_cases hk : y.size + AV.sizeL (List.take i xs) ≤ j ∧ j < y.size + AV.sizeL (List.take i xs) + z.cells.length
        · rw [if_pos hk, if_pos (by omega)]; congr 1; omega
        · rw [if_neg hk, if_neg (by omega)]

theorem AV.sizeL_append (xs ys : List AV) : AV.sizeL (xs ++ ys) = AV.sizeL xs + AV.sizeL ys := by
  induction xs with
  | nil => simp [AV.sizeL]
  | cons x xs ih => simp only [List.cons_append, AV.sizeL, ih]; omega

theorem AV.sizeL_at {xs : List AV} {i : Nat} {x : AV} (hi : xs[i]? = some x) : AV.sizeL (xs.take i) + x.size ≤ AV.sizeL xs := by
  obtain ⟨hlt, he⟩ := List.getElem?_eq_some_iff.1 hi
  have e : xs = xs.take i ++ x :: xs.drop (i + 1) := by rw [← he]; simp
  have := AV.sizeL_append (xs.take i) (x :: xs.drop (i + 1))
  rw [← e] at this
  simp only [AV.sizeL] at this; omega

theorem AV.mapT (xs : List T) : AV.cellsL (xs.map .t) = (T.cellsL xs).map .t ∧ AV.sizeL (xs.map .t) = T.sizeL xs ∧ (AV.wfL (xs.map .t) ↔ T.wfL xs) := by
  induction xs with
  | nil => simp [AV.cellsL, T.cellsL, AV.sizeL, T.sizeL, AV.wfL, T.wfL]
  | cons x xs ih => simp [AV.cellsL, T.cellsL, AV.sizeL, T.sizeL, AV.wfL, T.wfL, AV.cells, AV.size, AV.wf, ih]

theorem Patched.map {α β : Type} (f : α → β) {old new ins : List α} {o : Nat} (h : Patched old new o ins) : Patched (old.map f) (new.map f) o (ins.map f) := by
  intro j
  simp only [List.getElem?_map, h j, List.length_map]
  split <;> rfl

theorem AV.set_ok (p : List Nat) : ∀ (x old y z : AV) (o : Nat), x.wf → AV.get x p = some old → AV.off x p = some o → AV.set x p y = some z → y.wf → y.size = old.size →
    z.wf ∧ z.size = x.size ∧ o + y.size ≤ x.size ∧ Patched x.cells z.cells o y.cells := by
  induction p with
  | nil =>
    intro x old y z o hw hg ho hs hy hsz
    simp [AV.get] at hg; simp [AV.off] at ho; simp [AV.set] at hs
    subst hg; subst ho; subst hs
    exact ⟨hy, hsz, by omega, Patched.self _ _ (by rw [AV.cells_len _ hy, AV.cells_len _ hw, hsz])⟩
  | cons i p ih =>
    intro x old y z o hw hg ho hs hy hsz
    have tcase : ∀ (x : T) (y' : T) (z' : T), x.wf → T.get x (i :: p) = (match old with | .t q => some q | _ => none) → (∃ q, old = .t q) → T.off x (i :: p) = some o → T.set x (i :: p) y' = some z' → (AV.t y').wf → (AV.t y').size = old.size →
        (AV.t z').wf ∧ (AV.t z').size = (AV.t x).size ∧ o + (AV.t y').size ≤ (AV.t x).size ∧ Patched (AV.t x).cells (AV.t z').cells o (AV.t y').cells := by
      intro x y' z' hw hg ⟨q, hq⟩ ho hs hy hsz
      subst hq
      obtain ⟨g1, g2, g3, g4⟩ := T.set_ok (i :: p) x q y' z' o hw hg ho hs (by simpa only [AV.wf] using hy) (by simpa only [AV.size] using hsz)
      exact ⟨by simpa only [AV.wf] using g1, by simpa only [AV.size] using g2, by simpa only [AV.size] using g3, by simpa only [AV.cells] using g4.map AV.t⟩
    cases x with
    | st xs =>
      simp only [AV.get] at hg; simp only [AV.off] at ho; simp only [AV.set] at hs
      split at hg
      · rename_i x1 hx1
        rw [hx1] at ho hs
        simp only [Option.map_eq_some_iff] at ho
        obtain ⟨o', ho', rfl⟩ := ho
        simp only at hs
        split at hs
        · rename_i z1 hz1
          cases hs
          simp only [AV.wf] at hw
          have hxw := (AV.wfL_iff _).1 hw _ (List.mem_of_getElem? hx1)
          obtain ⟨g1, g2, g3, g4⟩ := ih x1 old y z1 o' hxw hg ho' hz1 hy hsz
          obtain ⟨k1, k2, k3⟩ := AV.cellsL_set hw hx1 g1 g2
          have hle := AV.sizeL_at hx1
          refine ⟨by simpa only [AV.wf] using k2, by simpa only [AV.size] using k3, by simp only [AV.size]; omega, ?_⟩
          simp only [AV.cells]
          refine Patched.trans (mid := []) k1 g4 (by rw [AV.cells_len _ g1, AV.cells_len _ hxw, g2]) (by rw [AV.cells_len _ hy, AV.cells_len _ hxw]; exact g3) ?_
          intro j c hj
          exact AV.cellsL_get hw hx1 j c hj
        · cases hs
      · cases hg
    | t x =>
      simp only [AV.get, Option.map_eq_some_iff] at hg; simp only [AV.off] at ho
      obtain ⟨q, hq, rfl⟩ := hg
      cases x with
      | st xs =>
        simp only [AV.set] at hs
        split at hs
        · rename_i y' hy'
          obtain rfl := AV.asT_some hy'
          split at hs
          · rename_i z' hz'
            cases hs
            exact tcase _ _ _ (by simpa only [AV.wf] using hw) hq ⟨q, rfl⟩ ho hz' hy hsz
          · cases hs
        · rename_i hny
          split at hs
          · rename_i x1 hx1
            split at hs
            · rename_i z1 hz1
              cases hs
              simp only [AV.wf, T.wf] at hw
              simp only [T.get] at hq
              rw [hx1] at hq
              simp only [T.off, hx1, Option.map_eq_some_iff] at ho
              obtain ⟨o', ho', rfl⟩ := ho
              have hxw := wfL_get hw hx1
              have hg1 : AV.get (.t x1) p = some (.t q) := by
                cases p with
                | nil => simp [T.get] at hq; simp [AV.get, hq]
                | cons a b => simp [AV.get, hq]
              have ho1 : AV.off (.t x1) p = some o' := by
                cases p with
                | nil => simp [T.off] at ho'; simp [AV.off, ho']
                | cons a b => simp [AV.off, ho']
              obtain ⟨g1, g2, g3, g4⟩ := ih (.t x1) (.t q) y z1 o' (by simpa only [AV.wf] using hxw) hg1 ho1 hz1 hy hsz
              obtain ⟨m1, m2, m3⟩ := AV.mapT xs
              have hx1' : (xs.map AV.t)[i]? = some (.t x1) := by simp [hx1]
              obtain ⟨k1, k2, k3⟩ := AV.cellsL_set (m3.2 hw) hx1' g1 g2
              have hle := AV.sizeL_at hx1'
              rw [m2] at k3 hle
              rw [m1] at k1
              have htk : AV.sizeL ((xs.map AV.t).take i) = T.sizeL (xs.take i) := by rw [← List.map_take]; exact (AV.mapT _).2.1
              rw [htk] at k1 hle
              simp only [AV.size] at hle g3 g2
              refine ⟨by simpa only [AV.wf] using k2, by simpa only [AV.size, T.size] using k3, by simp only [AV.size, T.size]; omega, ?_⟩
              simp only [AV.cells, T.cells]
              refine Patched.trans (mid := []) k1 g4 (by rw [AV.cells_len _ g1, AV.cells_len (.t x1) (by simpa only [AV.wf] using hxw), AV.size, g2]) (by rw [AV.cells_len _ hy, AV.cells_len (.t x1) (by simpa only [AV.wf] using hxw), AV.size]; exact g3) ?_
              intro j c hj
              simp only [AV.cells, List.getElem?_map, Option.map_eq_some_iff] at hj ⊢
              obtain ⟨d, hd, rfl⟩ := hj
              exact ⟨d, Fw.cellsL_get hw hx1 j d hd, rfl⟩
            · cases hs
          · cases hs
      | _ =>
        simp only [AV.set] at hs
        split at hs
        · rename_i y' hy'
          obtain rfl := AV.asT_some hy'
          split at hs
          · rename_i z' hz'
            cases hs
            exact tcase _ _ _ (by simpa only [AV.wf] using hw) hq ⟨q, rfl⟩ ho hz' hy hsz
          · cases hs
        · cases hs
    | _ => simp [AV.get] at hg

/-! ### A value's cells. -/

mutual
def AV.solid (H : List Blk) : AV → Bool
  | .any | .und | .tup _ => false
  | .own i => match H[i]? with
    | some (.fz x) => !x.isAgg
    | some .no => false
    | some _ => true
    | none => false
  | .st xs => AV.solidL H xs
  | _ => true
def AV.solidL (H : List Blk) : List AV → Bool
  | [] => true
  | x :: xs => x.solid H && AV.solidL H xs
end

def AV.leaf : AV → Bool
  | .t x => !x.isAgg
  | .st _ => false
  | _ => true

mutual
theorem AV.cells_leaves (H : List Blk) : ∀ (x : AV), x.solid H = true → ∀ c ∈ x.cells, c.leaf = true ∧ c.solid H = true
  | .t x, h, c, hc => by
    simp only [AV.cells, List.mem_map] at hc
    obtain ⟨d, hd, rfl⟩ := hc
    exact ⟨by simp [AV.leaf, T.cells_flat x d hd], rfl⟩
  | .st xs, h, c, hc => AV.cellsL_leaves H xs (by simpa only [AV.solid] using h) c (by simpa only [AV.cells] using hc)
  | .any, h, c, hc => by simp [AV.solid] at h
  | .und, h, c, hc => by simp [AV.solid] at h
  | .tup _, h, c, hc => by simp [AV.solid] at h
  | .own i, h, c, hc => by simp [AV.cells] at hc; subst hc; exact ⟨rfl, h⟩
  | .sub _ _ _ _ _ _, h, c, hc => by simp [AV.cells] at hc; subst hc; exact ⟨rfl, h⟩
  | .ptr _ _ _, h, c, hc => by simp [AV.cells] at hc; subst hc; exact ⟨rfl, h⟩
  | .ip _, h, c, hc => by simp [AV.cells] at hc; subst hc; exact ⟨rfl, h⟩
  | .ex _, h, c, hc => by simp [AV.cells] at hc; subst hc; exact ⟨rfl, h⟩
  | .clo _ _, h, c, hc => by simp [AV.cells] at hc; subst hc; exact ⟨rfl, h⟩
theorem AV.cellsL_leaves (H : List Blk) : ∀ (xs : List AV), AV.solidL H xs = true → ∀ c ∈ AV.cellsL xs, c.leaf = true ∧ c.solid H = true
  | [], h, c, hc => by simp [AV.cellsL] at hc
  | x :: xs, h, c, hc => by
    simp only [AV.solidL, Bool.and_eq_true] at h
    simp only [AV.cellsL, List.mem_append] at hc
    rcases hc with hc | hc
    · exact AV.cells_leaves H x h.1 c hc
    · exact AV.cellsL_leaves H xs h.2 c hc
end

theorem RelA.oneCell {c : Ctx} {m : Mem} {w : World} {H : List Blk} (h : Inv c m w H) {x : AV} {v : Value} (hx : RelA m x v) (hl : x.leaf = true) (hs : x.solid H = true) : v.oneCell' = true := by
  cases hx with
  | any => simp [AV.solid] at hs
  | und => simp [AV.solid] at hs
  | t h => exact h.oneCell (by simpa [AV.leaf] using hl)
  | own hi =>
    rename_i i
    simp only [AV.solid] at hs
    split at hs
    · rename_i x hx; exact (h.ok _ _ hx).1.oneCell (by simpa using hs)
    · cases hs
    · rename_i B hn1 hn2 hB
      cases B with
      | «by» l => rcases h.ok _ _ hB with ⟨e, _⟩ | ⟨_, _, _, _, e, _⟩ <;> rw [e] <;> rfl
      | sq sz xs => rcases (h.ok _ _ hB).2 with ⟨e, _⟩ | ⟨_, _, _, _, e, _⟩ <;> rw [e] <;> rfl
      | bx v => obtain ⟨_, _, _, e, _⟩ := h.ok _ _ hB; rw [e]; rfl
      | fz x => exact (hn1 x rfl).elim
      | fb x => obtain ⟨_, _, _, _, _, e, _⟩ := h.ok _ _ hB; rw [e]; rfl
      | no => exact (hn2 rfl).elim
    · cases hs
  | sub => rfl
  | ptr => rfl
  | ip => rfl
  | ex => rfl
  | st => simp [AV.leaf] at hl
  | tup => simp [AV.solid] at hs
  | @clo f cs vs ha hr =>
    by_cases hf : f < 1000000
    · rw [fnV_lt hf]; rfl
    · rw [fnV_ge hf]; rfl

theorem RelA.value_cells {c : Ctx} {m : Mem} {w : World} {H : List Blk} (h : Inv c m w H) {x : AV} {v : Value} (hx : RelA m x v) (hs : x.solid H = true) :
    v.cells.size = x.size ∧ (∀ (j : Nat) (c : AV), x.cells[j]? = some c → ∃ u, v.cells[j]? = some u ∧ RelA m c u) ∧ (∀ u ∈ v.cells.toList, u.oneCell' = true) := by
  have leaf : x.leaf = true → x.cells = [x] → x.size = 1 → v.cells.size = x.size ∧ (∀ (j : Nat) (c : AV), x.cells[j]? = some c → ∃ u, v.cells[j]? = some u ∧ RelA m c u) ∧ (∀ u ∈ v.cells.toList, u.oneCell' = true) := by
    intro hl h1 h2
    have ho := hx.oneCell h hl hs
    have hc : v.cells = #[v] := by cases v <;> first | rfl | simp [Value.oneCell'] at ho
    refine ⟨by rw [hc, h2]; rfl, fun j c hj => ?_, fun u hu => ?_⟩
    · rw [h1] at hj
      have hlt := (List.getElem?_eq_some_iff.1 hj).1
      simp at hlt; subst hlt
      simp at hj; subst hj
      exact ⟨v, by rw [hc]; rfl, hx⟩
    · rw [hc] at hu; simp at hu; subst hu; exact ho
  cases x with
  | t x =>
    obtain ⟨g1, g2⟩ := hx.t_inv.value_cells
    refine ⟨g1, fun j c hj => ?_, fun u hu => ?_⟩
    · simp only [AV.cells, List.getElem?_map, Option.map_eq_some_iff] at hj
      obtain ⟨d, hd, rfl⟩ := hj
      obtain ⟨u, hu, hr⟩ := g2 j d hd
      exact ⟨u, hu, .t hr⟩
    · obtain ⟨j, hj⟩ := List.getElem?_of_mem hu
      have hlt := (List.getElem?_eq_some_iff.1 hj).1
      have hlen := T.cells_len x hx.t_inv.wf
      obtain ⟨u', hu', hr⟩ := g2 j (x.cells[j]'(by simp at hlt; omega)) (List.getElem?_eq_getElem _)
      simp at hj hu'
      rw [hj] at hu'; cases hu'
      exact hr.oneCell (T.cells_flat x _ (List.getElem_mem _))
  | st xs =>
    generalize hx0 : AV.st xs = x0 at hx
    cases hx <;> cases hx0
    rename_i arr hw ha hr
    have hlen := AV.cells_len (.st xs) (by simpa only [AV.wf] using hw)
    simp only [AV.cells, AV.size] at hlen
    have hcell : ∀ (j : Nat) (c : AV), (AV.cellsL xs)[j]? = some c → ∃ u, arr[j]? = some u ∧ RelA m c u := by
      intro j c hj
      have hlt := (List.getElem?_eq_some_iff.1 hj).1
      have : j < arr.size := by omega
      refine ⟨arr[j], by simp [this], ?_⟩
      have := hr j c hj
      simpa [show j < arr.size by omega] using this
    refine ⟨ha, by simpa only [AV.cells, Value.cells] using hcell, fun u hu => ?_⟩
    obtain ⟨j, hj⟩ := List.getElem?_of_mem hu
    have hlt := (List.getElem?_eq_some_iff.1 hj).1
    simp only [Value.cells, Array.length_toList] at hlt
    obtain ⟨u', hu', hr'⟩ := hcell j ((AV.cellsL xs)[j]'(by omega)) (List.getElem?_eq_getElem _)
    simp [Value.cells] at hj
    rw [hj] at hu'; cases hu'
    obtain ⟨l1, l2⟩ := AV.cellsL_leaves H xs (by simpa only [AV.solid] using hs) _ (List.getElem_mem (l := AV.cellsL xs) (by omega : j < (AV.cellsL xs).length))
    exact hr'.oneCell h l1 l2
  | any => simp [AV.solid] at hs
  | und => simp [AV.solid] at hs
  | tup _ => simp [AV.solid] at hs
  | own i => exact leaf rfl rfl rfl
  | sub _ _ _ _ _ _ => exact leaf rfl rfl rfl
  | ptr _ _ _ => exact leaf rfl rfl rfl
  | ip _ => exact leaf rfl rfl rfl
  | ex _ => exact leaf rfl rfl rfl
  | clo _ _ => exact leaf rfl rfl rfl

/-- A value is well formed whenever something stands for it. -/
theorem RelA.wf {m : Mem} {x : AV} {v : Value} (h : RelA m x v) : x.wf := by
  cases h with
  | t h => simpa only [AV.wf] using h.wf
  | st hw => simpa only [AV.wf] using hw
  | _ => trivial

end Go.Fw

end
