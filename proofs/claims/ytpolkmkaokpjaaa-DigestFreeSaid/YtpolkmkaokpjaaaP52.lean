/- The abstract machine, and the contracts of the code: part 52. -/
import Derived.Test.YtpolkmkaokpjaaaP51

section
/- Transactions whose inputs are turned. Plain laws. -/
namespace Go.Fw
open Go
set_option linter.unusedVariables false
set_option linter.unusedSimpArgs false

/-- The first ones turned, the others as they were. -/
def mixI {α : Type} (f : α → α) (i : Nat) (l : List α) : List α := (l.take i).map f ++ l.drop i
theorem mixI_0 {α : Type} (f : α → α) (l : List α) : mixI f 0 l = l := by simp [mixI]
theorem mixI_all {α : Type} (f : α → α) (l : List α) : mixI f l.length l = l.map f := by simp [mixI]
theorem mixI_len {α : Type} (f : α → α) (i : Nat) (l : List α) : (mixI f i l).length = l.length := by simp [mixI]; omega
theorem mixI_get {α : Type} (f : α → α) (d : α) {i : Nat} {l : List α} (h : i < l.length) : (mixI f i l).getD i d = l.getD i d := by
  unfold mixI
  simp [List.getD_eq_getElem?_getD, List.getElem?_append, h, Nat.min_eq_left (Nat.le_of_lt h)]
theorem mixI_set {α : Type} (f : α → α) (d : α) {i : Nat} {l : List α} (h : i < l.length) : (mixI f i l).set i (f (l.getD i d)) = mixI f (i + 1) l := by
  unfold mixI
  have hl : ((l.take i).map f).length = i := by simp; omega
  rw [List.set_append_right _ _ (by omega), hl, Nat.sub_self, take_getDx d l i h, List.map_append, List.append_assoc]
  congr 1
  rw [drop_getD d l i h, List.set_cons_zero]; rfl
theorem map_set' {α β : Type} (g : α → β) (l : List α) (i : Nat) (x : α) : (l.map g).set i (g x) = (l.set i x).map g := (List.map_set).symm

theorem sizeB_one (n : Int) : 1 ≤ (sizeB n).length := by
  unfold sizeB; repeat' split
  all_goals (simp only [List.length_append, le_len]; omega)
theorem cat_strip (f : TIn → TIn) (hf : ∀ x, (f x).wit = []) (l : List TIn) : (cat witB (l.map f)).length ≤ (cat witB l).length := by
  induction l with
  | nil => exact Nat.le_refl _
  | cons x l ih =>
    rw [List.map_cons, cat_cons, cat_cons, List.length_append, List.length_append]
    have h1 : (witB (f x)).length = 1 := by
      have e : witB (f x) = sizeB 0 := by unfold witB; rw [hf]; simp [flat]
      rw [e]; decide +kernel
    have h2 : 1 ≤ (witB x).length := by
      have := sizeB_one (x.wit.length : Int)
      unfold witB; rw [List.length_append]; omega
    omega
theorem fits_strip {t : TTx} (f : TIn → TIn) (hf : ∀ x, (f x).wit = []) (h : fitsB t = true) : fitsB ⟨t.ver, t.ins.map f, t.outs, t.lock⟩ = true := by
  simp only [fitsB, Bool.and_eq_true, decide_eq_true_eq] at h ⊢
  obtain ⟨h0, h5⟩ := h
  obtain ⟨h1, h2, h3, h4⟩ := countsB_ok h0
  constructor
  · have e1 : (t.ins.map f).length = t.ins.length := List.length_map ..
    have e3 : (t.ins.map f).all witOk = true := by
      rw [List.all_eq_true]
      intro x hx
      obtain ⟨y, hy, rfl⟩ := List.mem_map.1 hx
      unfold witOk; rw [hf]; rfl
    have e4 : t.outs.all scrOk = true := by
      rw [List.all_eq_true]
      intro x hx
      exact decide_eq_true (h3 x hx)
    unfold countsB
    dsimp only
    rw [e1, e3, e4, decide_eq_true h1, decide_eq_true h2]; rfl
  · have e5 := cat_strip f hf t.ins
    have e6 := cat_in_len t.ins
    have e7 := cat_in_len (t.ins.map f)
    rw [List.length_map] at e7
    simp only [wholeB, bareB, List.length_append, List.length_map] at h5 ⊢
    omega

end Go.Fw

end
