/- The abstract machine, and the contracts of the code: part 50. -/
import Derived.Test.YtchljppcenckaaaFwTk

section
/- Lists gone through one by one: all, the first, alike. Plain laws. -/
namespace Go.Fw
open Go
set_option linter.unusedVariables false
set_option linter.unusedSimpArgs false
variable {α : Type}

theorem all_take (p : α → Bool) (d : α) (l : List α) (k : Nat) (h : k < l.length) : (l.take (k + 1)).all p = ((l.take k).all p && p (l.getD k d)) := by
  rw [take_getDx d l k h]; simp
theorem all_getD (p : α → Bool) (d : α) (l : List α) (k : Nat) (h : k < l.length) (hp : p (l.getD k d) = false) : l.all p = false := by
  have hm : l.getD k d ∈ l := by simp [h]
  cases e : l.all p with
  | false => rfl
  | true =>
    rw [List.all_eq_true] at e
    have h9 := e _ hm
    rw [hp] at h9; cases h9
theorem drop_getD (d : α) (l : List α) (k : Nat) (h : k < l.length) : l.drop k = l.getD k d :: l.drop (k + 1) := by
  rw [List.drop_eq_getElem_cons h]; simp [h]

/-- The place of the first one; -1: there is none. -/
def fstI (p : α → Bool) : List α → Nat → Int
  | [], _ => -1
  | x :: l, k => if p x = true then (k : Int) else fstI p l (k + 1)
theorem fstI_any (p : α → Bool) : ∀ (l : List α) (k : Nat), decide (0 ≤ fstI p l k) = l.any p
  | [], k => rfl
  | x :: l, k => by
    unfold fstI
    rw [List.any_cons]
    cases p x
    · simp only [Bool.false_eq_true, if_false, Bool.false_or]; exact fstI_any p l (k + 1)
    · simp only [if_true, Bool.true_or]; simp
theorem fstI_yes (p : α → Bool) (d : α) (l : List α) (k : Nat) (h : k < l.length) (hp : p (l.getD k d) = true) : fstI p (l.drop k) k = (k : Int) := by
  rw [drop_getD d l k h, fstI, if_pos hp]
theorem fstI_no (p : α → Bool) (d : α) (l : List α) (k : Nat) (h : k < l.length) (hp : p (l.getD k d) = false) : fstI p (l.drop k) k = fstI p (l.drop (k + 1)) (k + 1) := by
  rw [drop_getD d l k h, fstI, if_neg (by rw [hp]; exact Bool.false_ne_true)]
theorem fstI_end (p : α → Bool) (l : List α) : fstI p (l.drop l.length) l.length = -1 := by rw [List.drop_length]; rfl

theorem getD_ne (d : α) {l m : List α} (k : Nat) (h : l.getD k d ≠ m.getD k d) : l ≠ m := fun e => h (by rw [e])
theorem take_eq_succ (d : α) {l m : List α} {k : Nat} (h1 : k < l.length) (h2 : k < m.length) (h : l.take k = m.take k) (e : l.getD k d = m.getD k d) : l.take (k + 1) = m.take (k + 1) := by
  rw [take_getDx d l k h1, take_getDx d m k h2, h, e]
theorem take_eq_all {l m : List α} (hl : l.length = m.length) (h : l.take l.length = m.take l.length) : l = m := by
  rw [List.take_length, hl, List.take_length] at h; exact h

def longB (x : List UInt8) : Bool := decide (1000 < (x.length : Int))
theorem scrOk_long (x : TOut) : scrOk x = !longB x.scr := by
  unfold scrOk longB
  by_cases h : x.scr.length ≤ 1000
  · have : ¬ (1000 < (x.scr.length : Int)) := by omega
    simp [h, this]
  · have : (1000 < (x.scr.length : Int)) := by omega
    simp [h, this]
theorem witOk_long (x : TIn) : witOk x = (!(decide (30 < (x.wit.length : Int)) || x.wit.any longB)) := by
  unfold witOk
  have e1 : decide (x.wit.length ≤ 30) = !decide (30 < (x.wit.length : Int)) := by
    by_cases h : x.wit.length ≤ 30
    · have : ¬ (30 < (x.wit.length : Int)) := by omega
      simp [h, this]
    · have : (30 < (x.wit.length : Int)) := by omega
      simp [h, this]
  have e2 : (x.wit.all fun y => decide (y.length ≤ 1000)) = !x.wit.any longB := by
    rw [List.not_any_eq_all_not]
    congr 1
    funext y
    exact scrOk_long ⟨0, y⟩
  rw [e1, e2, Bool.not_or]
theorem countsB_eq (t : TTx) : countsB t = (decide (t.ins.length ≤ 20) && decide (t.outs.length ≤ 20) && t.outs.all scrOk && t.ins.all witOk) := rfl

theorem wits_nil (l : List TIn) : wits l [] = l := by cases l <;> rfl
theorem wits_at : ∀ (l : List TIn) (k : List (List (List UInt8))), k.length < l.length → (wits l k).getD k.length dIn = l.getD k.length dIn
  | [], _, h => by simp at h
  | x :: l, [], h => by rw [wits_nil]
  | x :: l, w :: k, h => by
    simp only [wits, List.length_cons, List.getD_cons_succ]
    exact wits_at l k (by simpa using h)
theorem wits_snoc : ∀ (l : List TIn) (k : List (List (List UInt8))) (w : List (List UInt8)), k.length < l.length → (wits l k).set k.length ⟨(l.getD k.length dIn).prev, (l.getD k.length dIn).idx, (l.getD k.length dIn).seq, w⟩ = wits l (k ++ [w])
  | [], _, _, h => by simp at h
  | x :: l, [], w, h => by rw [wits_nil]; simp [wits, wits_nil]
  | x :: l, v :: k, w, h => by
    simp only [wits, List.length_cons, List.getD_cons_succ, List.set_cons_succ, List.cons_append]
    rw [wits_snoc l k w (by simpa using h)]
theorem wits_set (l : List TIn) (k : List (List (List UInt8))) (w : List (List UInt8)) (i : Nat) (hi : k.length = i) (h : i < l.length) :
    ((wits l k).map inT).getD i default = inT ⟨(l.getD i dIn).prev, (l.getD i dIn).idx, (l.getD i dIn).seq, (l.getD i dIn).wit⟩ ∧
    ((wits l k).map inT).set i (inT ⟨(l.getD i dIn).prev, (l.getD i dIn).idx, (l.getD i dIn).seq, w⟩) = (wits l (k ++ [w])).map inT := by
  subst hi
  refine ⟨?_, ?_⟩
  · rw [in_getD _ _ (by rw [wits_len]; exact h), wits_at l k h]
  · rw [← List.map_set, wits_snoc l k w h]

def scrS (x : TOut) : Bool := decide (x.scr.length ≤ 600)
def witS (x : TIn) : Bool := decide (x.wit.length ≤ 6) && x.wit.all fun y => decide (y.length ≤ 600)
theorem smallT_eq (t : TTx) : smallT t = (decide (t.ins.length ≤ 6) && decide (t.outs.length ≤ 6) && t.outs.all scrS && t.ins.all witS) := rfl
theorem small_counts {t : TTx} (h : smallT t = true) : countsB t = true := by
  obtain ⟨h1, h2, h3, h4⟩ := smallT_ok h
  simp only [countsB, Bool.and_eq_true, decide_eq_true_eq, List.all_eq_true, scrOk, witOk]
  exact ⟨⟨⟨by omega, by omega⟩, fun x hx => by have := h3 x hx; omega⟩, fun x hx => ⟨by have := (h4 x hx).1; omega, fun y hy => by have := (h4 x hx).2 y hy; omega⟩⟩
theorem all_get {α : Type} (p : α → Bool) (d : α) (l : List α) (k : Nat) (h : k < l.length) (hl : l.all p = true) : p (l.getD k d) = true := by
  rw [List.all_eq_true] at hl
  exact hl _ (by simp [h])

end Go.Fw

end
