/- The abstract machine, and the contracts of the code: part 47. -/
import Derived.Test.YtdondljhboaibaaFwCb

section
/- Frames: plain laws, of any double hash. -/
namespace Go.Fw
open Go
set_option linter.unusedVariables false
set_option linter.unusedSimpArgs false

def mag : List UInt8 := [229, 29, 10, 23]
/-- Do bytes begin as a frame does, as far as they go? -/
def begF (b : List UInt8) : Bool := b.take (min b.length 4) == mag.take (min b.length 4)

section
variable (D : List UInt8 → List UInt8)

def sumF (p : List UInt8) : List UInt8 := (D p).take 4
def okC (c : Int) : Prop := 1 ≤ c ∧ c ≤ 9
instance (c : Int) : Decidable (okC c) := inferInstanceAs (Decidable (_ ∧ _))
/-- A frame. -/
def frm (c : UInt8) (p : List UInt8) : List UInt8 := mag ++ [c] ++ le 4 p.length ++ sumF D p ++ p
def encF (c : UInt8) (p : List UInt8) : List UInt8 × Int :=
  if ¬ okC c.toNat then ([], 56) else if 45000 < p.length then ([], 4) else (frm D c p, 0)
structure Fr where
  (c : UInt8) (p r : List UInt8) (e : Int)
def longF (b : List UInt8) : Nat := num ((b.drop 5).take 4)
def takF (b : List UInt8) : Fr :=
  if begF b = false then ⟨0, [], [], 54⟩ else if b.length < 13 then ⟨0, [], [], 2⟩ else if ¬ okC (b.getD 4 0).toNat then ⟨0, [], [], 56⟩
  else if 45000 < longF b then ⟨0, [], [], 4⟩ else if b.length - 13 < longF b then ⟨0, [], [], 2⟩
  else if sumF D ((b.drop 13).take (longF b)) ≠ (b.drop 9).take 4 then ⟨0, [], [], 55⟩
  else ⟨b.getD 4 0, (b.drop 13).take (longF b), (b.drop 13).drop (longF b), 0⟩

theorem takF_len (b : List UInt8) : (takF D b).p.length ≤ b.length ∧ (takF D b).r.length ≤ b.length := by
  unfold takF; repeat' split
  all_goals simp <;> omega
theorem takF_ok {b : List UInt8} (h : (takF D b).e = 0) : begF b = true ∧ 13 ≤ b.length ∧ okC (b.getD 4 0).toNat ∧ longF b ≤ 45000 ∧ longF b ≤ b.length - 13 ∧
    sumF D ((b.drop 13).take (longF b)) = (b.drop 9).take 4 ∧ takF D b = ⟨b.getD 4 0, (b.drop 13).take (longF b), (b.drop 13).drop (longF b), 0⟩ := by
  unfold takF at h ⊢
  by_cases h1 : begF b = false
  · rw [if_pos h1] at h; simp at h
  rw [if_neg h1] at h ⊢
  by_cases h2 : b.length < 13
  · rw [if_pos h2] at h; simp at h
  rw [if_neg h2] at h ⊢
  by_cases h3 : ¬ okC (b.getD 4 0).toNat
  · rw [if_pos h3] at h; simp at h
  rw [if_neg h3] at h ⊢
  by_cases h4 : 45000 < longF b
  · rw [if_pos h4] at h; simp at h
  rw [if_neg h4] at h ⊢
  by_cases h5 : b.length - 13 < longF b
  · rw [if_pos h5] at h; simp at h
  rw [if_neg h5] at h ⊢
  by_cases h6 : sumF D ((b.drop 13).take (longF b)) ≠ (b.drop 9).take 4
  · rw [if_pos h6] at h; simp at h
  rw [if_neg h6]
  exact ⟨by simpa using h1, by omega, by simpa using h3, by omega, by omega, by simpa using h6, rfl⟩
theorem takF_eat {b : List UInt8} (h : (takF D b).e = 0) : (takF D b).r.length + 13 ≤ b.length := by
  obtain ⟨_, h2, _, _, h5, _, h7⟩ := takF_ok D h
  rw [h7]; simp; omega

/-- All messages. -/
def allF (b : List UInt8) (acc : List (UInt8 × List UInt8)) : List (UInt8 × List UInt8) × List UInt8 × Int :=
  if b = [] then (acc, [], 0) else if h : (takF D b).e = 0 then allF (takF D b).r (acc ++ [((takF D b).c, (takF D b).p)]) else (acc, b, (takF D b).e)
termination_by b.length
decreasing_by have := takF_eat D h; omega

end

/-- Where the next frame may begin. -/
def findF (b : List UInt8) : Nat → Nat → Nat
  | 0, i => b.length
  | k + 1, i => if i < b.length then (if begF (b.drop i) then i else findF b k (i + 1)) else b.length

end Go.Fw

end
