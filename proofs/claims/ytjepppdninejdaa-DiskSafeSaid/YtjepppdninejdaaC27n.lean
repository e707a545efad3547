/- Chapter 27: acts as arguments. -/
import Derived.Test.YtjepppdninejdaaC27m
import Derived.Test.YtjepppdninejdaaFwX
namespace Go.Fw
open Go Go.Proofs
set_option linter.unusedVariables false
set_option linter.unusedSimpArgs false

def actSh : Sh := .st [.int .i64, .int .i64, .by, .bool, .sq 1 (.int .i64)]
def actsSh : Sh := .sq 5 actSh

theorem ints_of : ∀ xs : List T, (∀ x ∈ xs, (Sh.int .i64).has x) → ∃ ks : List Int, xs = ks.map (T.int .i64)
  | [], _ => ⟨[], rfl⟩
  | x :: xs, h => by
    obtain ⟨ks, rfl⟩ := ints_of xs (fun y hy => h y (by simp [hy]))
    have h1 := h x (by simp)
    cases x <;> simp only [Sh.has] at h1
    subst h1
    exact ⟨_ :: ks, rfl⟩

theorem act_of : ∀ x : T, actSh.has x → ∃ a : Act, x = actT a := by
  intro x h
  cases x <;> simp only [actSh, Sh.has] at h
  rename_i xs
  match xs, h with
  | [a, b, c, d, e], h =>
    simp only [Sh.hasL] at h
    obtain ⟨h1, h2, h3, h4, h5, _⟩ := h
    cases a <;> simp only [Sh.has] at h1
    cases b <;> simp only [Sh.has] at h2
    cases c <;> simp only [Sh.has] at h3
    cases d <;> simp only [Sh.has] at h4
    cases e <;> simp only [Sh.has] at h5
    subst h1; subst h2
    obtain ⟨rfl, h5⟩ := h5
    obtain ⟨ks, rfl⟩ := ints_of _ h5
    exact ⟨⟨_, _, _, _, ks⟩, rfl⟩
  | [], h => simp [Sh.hasL] at h
  | [_], h => simp [Sh.hasL] at h
  | [_, _], h => simp [Sh.hasL] at h
  | [_, _, _], h => simp [Sh.hasL] at h
  | [_, _, _, _], h => simp [Sh.hasL] at h
  | _ :: _ :: _ :: _ :: _ :: _ :: _, h => simp [Sh.hasL] at h

theorem acts_of {x : T} (h : actsSh.has x) : ∃ al : List Act, x = .sq 5 (al.map actT) := by
  cases x <;> simp only [actsSh, Sh.has] at h
  rename_i sz xs
  obtain ⟨rfl, h⟩ := h
  have : ∃ al : List Act, xs = al.map actT := by
    induction xs with
    | nil => exact ⟨[], rfl⟩
    | cons y ys ih =>
      obtain ⟨al, rfl⟩ := ih (fun z hz => h z (by simp [hz]))
      obtain ⟨a, rfl⟩ := act_of y (h y (by simp))
      exact ⟨a :: al, rfl⟩
  obtain ⟨al, rfl⟩ := this
  exact ⟨al, rfl⟩

def actsT (al : List Act) : T := .sq 5 (al.map actT)

end Go.Fw
