/- The abstract machine, and the contracts of the code: part 48. -/
import Derived.Test.YtchljppcenckaaaFwTx

section
/- What is read off bytes, one behind the other: readers that note their first error; there and back. Plain laws. -/
namespace Go.Fw
open Go
set_option linter.unusedVariables false
set_option linter.unusedSimpArgs false

/-- What a reading tells. -/
inductive Res (α : Type) where
  | ok (x : α) (r : List UInt8)
  | err (e : Int)
abbrev Rdg (α : Type) := List UInt8 → Res α

section
variable {α β γ : Type}

def pbind (p : Rdg α) (q : α → Rdg β) : Rdg β := fun b => match p b with
  | .ok x r => q x r
  | .err e => .err e
def ppure (x : α) : Rdg α := fun b => .ok x b
/-- So many, one behind the other. -/
def pN (p : Rdg α) : Nat → Rdg (List α)
  | 0 => ppure []
  | n + 1 => pbind p fun x => pbind (pN p n) fun l => ppure (x :: l)
/-- A taking, as a reading. -/
def ofT (t : List UInt8 → α × List UInt8 × Int) : Rdg α := fun b => if (t b).2.2 = 0 then .ok (t b).1 (t b).2.1 else .err (t b).2.2

theorem pbind_ok {p : Rdg α} {q : α → Rdg β} {b : List UInt8} {x : α} {r : List UInt8} (h : p b = .ok x r) : pbind p q b = q x r := by unfold pbind; rw [h]
theorem pbind_err {p : Rdg α} {q : α → Rdg β} {b : List UInt8} {e : Int} (h : p b = .err e) : pbind p q b = .err e := by unfold pbind; rw [h]
theorem ofT_ok {t : List UInt8 → α × List UInt8 × Int} {b : List UInt8} {x : α} {r : List UInt8} : ofT t b = .ok x r ↔ t b = (x, r, 0) := by
  unfold ofT
  constructor
  · intro h
    split at h
    · rename_i he
      cases h
      exact Prod.ext rfl (Prod.ext rfl he)
    · cases h
  · intro h; rw [if_pos (by rw [h]), h]
theorem ofT_err {t : List UInt8 → α × List UInt8 × Int} {b : List UInt8} {e : Int} : ofT t b = .err e ↔ (t b).2.2 = e ∧ e ≠ 0 := by
  unfold ofT
  constructor
  · intro h
    split at h
    · cases h
    · rename_i he; cases h; exact ⟨rfl, he⟩
  · rintro ⟨rfl, h⟩; rw [if_neg h]

/-! ### A reader that notes its first error. -/

structure RSt where
  (b : List UInt8) (e : Int)
structure Good (f : RSt → α × RSt) (p : Rdg α) : Prop where
  ok : ∀ b x r, p b = .ok x r → f ⟨b, 0⟩ = (x, ⟨r, 0⟩)
  err : ∀ b e, p b = .err e → e ≠ 0 ∧ (f ⟨b, 0⟩).2.e = e
  stick : ∀ s, s.e ≠ 0 → (f s).2.e = s.e

theorem Good.bind {f : RSt → α × RSt} {p : Rdg α} {g : α → RSt → β × RSt} {q : α → Rdg β} (hf : Good f p) (hg : ∀ x, Good (g x) (q x)) : Good (fun s => g (f s).1 (f s).2) (pbind p q) where
  ok b y r h := by
    unfold pbind at h
    split at h
    · rename_i x r' hp
      rw [hf.ok b x r' hp]
      exact (hg x).ok r' y r h
    · cases h
  err b e h := by
    unfold pbind at h
    split at h
    · rename_i x r' hp
      rw [hf.ok b x r' hp]
      exact (hg x).err r' e h
    · rename_i e' hp
      cases h
      obtain ⟨h1, h2⟩ := hf.err b e hp
      exact ⟨h1, by rw [(hg _).stick _ (by rw [h2]; exact h1), h2]⟩
  stick s h := by
    have h1 := hf.stick s h
    rw [(hg _).stick _ (by rw [h1]; exact h), h1]
theorem Good.pure (x : α) : Good (fun s => (x, s)) (ppure x) where
  ok b y r h := by cases h; rfl
  err b e h := by cases h
  stick s h := rfl
theorem Good.congr {f g : RSt → α × RSt} {p : Rdg α} (h : Good f p) (e : ∀ s, g s = f s) : Good g p := by
  obtain rfl : g = f := funext e
  exact h

def rdN (f : RSt → α × RSt) : Nat → RSt → List α × RSt
  | 0, s => ([], s)
  | n + 1, s => ((f s).1 :: (rdN f n (f s).2).1, (rdN f n (f s).2).2)
theorem rdN_snoc (f : RSt → α × RSt) : ∀ (n : Nat) (s : RSt), rdN f (n + 1) s = ((rdN f n s).1 ++ [(f (rdN f n s).2).1], (f (rdN f n s).2).2)
  | 0, s => rfl
  | n + 1, s => by
    have := rdN_snoc f n (f s).2
    rw [rdN, this]
    rfl
theorem rdN_len (f : RSt → α × RSt) : ∀ (n : Nat) (s : RSt), (rdN f n s).1.length = n
  | 0, s => rfl
  | n + 1, s => by simp [rdN, rdN_len f n]
theorem Good.rep {f : RSt → α × RSt} {p : Rdg α} (hf : Good f p) : ∀ n, Good (rdN f n) (pN p n)
  | 0 => Good.pure []
  | n + 1 => by
    exact Good.congr (hf.bind (g := fun x s => (x :: (rdN f n s).1, (rdN f n s).2)) fun x => ((hf.rep n).bind (g := fun l s => (x :: l, s)) fun l => Good.pure (x :: l))) fun s => rfl

/-- The program's: at an error nothing is taken. -/
def rd (t : List UInt8 → α × List UInt8 × Int) (d : α) (s : RSt) : α × RSt :=
  if s.e ≠ 0 then (d, s) else if (t s.b).2.2 ≠ 0 then (d, ⟨s.b, (t s.b).2.2⟩) else ((t s.b).1, ⟨(t s.b).2.1, 0⟩)
/-- The document's: what is left is as the taking tells. -/
def rdD (t : List UInt8 → α × List UInt8 × Int) (d : α) (s : RSt) : α × RSt :=
  if s.e ≠ 0 then (d, s) else ((t s.b).1, ⟨(t s.b).2.1, (t s.b).2.2⟩)
theorem Good.rd (t : List UInt8 → α × List UInt8 × Int) (d : α) : Good (rd t d) (ofT t) where
  ok b x r h := by
    rw [ofT_ok] at h
    unfold Fw.rd
    dsimp only
    rw [if_neg (by simp), if_neg (by rw [h]; simp), h]
  err b e h := by
    rw [ofT_err] at h
    obtain ⟨h1, h2⟩ := h
    unfold Fw.rd
    dsimp only
    rw [if_neg (by simp), if_pos (by rw [h1]; exact h2)]
    exact ⟨h2, h1⟩
  stick s h := by unfold Fw.rd; rw [if_pos h]
theorem Good.rdD (t : List UInt8 → α × List UInt8 × Int) (d : α) : Good (rdD t d) (ofT t) where
  ok b x r h := by
    rw [ofT_ok] at h
    unfold Fw.rdD
    dsimp only
    rw [if_neg (by simp), h]
  err b e h := by
    rw [ofT_err] at h
    obtain ⟨h1, h2⟩ := h
    unfold Fw.rdD
    dsimp only
    rw [if_neg (by simp)]
    exact ⟨h2, h1⟩
  stick s h := by unfold Fw.rdD; rw [if_pos h]

/-! ### There and back. -/

structure Cod (p : Rdg α) (w : α → List UInt8) (ok : α → Prop) : Prop where
  put : ∀ x r, ok x → p (w x ++ r) = .ok x r
  only : ∀ b x r, p b = .ok x r → ok x ∧ w x ++ r = b
  cut : ∀ x k, ok x → k < (w x).length → p ((w x).take k) = .err 2

theorem Cod.pair {p : Rdg α} {w : α → List UInt8} {ok : α → Prop} {q : α → Rdg β} {v : α → β → List UInt8} {ok' : α → β → Prop} (hp : Cod p w ok) (hq : ∀ x, ok x → Cod (q x) (v x) (ok' x)) :
    Cod (pbind p fun x => pbind (q x) fun y => ppure (x, y)) (fun z => w z.1 ++ v z.1 z.2) (fun z => ok z.1 ∧ ok' z.1 z.2) where
  put z r h := by
    obtain ⟨h1, h2⟩ := h
    rw [List.append_assoc, pbind_ok (hp.put z.1 _ h1), pbind_ok ((hq z.1 h1).put z.2 r h2)]
    rfl
  only b z r h := by
    unfold pbind at h
    split at h
    · rename_i x r1 h1
      dsimp only at h
      split at h
      · rename_i y r2 h2
        cases h
        obtain ⟨k1, k2⟩ := hp.only _ _ _ h1
        obtain ⟨k3, k4⟩ := (hq x k1).only _ _ _ h2
        exact ⟨⟨k1, k3⟩, by dsimp only; rw [List.append_assoc, k4, k2]⟩
      · cases h
    · cases h
  cut z k h hk := by
    obtain ⟨h1, h2⟩ := h
    by_cases hw : k < (w z.1).length
    · rw [List.take_append_of_le_length (by omega), pbind_err (hp.cut z.1 k h1 hw)]
    · rw [List.take_append, List.take_of_length_le (by omega), pbind_ok (hp.put z.1 _ h1)]
      rw [List.length_append] at hk
      rw [pbind_err ((hq z.1 h1).cut z.2 _ h2 (by omega))]

theorem Cod.map {p : Rdg α} {w : α → List UInt8} {ok : α → Prop} (hp : Cod p w ok) (f : α → β) (g : β → α) (ok' : β → Prop) (h1 : ∀ x, ok x → g (f x) = x ∧ ok' (f x)) (h2 : ∀ y, ok' y → ok (g y) ∧ f (g y) = y) :
    Cod (pbind p fun x => ppure (f x)) (fun y => w (g y)) ok' where
  put y r h := by
    rw [pbind_ok (hp.put (g y) r (h2 y h).1), ppure, (h2 y h).2]
  only b y r h := by
    unfold pbind at h
    split at h
    · rename_i x r1 hx
      cases h
      obtain ⟨k1, k2⟩ := hp.only _ _ _ hx
      exact ⟨(h1 x k1).2, by rw [(h1 x k1).1, k2]⟩
    · cases h
  cut y k h hk := by rw [pbind_err (hp.cut (g y) k (h2 y h).1 hk)]

theorem Cod.rep {p : Rdg α} {w : α → List UInt8} {ok : α → Prop} (hp : Cod p w ok) : ∀ n, Cod (pN p n) (cat w) (fun l => l.length = n ∧ ∀ x ∈ l, ok x)
  | 0 => ⟨fun l r h => by obtain rfl := List.length_eq_zero_iff.1 h.1; rfl, fun b l r h => by cases h; simp [cat], fun l k h hk => by obtain rfl := List.length_eq_zero_iff.1 h.1; simp [cat] at hk⟩
  | n + 1 => by
    have ih := hp.rep n
    refine ⟨fun l r h => ?_, fun b l r h => ?_, fun l k h hk => ?_⟩
    · match l, h with
      | x :: l, ⟨h1, h2⟩ =>
        rw [cat_cons, List.append_assoc, pN, pbind_ok (hp.put x _ (h2 x (by simp))), pbind_ok (ih.put l r ⟨by simpa using h1, fun y hy => h2 y (by simp [hy])⟩)]
        rfl
    · unfold pN pbind at h
      split at h
      · rename_i x r1 h1
        dsimp only at h
        split at h
        · rename_i y r2 h2
          cases h
          obtain ⟨k1, k2⟩ := hp.only _ _ _ h1
          obtain ⟨⟨k3, k4⟩, k5⟩ := ih.only _ _ _ h2
          exact ⟨⟨by simp [k3], by simpa using ⟨k1, k4⟩⟩, by rw [cat_cons, List.append_assoc, k5, k2]⟩
        · cases h
      · cases h
    · match l, h with
      | x :: l, ⟨h1, h2⟩ =>
        rw [cat_cons] at hk ⊢
        rw [pN]
        by_cases hw : k < (w x).length
        · rw [List.take_append_of_le_length (by omega), pbind_err (hp.cut x k (h2 x (by simp)) hw)]
        · rw [List.take_append, List.take_of_length_le (by omega), pbind_ok (hp.put x _ (h2 x (by simp)))]
          rw [List.length_append] at hk
          rw [pbind_err (ih.cut l _ ⟨by simpa using h1, fun y hy => h2 y (by simp [hy])⟩ (by omega))]

/-- A taking's own laws. -/
theorem Cod.ofT {t : List UInt8 → α × List UInt8 × Int} {w : α → List UInt8} {ok : α → Prop} (h1 : ∀ x r, ok x → t (w x ++ r) = (x, r, 0)) (h2 : ∀ b, (t b).2.2 = 0 → ok (t b).1 ∧ w (t b).1 ++ (t b).2.1 = b)
    (h3 : ∀ x k, ok x → k < (w x).length → (t ((w x).take k)).2.2 = 2) : Cod (ofT t) w ok where
  put x r h := ofT_ok.2 (h1 x r h)
  only b x r h := by
    rw [ofT_ok] at h
    have := h2 b (by rw [h])
    rwa [h] at this
  cut x k h hk := ofT_err.2 ⟨h3 x k h hk, by decide⟩

theorem Cod.congr {p q : Rdg α} {w v : α → List UInt8} {ok ok' : α → Prop} (h : Cod p w ok) (e1 : ∀ b, q b = p b) (e2 : ∀ x, v x = w x) (e3 : ∀ x, ok' x ↔ ok x) : Cod q v ok' := by
  obtain rfl : q = p := funext e1
  obtain rfl : v = w := funext e2
  obtain rfl : ok' = ok := funext fun x => propext (e3 x)
  exact h
end

end Go.Fw

end
