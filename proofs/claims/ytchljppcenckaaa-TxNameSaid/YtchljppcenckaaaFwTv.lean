/- The abstract machine, and the contracts of the code: part 52. -/
import Derived.Test.YtchljppcenckaaaFwU8

section
/- A transaction as an argument. Plain. -/
namespace Go.Fw
open Go
set_option linter.unusedVariables false
set_option linter.unusedSimpArgs false

abbrev shIn : Sh := .st [.st [.ba 32, .int .u32], .int .u32, .sq 1 .by]
abbrev shOut : Sh := .st [.int .u64, .by]
abbrev shTx : Sh := .st [.int .u32, .sq 35 shIn, .sq 2 shOut, .int .u32]

theorem list_of {α : Type} {f : α → T} {P : T → Prop} (hf : ∀ x, P x → x.wf → ∃ a, x = f a) : ∀ xs : List T, (∀ x ∈ xs, P x) → T.wfL xs → ∃ l : List α, xs = l.map f
  | [], _, _ => ⟨[], rfl⟩
  | x :: xs, h, hw => by
    obtain ⟨hw1, hw2⟩ := (by simpa only [T.wfL] using hw : x.wf ∧ T.wfL xs)
    obtain ⟨a, rfl⟩ := hf x (h x (by simp)) hw1
    obtain ⟨l, rfl⟩ := list_of hf xs (fun y hy => h y (by simp [hy])) hw2
    exact ⟨a :: l, rfl⟩
theorem by_of (x : T) (h : Sh.by.has x) (hw : x.wf) : ∃ a, x = .by a := by
  cases x <;> simp only [Sh.has] at h
  exact ⟨_, rfl⟩
theorem u32_shp {x : T} (h : (Sh.int .u32).has x) (hw : x.wf) : ∃ a : UInt32, x = .int .u32 (a.toNat : Int) := by
  cases x <;> simp only [Sh.has] at h
  rename_i k v
  subst h
  have hv := (inKb_iff .u32 v).2 (by simpa only [T.wf] using hw)
  have h1 : 0 ≤ v ∧ v < 4294967296 := by simp only [inKb, Bool.and_eq_true, decide_eq_true_eq] at hv; omega
  refine ⟨UInt32.ofNat v.toNat, ?_⟩
  rw [UInt32.toNat_ofNat']
  congr 1; omega
theorem u64_shp {x : T} (h : (Sh.int .u64).has x) (hw : x.wf) : ∃ a : UInt64, x = .int .u64 (a.toNat : Int) := by
  cases x <;> simp only [Sh.has] at h
  rename_i k v
  subst h
  have hv := (inKb_iff .u64 v).2 (by simpa only [T.wf] using hw)
  have h1 : 0 ≤ v ∧ v < 18446744073709551616 := by simp only [inKb, Bool.and_eq_true, decide_eq_true_eq] at hv; omega
  refine ⟨UInt64.ofNat v.toNat, ?_⟩
  rw [UInt64.toNat_ofNat']
  congr 1; omega
theorem h32_of {x : T} (h : (Sh.ba 32).has x) : ∃ a : H32, x = .ba 32 a.1 := by
  cases x <;> simp only [Sh.has] at h
  obtain ⟨rfl, h2⟩ := h
  exact ⟨⟨_, h2⟩, rfl⟩
theorem hasL1 {a : Sh} {l : List Sh} {xs : List T} (h : Sh.hasL (a :: l) xs) : ∃ x ys, xs = x :: ys ∧ a.has x ∧ Sh.hasL l ys := by
  cases xs <;> simp only [Sh.hasL] at h
  exact ⟨_, _, rfl, h.1, h.2⟩
theorem hasL0 {xs : List T} (h : Sh.hasL [] xs) : xs = [] := by
  cases xs <;> simp only [Sh.hasL] at h
  rfl
theorem wfL1 {x : T} {ys : List T} (h : T.wfL (x :: ys)) : x.wf ∧ T.wfL ys := by simpa only [T.wfL] using h
theorem in_of (x : T) (h : shIn.has x) (hw : x.wf) : ∃ a, x = inT a := by
  cases x <;> simp only [Sh.has] at h
  simp only [T.wf] at hw
  obtain ⟨r, ys, rfl, h1, h2⟩ := hasL1 h
  obtain ⟨q, ys, rfl, h3, h4⟩ := hasL1 h2
  obtain ⟨w, ys, rfl, h5, h6⟩ := hasL1 h4
  obtain rfl := hasL0 h6
  obtain ⟨w1, hw⟩ := wfL1 hw
  obtain ⟨w2, hw⟩ := wfL1 hw
  obtain ⟨w3, hw⟩ := wfL1 hw
  cases r <;> simp only [Sh.has] at h1
  simp only [T.wf] at w1
  obtain ⟨hh, ys, rfl, g1, g2⟩ := hasL1 h1
  obtain ⟨i, ys, rfl, g3, g4⟩ := hasL1 g2
  obtain rfl := hasL0 g4
  obtain ⟨w4, w1⟩ := wfL1 w1
  obtain ⟨w5, w1⟩ := wfL1 w1
  obtain ⟨a, rfl⟩ := h32_of g1
  obtain ⟨b, rfl⟩ := u32_shp g3 w5
  obtain ⟨c, rfl⟩ := u32_shp h3 w2
  cases w <;> simp only [Sh.has] at h5
  obtain ⟨rfl, h5⟩ := h5
  simp only [T.wf] at w3
  obtain ⟨l, rfl⟩ := list_of by_of _ h5 w3.2.2.2
  exact ⟨⟨a, b, c, l⟩, rfl⟩
theorem out_of (x : T) (h : shOut.has x) (hw : x.wf) : ∃ a, x = outT a := by
  cases x <;> simp only [Sh.has] at h
  simp only [T.wf] at hw
  obtain ⟨v, ys, rfl, h1, h2⟩ := hasL1 h
  obtain ⟨s, ys, rfl, h3, h4⟩ := hasL1 h2
  obtain rfl := hasL0 h4
  obtain ⟨w1, hw⟩ := wfL1 hw
  obtain ⟨w2, hw⟩ := wfL1 hw
  obtain ⟨a, rfl⟩ := u64_shp h1 w1
  obtain ⟨b, rfl⟩ := by_of s h3 w2
  exact ⟨⟨a, b⟩, rfl⟩
theorem tx_of {x : T} (h : shTx.has x) (hw : x.wf) : ∃ a, x = txT a := by
  cases x <;> simp only [Sh.has] at h
  simp only [T.wf] at hw
  obtain ⟨v, ys, rfl, h1, h2⟩ := hasL1 h
  obtain ⟨is, ys, rfl, h3, h4⟩ := hasL1 h2
  obtain ⟨os, ys, rfl, h5, h6⟩ := hasL1 h4
  obtain ⟨k, ys, rfl, h7, h8⟩ := hasL1 h6
  obtain rfl := hasL0 h8
  obtain ⟨w1, hw⟩ := wfL1 hw
  obtain ⟨w2, hw⟩ := wfL1 hw
  obtain ⟨w3, hw⟩ := wfL1 hw
  obtain ⟨w4, hw⟩ := wfL1 hw
  obtain ⟨a, rfl⟩ := u32_shp h1 w1
  obtain ⟨b, rfl⟩ := u32_shp h7 w4
  cases is <;> simp only [Sh.has] at h3
  obtain ⟨rfl, h3⟩ := h3
  simp only [T.wf] at w2
  obtain ⟨l, rfl⟩ := list_of in_of _ h3 w2.2.2.2
  cases os <;> simp only [Sh.has] at h5
  obtain ⟨rfl, h5⟩ := h5
  simp only [T.wf] at w3
  obtain ⟨m, rfl⟩ := list_of out_of _ h5 w3.2.2.2
  exact ⟨⟨a, l, m, b⟩, rfl⟩

end Go.Fw

end
