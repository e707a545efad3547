/- The abstract machine, and the contracts of the code: part 51. -/
import Derived.Test.YtlhghhkcoaglnaaP50

section
/- Acts on a store, as arguments. Plain. -/
namespace Go.Fw
open Go
set_option linter.unusedVariables false
set_option linter.unusedSimpArgs false

structure TAct where
  k : Int
  n : Int
  b : List UInt8
  ks : List Int
def actT (a : TAct) : T := .st [.int .i64 a.k, .int .i64 a.n, .by a.b, .sq 1 (a.ks.map (T.int .i64))]
def actsT (l : List TAct) : T := .sq 4 (l.map actT)
theorem ints_inj {a b : List Int} (h : a.map (T.int .i64) = b.map (T.int .i64)) : a = b := by
  have := asInts_map a
  rw [h, asInts_map] at this
  exact (Option.some.inj this).symm
theorem actT_inj (a b : TAct) (h : actT a = actT b) : a = b := by
  obtain ⟨k, n, c, ks⟩ := a
  obtain ⟨k', n', c', ks'⟩ := b
  simp only [actT, T.st.injEq, List.cons.injEq, T.int.injEq, T.by.injEq, T.sq.injEq, true_and, and_true] at h
  obtain ⟨h1, h2, h3, h4⟩ := h
  rw [h1, h2, h3, ints_inj h4]
theorem actsT_inj (a b : List TAct) (h : actsT a = actsT b) : a = b := by
  simp only [actsT, T.sq.injEq, true_and] at h
  induction a generalizing b with
  | nil => cases b with
    | nil => rfl
    | cons y b => simp at h
  | cons x a ih => cases b with
    | nil => simp at h
    | cons y b =>
      simp only [List.map_cons, List.cons.injEq] at h
      rw [actT_inj _ _ h.1, ih _ h.2]
abbrev shAct : Sh := .st [.int .i64, .int .i64, .by, .sq 1 (.int .i64)]
theorem i64_of (x : T) (h : (Sh.int .i64).has x) (hw : x.wf) : ∃ a : Int, x = .int .i64 a := by
  cases x <;> simp only [Sh.has] at h
  rename_i k v
  subst h
  exact ⟨v, rfl⟩
theorem act_of (x : T) (h : shAct.has x) (hw : x.wf) : ∃ a, x = actT a := by
  cases x <;> simp only [Sh.has] at h
  simp only [T.wf] at hw
  obtain ⟨a, ys, rfl, h1, h2⟩ := hasL1 h
  obtain ⟨b, ys, rfl, h3, h4⟩ := hasL1 h2
  obtain ⟨c, ys, rfl, h5, h6⟩ := hasL1 h4
  obtain ⟨d, ys, rfl, h7, h8⟩ := hasL1 h6
  obtain rfl := hasL0 h8
  obtain ⟨w1, hw⟩ := wfL1 hw
  obtain ⟨w2, hw⟩ := wfL1 hw
  obtain ⟨w3, hw⟩ := wfL1 hw
  obtain ⟨w4, hw⟩ := wfL1 hw
  obtain ⟨a, rfl⟩ := i64_of a h1 w1
  obtain ⟨b, rfl⟩ := i64_of b h3 w2
  obtain ⟨c, rfl⟩ := by_of c h5 w3
  cases d <;> simp only [Sh.has] at h7
  obtain ⟨rfl, h7⟩ := h7
  simp only [T.wf] at w4
  obtain ⟨l, rfl⟩ := list_of i64_of _ h7 w4.2.2.2
  exact ⟨⟨a, b, c, l⟩, rfl⟩
theorem acts_of {x : T} (h : (Sh.sq 4 shAct).has x) (hw : x.wf) : ∃ l : List TAct, x = actsT l := by
  cases x <;> simp only [Sh.has] at h
  obtain ⟨rfl, h⟩ := h
  simp only [T.wf] at hw
  obtain ⟨l, rfl⟩ := list_of act_of _ h hw.2.2.2
  exact ⟨l, rfl⟩
theorem acts_wf {l : List TAct} (h : (actsT l).wf) {i : Nat} {a : TAct} (ha : l[i]? = some a) : -9223372036854775808 ≤ a.n ∧ a.n ≤ 9223372036854775807 ∧ a.b.length ≤ maxLen := by
  simp only [actsT, T.wf] at h
  have := (T.wfL_iff _).1 h.2.2.2 (actT a) (List.mem_map_of_mem (List.mem_of_getElem? ha))
  simp only [actT, T.wf, T.wfL] at this
  obtain ⟨_, h2, h3, _⟩ := this
  exact ⟨h2.1, h2.2, h3⟩
def dAct : TAct := ⟨0, 0, [], []⟩
theorem act_getD (l : List TAct) (i : Nat) (h : i < l.length) : (l.map actT).getD i default = actT (l.getD i dAct) := by simp [h]
def smA (a : TAct) : Bool := decide (a.b.length ≤ 300) && decide (a.ks.length ≤ 100)

/-- What an act saves. -/
def imgN (n : Int) : Nat := (abits .and .i64 n 4095).toNat
theorem imgN_n (n : Int) : abits .and .i64 n 4095 = ((imgN n : Nat) : Int) ∧ imgN n ≤ 4095 := by
  have hp : ∃ a : Nat, abits .and .i64 n 4095 = IntKind.i64.wrap ((a &&& 4095 : Nat) : Int) := ⟨_, rfl⟩
  obtain ⟨a, ha⟩ := hp
  have h63 : a &&& 4095 ≤ 4095 := Nat.and_le_right
  rw [wrap_i64 (by omega) (by omega)] at ha
  unfold imgN
  rw [ha]
  exact ⟨by omega, by omega⟩
def imgF (b : List UInt8) (m i : Nat) : List UInt8 := (List.range i).map (fun j => b.getD (j % b.length) 0) ++ List.replicate (m - i) 0
def imgB (n : Int) (b : List UInt8) : List UInt8 := if b = [] then List.replicate (imgN n) 0 else imgF b (imgN n) (imgN n)
theorem imgF_len (b : List UInt8) (m i : Nat) (h : i ≤ m) : (imgF b m i).length = m := by simp [imgF]; omega
theorem imgB_len (n : Int) (b : List UInt8) : (imgB n b).length ≤ 4095 := by
  have := (imgN_n n).2
  unfold imgB
  split
  · simp; omega
  · rw [imgF_len _ _ _ (Nat.le_refl _)]; omega
theorem imgF_step (b : List UInt8) (m i : Nat) (h : i < m) : imgF b m (i + 1) = (imgF b m i).set i (b.getD (i % b.length) 0) := by
  unfold imgF
  rw [List.set_append, if_neg (by simp), List.range_succ, List.map_append]
  simp only [List.length_map, List.length_range, Nat.sub_self, List.map_cons, List.map_nil, List.append_assoc]
  congr 1
  rw [show m - i = (m - (i + 1)) + 1 by omega, List.replicate_succ, List.set_cons_zero]
  rfl

end Go.Fw

end
