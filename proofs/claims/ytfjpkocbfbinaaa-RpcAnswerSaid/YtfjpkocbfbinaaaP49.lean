/- The abstract machine, and the contracts of the code: part 49. -/
import Derived.Test.YtfjpkocbfbinaaaP48

section
/- Entries as arguments. Plain. -/
namespace Go.Fw
open Go
set_option linter.unusedVariables false
set_option linter.unusedSimpArgs false

abbrev shE : Sh := .st [.st [.ba 32, .int .u32], .int .u64, .int .i64, .int .i64, .int .u32, .ba 32]
theorem i64_shp {x : T} (h : (Sh.int .i64).has x) : ∃ a : Int, x = .int .i64 a := by
  cases x <;> simp only [Sh.has] at h
  rename_i k v
  subst h
  exact ⟨v, rfl⟩
theorem e_of (x : T) (h : shE.has x) (hw : x.wf) : ∃ a, x = eT a := by
  cases x <;> simp only [Sh.has] at h
  simp only [T.wf] at hw
  obtain ⟨a, ys, rfl, h1, h2⟩ := hasL1 h
  obtain ⟨b, ys, rfl, h3, h4⟩ := hasL1 h2
  obtain ⟨c, ys, rfl, h5, h6⟩ := hasL1 h4
  obtain ⟨d, ys, rfl, h7, h8⟩ := hasL1 h6
  obtain ⟨e, ys, rfl, h9, g1⟩ := hasL1 h8
  obtain ⟨f, ys, rfl, g2, g3⟩ := hasL1 g1
  obtain rfl := hasL0 g3
  obtain ⟨w1, hw⟩ := wfL1 hw
  obtain ⟨w2, hw⟩ := wfL1 hw
  obtain ⟨w3, hw⟩ := wfL1 hw
  obtain ⟨w4, hw⟩ := wfL1 hw
  obtain ⟨w5, hw⟩ := wfL1 hw
  cases a <;> simp only [Sh.has] at h1
  simp only [T.wf] at w1
  obtain ⟨a1, ys, rfl, k1, k2⟩ := hasL1 h1
  obtain ⟨a2, ys, rfl, k3, k4⟩ := hasL1 k2
  obtain rfl := hasL0 k4
  obtain ⟨v1, w1⟩ := wfL1 w1
  obtain ⟨v2, w1⟩ := wfL1 w1
  obtain ⟨a1, rfl⟩ := h32_of k1
  obtain ⟨a2, rfl⟩ := u32_shp k3 v2
  obtain ⟨b, rfl⟩ := u64_shp h3 w2
  obtain ⟨c, rfl⟩ := i64_shp h5
  obtain ⟨d, rfl⟩ := i64_shp h7
  obtain ⟨e, rfl⟩ := u32_shp h9 w5
  obtain ⟨f, rfl⟩ := h32_of g2
  exact ⟨⟨a1, a2, b, c, d, e, f⟩, rfl⟩
theorem ents_of {x : T} (h : (Sh.sq 69 shE).has x) (hw : x.wf) : ∃ l : List TE, x = .sq 69 (l.map eT) := by
  cases x <;> simp only [Sh.has] at h
  obtain ⟨rfl, h⟩ := h
  simp only [T.wf] at hw
  obtain ⟨l, rfl⟩ := list_of e_of _ h hw.2.2.2
  exact ⟨l, rfl⟩

end Go.Fw

end
