/- The abstract machine, and the contracts of the code: part 44. -/
import Derived.Test.YtchljppcenckaaaFwSha

section
/- A box whose content holds only what is read only from now on. -/
namespace Go.Fw
open Go
set_option linter.unusedVariables false

theorem Weak.thawBx {kp N : Nat} {S : AS} {v : AV} {y : T} (i : Nat) (hi : S.H[i]? = some (.bx v)) (hy : immV S.H v = some y) : Weak kp N S ⟨S.s, S.H.set i (.bx (.t y))⟩ := by
  intro c hc m w a hinv hs
  refine ⟨m, ?_, hs⟩
  obtain ⟨b, cur, e, hd, hh, hM, hw, hcs, hcc⟩ := hinv.ok _ _ hi
  obtain ⟨k1, k2⟩ := immV_ok hinv v y hy
  obtain ⟨k3, k4⟩ := k2 (fun j d hd => by obtain ⟨u, _, hu⟩ := hcc j d hd; exact ⟨u, hu⟩) hw
  refine hinv.upd (w' := w) hi rfl rfl rfl rfl rfl (fun _ _ => rfl) ⟨b, cur, e, hd, hh, hM, by simpa only [AV.wf] using k3, by rw [hcs]; simpa only [AV.size] using k1.symm, fun j d hj => ?_⟩
  simp only [AV.cells, List.getElem?_map, Option.map_eq_some_iff] at hj
  obtain ⟨d', hd', rfl⟩ := hj
  obtain ⟨c', hc', hr⟩ := k4 j d' hd'
  obtain ⟨u, hu, hru⟩ := hcc j c' hc'
  exact ⟨u, hu, .t (hr u hru)⟩

/-- nil in a box, taken for an empty row that is read only. -/
theorem Weak.nilBx {kp N : Nat} {S : AS} {v v' : AV} (i : Nat) (p : List Nat) (o : Nat) (B : T) (hi : S.H[i]? = some (.bx v)) (hg : AV.get v p = some (.t .nil)) (ho : AV.off v p = some o) (hs' : AV.set v p (.t B) = some v')
    (hB : B = .by [] ∨ ∃ sz, 0 < sz ∧ B = .sq sz []) : Weak kp N S ⟨S.s, S.H.set i (.bx v')⟩ := by
  intro c hc m w a hinv hs
  refine ⟨m, ?_, hs⟩
  obtain ⟨b, cur, e, hd, hh, hM, hw, hcs, hcc⟩ := hinv.ok _ _ hi
  have hwB : B.wf := by rcases hB with rfl | ⟨sz, hsz, rfl⟩ <;> simp [T.wf, T.wfL, *]
  have hcB : B.cells = [B] := by rcases hB with rfl | ⟨sz, hsz, rfl⟩ <;> rfl
  have hsB : B.size = 1 := by rcases hB with rfl | ⟨sz, hsz, rfl⟩ <;> rfl
  obtain ⟨k1, k2, k3, k4⟩ := AV.set_ok p v _ _ v' o hw hg ho hs' (by simpa only [AV.wf] using hwB) (by simp only [AV.size, hsB]; rfl)
  have hold : ∀ j c', (AV.t T.nil).cells[j]? = some c' → v.cells[o + j]? = some c' := (AV.get_ok p v _ o hw hg ho).2
  refine hinv.upd (w' := w) hi rfl rfl rfl rfl rfl (fun _ _ => rfl) ⟨b, cur, e, hd, hh, hM, k1, by rw [hcs, k2], fun j d hj => ?_⟩
  rw [k4 j] at hj
  by_cases hr : o ≤ j ∧ j < o + (AV.t B).cells.length
  · rw [if_pos hr] at hj
    simp only [AV.cells, hcB, List.map_cons, List.map_nil, List.length_cons, List.length_nil] at hj hr
    have hj0 : j = o := by omega
    subst hj0
    simp at hj
    subst hj
    obtain ⟨u, hu, hru⟩ := hcc j (.t .nil) (by have := hold 0 (.t .nil) rfl; simpa using this)
    have := hru.t_inv
    cases this
    refine ⟨_, hu, .t ?_⟩
    rcases hB with rfl | ⟨sz, hsz, rfl⟩
    · exact .byn
    · exact .sqn hsz
  · rw [if_neg hr] at hj
    exact hcc j d hj

/-- A slot that names what is read only from now on, as a tree. -/
theorem Weak.thawS {kp N : Nat} {s : Slots} {H : List Blk} {y : T} (j : Nat) (hy : immV H (lk j s) = some y) : Weak kp N ⟨s, H⟩ ⟨(j, .t y) :: s, H⟩ := by
  intro c hc m w a hinv hs
  refine ⟨m, hinv, hs.1, hs.2.1, fun k => ?_⟩
  simp only [lk]
  split
  · rename_i e
    subst e
    exact .t (immV_rel hinv (hs.2.2 k) hy)
  · exact hs.2.2 k

/-! ### What a tree was made of. (By choice, so that the kernel never reckons with it.) -/

open Classical in
noncomputable def inv {α β : Type} (f : α → β) (y : β) : Option α := if h : ∃ x, f x = y then some h.choose else none

theorem inv_of {α β : Type} {f : α → β} (hf : ∀ a b, f a = f b → a = b) (x : α) : inv f (f x) = some x := by
  have h : ∃ z, f z = f x := ⟨x, rfl⟩
  unfold inv
  rw [dif_pos h]
  exact congrArg some (hf _ _ h.choose_spec)
theorem inv_inv {α β : Type} {f : α → β} {y : β} {x : α} (h : inv f y = some x) : y = f x := by
  unfold inv at h
  split at h
  · rename_i hx
    cases h
    exact hx.choose_spec.symm
  · cases h

/-- A thing so many times (a name that simp leaves alone). -/
def repl {α : Type} (n : Nat) (x : α) : List α := List.replicate n x
theorem repl_len {α : Type} (n : Nat) (x : α) : (repl n x).length = n := by simp [repl]
theorem repl_snoc {α : Type} (n : Nat) (x : α) : repl n x ++ [x] = repl (n + 1) x := by rw [repl, repl, List.replicate_succ']
theorem repl_map {α β : Type} (f : α → β) (n : Nat) (x : α) : (repl n x).map f = repl n (f x) := by simp [repl]
theorem repl_0 {α : Type} (x : α) : repl 0 x = [] := rfl

end Go.Fw

end
