/- The abstract machine, and the contracts of the code: part 38. -/
import Derived.Test.YtchljppcenckaaaFwU5

section
/- Whatever the order, the state behind the region is that of the order of the text. -/
namespace Go.Fw
set_option linter.unusedVariables false
set_option linter.unusedSimpArgs false
set_option linter.unusedSectionVars false
open Go

theorem Inv.pad {c : Ctx} {w : World} : ∀ (r : Nat) {m : Mem} {H : List Blk}, Inv c m w H → ∃ m', Ext m m' ∧ Inv c m' w (H ++ List.replicate r .no)
  | 0, m, H, h => ⟨m, .refl m, by simpa using h⟩
  | r + 1, m, H, h => by
    have h1 : Inv c (m.push undef) w (H ++ [.no]) := h.fresh (w' := w) rfl rfl rfl (Nat.le_refl _) (fun _ _ => rfl) trivial (fun b hl _ => by simp [Blk.live] at hl)
    obtain ⟨m', e1, h2⟩ := Inv.pad r h1
    exact ⟨m', (Ext.push m _).trans e1, by simpa [List.replicate_succ] using h2⟩

section
variable {E : Env} {q : List TypeId} {gl : GCalls} {N : Nat} {ops : List Oper} {fs : List Info} {s0 sN : Slots} {H0 HN : List Blk}

theorem dstep_grow {n0 : Nat} {lens : List Nat} {f : Info} {s : Slots} {H H' : List Blk} {op : Op} {v : AV} (h : dstep E q gl n0 lens f s H op = some (v, H')) : H.length ≤ H'.length ∧ (f.cls ≤ 1 → ∃ Nw, H' = H ++ Nw) ∧ (f.cls = 0 → H' = H) := by
  unfold dstep at h
  split at h
  · rename_i h0
    unfold dS at h
    split at h
    · split at h
      · cases h; exact ⟨Nat.le_refl _, fun _ => ⟨[], by simp⟩, fun _ => rfl⟩
      · cases h
    · cases h
  · rename_i h0
    split at h
    · unfold dA at h
      split at h
      · split at h
        · split at h
          · split at h
            · cases h; exact ⟨by simp, fun _ => ⟨_, rfl⟩, fun h1 => (h0 h1).elim⟩
            · cases h
          · cases h
        · cases h
      · cases h
    · rename_i h1
      unfold dZ at h
      split at h
      · split at h
        · rename_i hc
          split at h
          · cases h
            simp only [Bool.and_eq_true, decide_eq_true_eq] at hc
            exact ⟨hc.2, fun h2 => by omega, fun h2 => by omega⟩
          · cases h
        · cases h
      · cases h

theorem sameAt_get {H H' : List Blk} : ∀ {st : List Nat}, sameAt H H' st → ∀ i ∈ st, H'[i]? = H[i]?
  | [], _, i, hi => by simp at hi
  | j :: r, h, i, hi => by
    unfold sameAt at h
    split at h
    · rename_i h1
      rcases List.mem_cons.1 hi with rfl | hi
      · exact h1
      · exact sameAt_get h i hi
    · exact h.elim

namespace DT
variable (T : DT E q gl N ops fs s0 H0 sN HN) (hd : DOk ops fs)
include hd

theorem at_op (j : Nat) (hj : j < ops.length) : ∃ o f, ops[j]? = some o ∧ fs[j]? = some f := by
  have := hd.len
  exact ⟨ops[j], fs[j]'(by omega), List.getElem?_eq_getElem hj, List.getElem?_eq_getElem _⟩

theorem grow (j : Nat) (hj : j < ops.length) : (T.hp j).length ≤ (T.hp (j + 1)).length ∧ (∀ f, fs[j]? = some f → f.cls ≤ 1 → ∃ Nw, T.hp (j + 1) = T.hp j ++ Nw) ∧ (∀ f, fs[j]? = some f → f.cls = 0 → T.hp (j + 1) = T.hp j) := by
  obtain ⟨o, f, ho, hf⟩ := at_op hd j hj
  rcases T.step j o f ho hf with ⟨_, _, h3⟩ | ⟨_, h2⟩
  · rw [h3]; exact ⟨Nat.le_refl _, fun _ _ _ => ⟨[], by simp⟩, fun _ _ _ => rfl⟩
  · obtain ⟨g1, g2, g3⟩ := dstep_grow h2
    exact ⟨g1, fun f' hf' => by rw [hf] at hf'; cases hf'; exact g2, fun f' hf' => by rw [hf] at hf'; cases hf'; exact g3⟩

theorem mono (i j : Nat) (hij : i ≤ j) (hj : j ≤ ops.length) : (T.hp i).length ≤ (T.hp j).length := by
  induction j with
  | zero => obtain rfl : i = 0 := by omega
            exact Nat.le_refl _
  | succ j ih =>
    rcases Nat.lt_or_ge i (j + 1) with h | h
    · exact Nat.le_trans (ih (by omega) (by omega)) (T.grow hd j (by omega)).1
    · obtain rfl : i = j + 1 := by omega
      exact Nat.le_refl _

/-- Within a stretch without turning, blocks are only made. -/
theorem prefix_ (σ j : Nat) (hj : j ≤ ops.length) (hσ : σ ≤ j) (hc : ∀ k f, σ ≤ k → k < j → fs[k]? = some f → f.cls ≤ 1) : ∃ R, T.hp j = T.hp σ ++ R := by
  induction j with
  | zero => obtain rfl : σ = 0 := by omega
            exact ⟨[], by simp⟩
  | succ j ih =>
    rcases Nat.lt_or_ge σ (j + 1) with h | h
    · obtain ⟨R, hR⟩ := ih (by omega) (by omega) (fun k f h1 h2 h3 => hc k f h1 (by omega) h3)
      obtain ⟨o, f, ho, hf⟩ := at_op hd j (by omega)
      obtain ⟨Nw, hN⟩ := (T.grow hd j (by omega)).2.1 f hf (hc j f (by omega) (by omega) hf)
      exact ⟨R ++ Nw, by rw [hN, hR, List.append_assoc]⟩
    · obtain rfl : σ = j + 1 := by omega
      exact ⟨[], by simp⟩

/-- Whose block is this? -/
theorem owner (σ j : Nat) (hj : j ≤ ops.length) (hσ : σ ≤ j) (i : Nat) (h1 : (T.hp σ).length ≤ i) (h2 : i < (T.hp j).length) : ∃ k, σ ≤ k ∧ k < j ∧ (T.hp k).length ≤ i ∧ i < (T.hp (k + 1)).length := by
  induction j with
  | zero => obtain rfl : σ = 0 := by omega
            omega
  | succ j ih =>
    rcases Nat.lt_or_ge σ (j + 1) with h | h
    · by_cases h3 : i < (T.hp j).length
      · obtain ⟨k, a, b, c, d⟩ := ih (by omega) (by omega) h3
        exact ⟨k, a, by omega, c, d⟩
      · exact ⟨j, by omega, by omega, by omega, h2⟩
    · obtain rfl : σ = j + 1 := by omega
      omega

/-- A block that nobody turns. -/
theorem stays (i : Nat) (hi : i < H0.length) (hst : ∀ (k : Nat) (g : Info), fs[k]? = some g → g.cls = 2 → i ∈ g.st) : ∀ j, j ≤ ops.length → (T.hp j)[i]? = H0[i]? := by
  intro j
  induction j with
  | zero => intro _; rw [T.zero.2]
  | succ j ih =>
    intro hj
    obtain ⟨o, f, ho, hf⟩ := at_op hd j (by omega)
    have hlt : i < (T.hp j).length := by have := T.mono hd 0 j (by omega) (by omega); rw [T.zero.2] at this; omega
    rw [← ih (by omega)]
    by_cases hc : f.cls ≤ 1
    · obtain ⟨Nw, hN⟩ := (T.grow hd j (by omega)).2.1 f hf hc
      rw [hN, List.getElem?_append_left hlt]
    · have hc2 : f.cls = 2 := by have := hd.top j f hf; omega
      rcases T.step j o f ho hf with ⟨_, _, h3⟩ | ⟨_, h2⟩
      · rw [h3]
      · unfold dstep at h2
        rw [if_neg (by omega), if_neg (by omega)] at h2
        unfold dZ at h2
        split at h2
        · split at h2
          · split at h2
            · rename_i hs
              cases h2
              exact sameAt_get hs i (hst j f hf hc2)
            · cases h2
          · cases h2
        · cases h2

theorem posA_ok (j : Nat) (hj : j < ops.length) (f : Info) (o : Oper) (ho : ops[j]? = some o) (hf : fs[j]? = some f) (hanc : ∀ a ∈ f.anc, a < j) {i : Nat} (h : posA H0.length ((List.range (j + 1)).map fun k => (T.hp k).length) f.anc i = true) :
    i < H0.length ∨ ∃ k ∈ f.anc, k < j ∧ (T.hp k).length ≤ i ∧ i < (T.hp (k + 1)).length := by
  simp only [posA, Bool.or_eq_true, decide_eq_true_eq, List.any_eq_true, Bool.and_eq_true] at h
  rcases h with h | ⟨k, hk, h1, h2⟩
  · exact .inl h
  · right
    have hkj := hanc k hk
    refine ⟨k, hk, hkj, ?_, ?_⟩
    · rw [List.getD_eq_getElem?_getD, List.getElem?_map, List.getElem?_range (by omega)] at h1; exact h1
    · rw [List.getD_eq_getElem?_getD, List.getElem?_map, List.getElem?_range (by omega)] at h2; exact h2

end DT

theorem anc_lt (hd : DOk ops fs) : ∀ (j : Nat) (f : Info), fs[j]? = some f → ∀ a ∈ f.anc, a < j := by
  intro j
  induction j using Nat.strongRecOn with
  | _ j ih =>
    intro f hf a ha
    have hlt := (List.getElem?_eq_some_iff.1 hf).1
    have hlen := hd.len
    obtain ⟨o, ho⟩ : ∃ o, ops[j]? = some o := ⟨ops[j]'(by omega), List.getElem?_eq_getElem _⟩
    rcases hd.anc j o f ho hf a ha with h | ⟨b, hb, g, hg, hag⟩
    · exact hd.dep.back j o a ho h
    · have hbj := hd.dep.back j o b ho hb
      have := ih b hbj g hg a hag
      omega

theorem anc_listed (hd : DOk ops fs) {listed : Array Bool} (hdeps : ∀ (j : Nat) (o : Oper), ops[j]? = some o → listed.getD j false = true → ∀ i ∈ aft o, listed.getD i false = true) :
    ∀ (j : Nat) (f : Info), fs[j]? = some f → listed.getD j false = true → ∀ a ∈ f.anc, listed.getD a false = true := by
  intro j
  induction j using Nat.strongRecOn with
  | _ j ih =>
    intro f hf hl a ha
    have hlt := (List.getElem?_eq_some_iff.1 hf).1
    have hlen := hd.len
    obtain ⟨o, ho⟩ : ∃ o, ops[j]? = some o := ⟨ops[j]'(by omega), List.getElem?_eq_getElem _⟩
    rcases hd.anc j o f ho hf a ha with h | ⟨b, hb, g, hg, hag⟩
    · exact hdeps j o ho hl a h
    · exact ih b (hd.dep.back j o b ho hb) g hg (hdeps j o ho hl b hb) a hag

theorem DT.lk_pre (T : DT E q gl N ops fs s0 H0 sN HN) (t : Nat) : ∀ (j : Nat), j ≤ ops.length →
    (∃ i o, i < j ∧ ops[i]? = some o ∧ o.dst = some t ∧ lk t (T.pre j) = T.val i) ∨ ((∀ i o, i < j → ops[i]? = some o → o.dst ≠ some t) ∧ lk t (T.pre j) = lk t s0) := by
  intro j
  induction j with
  | zero => intro _; exact .inr ⟨fun i o h => by omega, by rw [T.zero.1]⟩
  | succ j ih =>
    intro hj
    have ho : ops[j]? = some (ops[j]'(by omega)) := List.getElem?_eq_getElem _
    have old : lk t (T.pre (j + 1)) = lk t (T.pre j) → (ops[j]'(by omega)).dst ≠ some t → (∃ i o, i < j + 1 ∧ ops[i]? = some o ∧ o.dst = some t ∧ lk t (T.pre (j + 1)) = T.val i) ∨ ((∀ i o, i < j + 1 → ops[i]? = some o → o.dst ≠ some t) ∧ lk t (T.pre (j + 1)) = lk t s0) := by
      intro he hne
      rcases ih (by omega) with ⟨i, o, h1, h2, h3, h4⟩ | ⟨h1, h2⟩
      · exact .inl ⟨i, o, by omega, h2, h3, he.trans h4⟩
      · refine .inr ⟨fun i o hi hio => ?_, he.trans h2⟩
        rcases Nat.lt_or_ge i j with hlt | hge
        · exact h1 i o hlt hio
        · obtain rfl : i = j := by omega
          rw [hio] at ho; cases ho; exact hne
    rcases T.put j _ ho with ⟨hdst, hpre⟩ | ⟨d, hdst, hdN, hpre⟩
    · exact old (by rw [hpre]) (by rw [hdst]; simp)
    · by_cases e : t = d
      · subst e
        exact .inl ⟨j, _, by omega, ho, hdst, by rw [hpre]; simp [lk]⟩
      · exact old (by rw [hpre]; simp [lk, e]) (by rw [hdst]; intro h; exact e (Option.some.inj h).symm)

/-- The next operation that may turn memory. -/
theorem next_turn (fs : List Info) (n : Nat) (σ : Nat) (h : σ ≤ n) : ∃ τ, σ ≤ τ ∧ τ ≤ n ∧ (∀ k f, σ ≤ k → k < τ → fs[k]? = some f → f.cls ≠ 2) ∧ (τ = n ∨ ∃ f, fs[τ]? = some f ∧ f.cls = 2) := by
  obtain ⟨r, hr⟩ : ∃ r, n = σ + r := ⟨n - σ, by omega⟩
  induction r generalizing σ with
  | zero => exact ⟨σ, Nat.le_refl _, by omega, fun k f h1 h2 => by omega, .inl (by omega)⟩
  | succ r ih =>
    by_cases hc : ∃ f, fs[σ]? = some f ∧ f.cls = 2
    · exact ⟨σ, Nat.le_refl _, h, fun k f h1 h2 => by omega, .inr hc⟩
    · obtain ⟨τ, h1, h2, h3, h4⟩ := ih (σ + 1) (by omega) (by omega)
      refine ⟨τ, by omega, h2, fun k f g1 g2 g3 => ?_, h4⟩
      rcases Nat.eq_or_lt_of_le g1 with e | e
      · subst e; exact fun hh => hc ⟨f, g3, hh⟩
      · exact h3 k f (by omega) g2 g3

/-- The state of a stretch: all that looks at memory ahead of σ is done, nothing from τ on. -/
structure Stage (T : DT E q gl N ops fs s0 H0 sN HN) (listed : Array Bool) (σ τ : Nat) (Hr : List Blk) : Prop where
  le : σ ≤ τ
  top : τ ≤ ops.length
  done : ∀ k f, fs[k]? = some f → f.cls ≠ 0 → k < σ → listed.getD k false = true
  todo : ∀ k f, fs[k]? = some f → f.cls ≠ 0 → τ ≤ k → listed.getD k false = false
  still : ∀ k f, σ ≤ k → k < τ → fs[k]? = some f → f.cls ≤ 1
  next : τ = ops.length ∨ ∃ f, fs[τ]? = some f ∧ f.cls = 2
  len : Hr.length = (T.hp τ).length
  old : ∀ i, i < (T.hp σ).length → Hr[i]? = (T.hp τ)[i]?
  new : ∀ k i, σ ≤ k → k < τ → (T.hp k).length ≤ i → i < (T.hp (k + 1)).length → Hr[i]? = if listed.getD k false = true then (T.hp τ)[i]? else some .no
  inn : ∀ i B, i < (T.hp σ).length → (T.hp σ)[i]? = some B → ∀ k ∈ blkIdxs B, k < (T.hp σ).length

theorem Stage.full {T : DT E q gl N ops fs s0 H0 sN HN} (hd : DOk ops fs) {listed : Array Bool} {σ τ : Nat} {Hr : List Blk} (h : Stage T listed σ τ Hr) (hall : ∀ k f, fs[k]? = some f → f.cls ≠ 0 → k < τ → listed.getD k false = true) : Hr = T.hp τ := by
  apply List.ext_getElem?
  intro i
  rcases Nat.lt_or_ge i (T.hp τ).length with hlt | hge
  · rcases Nat.lt_or_ge i (T.hp σ).length with h1 | h1
    · exact h.old i h1
    · obtain ⟨k, g1, g2, g3, g4⟩ := T.owner hd σ τ h.top h.le i h1 hlt
      have hkt := h.top
      obtain ⟨o, f, ho, hf⟩ := DT.at_op hd k (by omega)
      have hc : f.cls ≠ 0 := fun hc => by rw [(T.grow hd k (by omega)).2.2 f hf hc] at g4; omega
      rw [h.new k i g1 g2 g3 g4, if_pos (hall k f hf hc g2)]
  · rw [List.getElem?_eq_none hge, List.getElem?_eq_none (by rw [h.len]; exact hge)]

end

end Go.Fw

end
