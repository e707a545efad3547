/- The abstract machine, and the contracts of the code: part 51. -/
import Derived.Test.YtchljppcenckaaaFwTl

section
/- Any order of a region: the rule, also where two operations write no slot. -/
namespace Go.Fw
set_option linter.unusedVariables false
set_option linter.unusedSimpArgs false
open Go

def depOk2 (ops : List Oper) : Bool :=
  (List.range ops.length).all fun j => match ops[j]? with
    | none => true
    | some o => (aft o).all (fun i => decide (i < j)) &&
      (List.range ops.length).all fun i => match ops[i]? with
        | none => true
        | some p => (decide (i = j) || decide (p.dst ≠ o.dst) || p.dst.isNone) &&
          (match p.dst with
            | none => true
            | some d => !((o.looksAt ops.toArray).contains d) || (decide (i < j) && (aft o).contains i) || (decide (j < i) && (aft p).contains j))

theorem depOk2_ok {ops : List Oper} (h : depOk2 ops = true) : DepOk ops := by
  simp only [depOk2, List.all_eq_true, List.mem_range] at h
  have get : ∀ (j : Nat) (o : Oper), ops[j]? = some o → j < ops.length := fun j o hj => (List.getElem?_eq_some_iff.1 hj).1
  refine ⟨fun j o i hj hi => ?_, fun i j p o d hi hj hp ho => ?_, fun i j p o d hi hj hp hd => ?_⟩
  · have := h j (get j o hj)
    rw [hj] at this
    simp only [Bool.and_eq_true, List.all_eq_true] at this
    simpa using this.1 i hi
  · have := h j (get j o hj)
    rw [hj] at this
    simp only [Bool.and_eq_true, List.all_eq_true, List.mem_range] at this
    have := this.2 i (get i p hi)
    rw [hi] at this
    simp only [Bool.and_eq_true, Bool.or_eq_true, decide_eq_true_eq] at this
    rcases this.1 with (h1 | h1) | h1
    · exact h1
    · exact (h1 (by rw [hp, ho])).elim
    · rw [hp] at h1; simp at h1
  · have := h j (get j o hj)
    rw [hj] at this
    simp only [Bool.and_eq_true, List.all_eq_true, List.mem_range] at this
    have := this.2 i (get i p hi)
    rw [hi] at this
    simp only [Bool.and_eq_true, hp] at this
    have h2 := this.2
    have hc : (o.looksAt ops.toArray).contains d = true := by simpa using hd
    rw [hc] at h2
    simp at h2
    rcases h2 with h2 | h2
    · exact .inl h2
    · exact .inr h2

def dOk2 (ops : List Oper) (fs : List Info) : Bool :=
  depOk2 ops && (fs.length == ops.length) && ((List.range ops.length).all fun j => match ops[j]?, fs[j]? with
    | some o, some f => f.looks.all (fun t => (o.looksAt ops.toArray).contains t) &&
      f.anc.all (fun a => (aft o).contains a || (aft o).any fun b => match fs[b]? with | some g => g.anc.contains a | none => false) &&
      (f.cls != 2 || (List.range ops.length).all fun k => (k == j) || match fs[k]? with
        | some g => (g.cls == 0) || (if k < j then f.anc.contains k else g.anc.contains j)
        | none => true) && decide (f.cls ≤ 2)
    | _, _ => false) && fs.all fun f => (f.cls != 0) || f.st.all fun i => fs.all fun g => (g.cls != 2) || g.st.contains i

theorem dOk2_ok {ops : List Oper} {fs : List Info} (h : dOk2 ops fs = true) : DOk ops fs := by
  unfold dOk2 at h
  rw [Bool.and_eq_true] at h
  obtain ⟨h, h5⟩ := h
  simp only [Bool.and_eq_true, beq_iff_eq, List.all_eq_true, List.mem_range] at h
  obtain ⟨⟨h1, h2⟩, h3⟩ := h
  have get : ∀ (j : Nat) (f : Info), fs[j]? = some f → j < ops.length := fun j f hj => by have := (List.getElem?_eq_some_iff.1 hj).1; omega
  have each : ∀ (j : Nat) (o : Oper) (f : Info), ops[j]? = some o → fs[j]? = some f → (((∀ t ∈ f.looks, (o.looksAt ops.toArray).contains t = true) ∧ (∀ a ∈ f.anc, ((aft o).contains a || (aft o).any fun b => match fs[b]? with | some g => g.anc.contains a | none => false) = true)) ∧
      (f.cls != 2 || (List.range ops.length).all fun k => (k == j) || match fs[k]? with
        | some g => (g.cls == 0) || (if k < j then f.anc.contains k else g.anc.contains j)
        | none => true) = true) ∧ f.cls ≤ 2 := by
    intro j o f ho hf
    have := h3 j (get j f hf)
    rw [ho, hf] at this
    simp only [Bool.and_eq_true, List.all_eq_true, decide_eq_true_eq] at this
    exact this
  refine ⟨depOk2_ok h1, h2, fun j o f ho hf t ht => ?_, fun j o f ho hf a ha => ?_, fun j f hf hc k g hg hg0 hkj => ?_, fun j f hj => ?_, fun j f hf hc i hi k g hg hgc => ?_⟩
  · have := (each j o f ho hf).1.1.1 t ht
    simpa using this
  · have := (each j o f ho hf).1.1.2 a ha
    simp only [Bool.or_eq_true, List.any_eq_true] at this
    rcases this with h | ⟨b, hb, h⟩
    · exact .inl (by simpa using h)
    · right
      cases hg : fs[b]? with
      | none => rw [hg] at h; simp at h
      | some g => rw [hg] at h; exact ⟨b, hb, g, hg, by simpa using h⟩
  · have hlt := get j f hf
    have := (each j _ f (List.getElem?_eq_getElem hlt) hf).1.2
    simp only [Bool.or_eq_true, bne_iff_ne, ne_eq, List.all_eq_true, List.mem_range, beq_iff_eq] at this
    rcases this with h | h
    · exact (h hc).elim
    · have h4 := h k (get k g hg)
      rcases h4 with h4 | h4
      · exact (hkj h4).elim
      · rw [hg] at h4
        simp only [Bool.or_eq_true, beq_iff_eq] at h4
        rcases h4 with h4 | h4
        · exact (hg0 h4).elim
        · split at h4
          · rename_i hlt'; exact .inl ⟨hlt', by simpa using h4⟩
          · exact .inr ⟨by omega, by simpa using h4⟩
  · have hlt := get j f hj
    exact (each j _ f (List.getElem?_eq_getElem hlt) hj).2
  · have h6 := List.all_eq_true.1 h5 f (List.mem_of_getElem? hf)
    rw [hc] at h6
    simp only [bne_self_eq_false, Bool.false_or] at h6
    have h7 := List.all_eq_true.1 (List.all_eq_true.1 h6 i hi) g (List.mem_of_getElem? hg)
    rw [hgc] at h7
    simpa using h7

section
variable {P : Program} {E : Env} {q : List TypeId} {gl : GCalls} {N : Nat} {ops : List Oper} {fs : List Info} {s0 sN : Slots} {H0 HN : List Blk}
theorem AWP.gdraw2 {kp : Nat} (hX : XOk P E q) (hcl : GClOk P gl) (keep : List Nat) (hmix : P.follows .mixedOrders = true) {id : Nat} {l : List Oper} (fs : List Info) (hdep : dOk2 l fs = true) {Q : Exit → AS → Prop} {S S' : AS}
    (h : drunP E q gl N keep l fs S = some S') (hQ : Q .normal S') : AWP kp P N (.region id l.toArray true) Q S := by
  unfold drunP at h
  split at h
  case h_2 => cases h
  rename_i S1 hq
  cases h
  have hd := dOk2_ok hdep
  obtain ⟨T⟩ := dt_of hd.len (sN := S1.s) (HN := S1.H) hq
  intro c hc m w a hi hs
  refine wp_region_any hmix ?_
  have hcount : countF (Array.replicate l.toArray.size false) = l.toArray.size := by simp [countF]
  have hfalse : ∀ k, (Array.replicate l.toArray.size false).getD k false = false := by
    intro k
    rw [Array.getD_eq_getD_getElem?, Array.getElem?_replicate]
    split <;> rfl
  obtain ⟨τ, t1, t2, t3, t4⟩ := next_turn fs l.length 0 (by omega)
  have hstill : ∀ k g, 0 ≤ k → k < τ → fs[k]? = some g → g.cls ≤ 1 := fun k g h1 h2 h3 => by
    have := hd.top k g h3; have := t3 k g h1 h2 h3; omega
  obtain ⟨R, hR⟩ := T.prefix_ hd 0 τ t2 t1 hstill
  have h00 : T.hp 0 = S.H := T.zero.2
  rw [h00] at hR
  obtain ⟨m2, e2, i2⟩ := hi.drawn.pad R.length
  have hck : c.k ≤ S.H.length := by
    rcases Nat.eq_zero_or_pos c.k with h0 | h0
    · omega
    · have := (hi.keep (c.k - 1) (by omega)).1; rw [hi.len] at this; omega
  refine d_order hX hcl hck T hd (fun t k hk => ?_) (fun m' w' a' h1 h2 => ⟨m', ⟨prune keep S1.s, S1.H⟩, h1, h2.prune keep, hQ⟩) _ _ a _ m2 0 τ _ (by simp) hcount ?_ i2 ?_ hs.1 hs.2.1 ?_ ?_
  · have := (hs.2.2 t).idxs_lt k hk
    rw [hi.len] at this; exact this
  · intro j o hj hl i _
    rw [hfalse] at hl; cases hl
  · refine ⟨t1, t2, fun k g _ _ hk => by omega, fun k g _ _ _ => hfalse k, hstill, t4, by rw [hR]; simp, fun i hi' => ?_, fun k i hk1 hk2 hi1 hi2 => ?_, fun i B hi' hB k hk => ?_⟩
    · rw [h00] at hi'
      rw [hR, List.getElem?_append_left hi', List.getElem?_append_left hi']
    · have g1 := T.mono hd 0 k (by omega) (by omega)
      have g2 := T.mono hd (k + 1) τ (by omega) t2
      rw [h00] at g1
      have g3 : (T.hp τ).length = S.H.length + R.length := by rw [hR]; simp
      rw [if_neg (by rw [hfalse]; simp), List.getElem?_append_right (by omega), List.getElem?_replicate, if_pos (by omega)]
    · rw [h00] at hB ⊢
      have := hi.blk_lt hB k hk
      rw [hi.len] at this; exact this
  · intro i o d hj hl _
    rw [hfalse] at hl; cases hl
  · intro t _
    exact (hs.2.2 t).mono e2

end
end Go.Fw

end
