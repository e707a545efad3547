/- The abstract machine, and the contracts of the code: part 35. -/
import Derived.Test.YtchljppcenckaaaFwU3

section
/- A step that is shown some blocks alone. -/
namespace Go.Fw
set_option linter.unusedVariables false
set_option linter.unusedSimpArgs false
open Go

mutual
theorem AV.idxs_cells : ∀ (x : AV), ∀ c ∈ x.cells, ∀ i ∈ c.idxs, i ∈ x.idxs
  | .st xs, c, hc, i, hi => by
    simp only [AV.cells] at hc; simp only [AV.idxs]
    exact AV.idxsL_cells xs c hc i hi
  | .t x, c, hc, i, hi => by
    simp only [AV.cells, List.mem_map] at hc
    obtain ⟨d, _, rfl⟩ := hc
    simp [AV.idxs] at hi
  | .any, c, hc, i, hi => by simp [AV.cells] at hc; subst hc; exact hi
  | .und, c, hc, i, hi => by simp [AV.cells] at hc; subst hc; exact hi
  | .own _, c, hc, i, hi => by simp [AV.cells] at hc; subst hc; exact hi
  | .sub _ _ _ _ _ _, c, hc, i, hi => by simp [AV.cells] at hc; subst hc; exact hi
  | .ptr _ _ _, c, hc, i, hi => by simp [AV.cells] at hc; subst hc; exact hi
  | .ip _, c, hc, i, hi => by simp [AV.cells] at hc; subst hc; exact hi
  | .ex _, c, hc, i, hi => by simp [AV.cells] at hc; subst hc; exact hi
  | .tup _, c, hc, i, hi => by simp [AV.cells] at hc; subst hc; exact hi
  | .clo _ _, c, hc, i, hi => by simp [AV.cells] at hc; subst hc; exact hi
theorem AV.idxsL_cells : ∀ (xs : List AV), ∀ c ∈ AV.cellsL xs, ∀ i ∈ c.idxs, i ∈ AV.idxsL xs
  | [], c, hc, i, hi => by simp [AV.cellsL] at hc
  | x :: xs, c, hc, i, hi => by
    simp only [AV.cellsL, List.mem_append] at hc
    simp only [AV.idxsL, List.mem_append]
    rcases hc with hc | hc
    · exact .inl (AV.idxs_cells x c hc i hi)
    · exact .inr (AV.idxsL_cells xs c hc i hi)
end

theorem AV.idxsL_mem {xs : List AV} {x : AV} (h : x ∈ xs) : ∀ i ∈ x.idxs, i ∈ AV.idxsL xs := by
  induction xs with
  | nil => simp at h
  | cons y ys ih =>
    intro i hi
    simp only [AV.idxsL, List.mem_append]
    rcases List.mem_cons.1 h with rfl | h
    · exact .inl hi
    · exact .inr (ih h i hi)

theorem RelA.on {m m' : Mem} {x : AV} {v : Value} (h : RelA m x v) (hM : MLe m.M m'.M) (hη : ∀ i ∈ x.idxs, i < m'.n ∧ m'.η i = m.η i) : RelA m' x v := by
  induction h with
  | any => exact .any
  | und => exact .und
  | t h => exact .t (h.mono hM)
  | own h =>
    rename_i i
    obtain ⟨h1, h2⟩ := hη i (by simp [AV.idxs])
    rw [← h2]; exact .own h1
  | sub h hl hx ha =>
    rename_i i _ _ _ _ _ _ _
    obtain ⟨h1, h2⟩ := hη i (by simp [AV.idxs])
    exact .sub h1 hl hx (by rw [h2]; exact ha)
  | ptr h hb =>
    rename_i i _ _ _
    obtain ⟨h1, h2⟩ := hη i (by simp [AV.idxs])
    exact .ptr h1 (by rw [h2]; exact hb)
  | ip hM' hw hr => exact .ip (hM _ _ hM') hw fun i c hi => let ⟨u, h1, h2⟩ := hr i c hi; ⟨u, h1, h2.mono hM⟩
  | ex h => exact .ex (h.mono hM)
  | st hw ha _ ih =>
    refine .st hw ha fun i c hi => ih i c hi fun j hj => hη j ?_
    simp only [AV.idxs]
    exact AV.idxsL_cells _ c (List.mem_of_getElem? hi) j hj
  | tup ha _ ih =>
    refine .tup ha fun i c hi => ih i c hi fun j hj => hη j ?_
    simp only [AV.idxs]
    exact AV.idxsL_mem (List.mem_of_getElem? hi) j hj
  | clo ha _ ih =>
    refine .clo ha fun i c hi => ih i c hi fun j hj => hη j ?_
    simp only [AV.idxs]
    exact AV.idxsL_mem (List.mem_of_getElem? hi) j hj

mutual
theorem AV.idxs_of_cells : ∀ (x : AV), x.wf → ∀ i ∈ x.idxs, (∃ c ∈ x.cells, i ∈ c.idxs)
  | .st xs, h, i, hi => by
    simp only [AV.cells]
    exact AV.idxsL_of_cells xs (by simpa only [AV.wf] using h) i (by simpa only [AV.idxs] using hi)
  | .t x, h, i, hi => by simp [AV.idxs] at hi
  | .any, h, i, hi => ⟨_, by simp [AV.cells], hi⟩
  | .und, h, i, hi => ⟨_, by simp [AV.cells], hi⟩
  | .own _, h, i, hi => ⟨_, by simp [AV.cells], hi⟩
  | .sub _ _ _ _ _ _, h, i, hi => ⟨_, by simp [AV.cells], hi⟩
  | .ptr _ _ _, h, i, hi => ⟨_, by simp [AV.cells], hi⟩
  | .ip _, h, i, hi => ⟨_, by simp [AV.cells], hi⟩
  | .ex _, h, i, hi => ⟨_, by simp [AV.cells], hi⟩
  | .tup _, h, i, hi => ⟨_, by simp [AV.cells], hi⟩
  | .clo _ _, h, i, hi => ⟨_, by simp [AV.cells], hi⟩
theorem AV.idxsL_of_cells : ∀ (xs : List AV), AV.wfL xs → ∀ i ∈ AV.idxsL xs, (∃ c ∈ AV.cellsL xs, i ∈ c.idxs)
  | [], h, i, hi => by simp [AV.idxsL] at hi
  | x :: xs, h, i, hi => by
    simp only [AV.wfL] at h
    simp only [AV.idxsL, List.mem_append] at hi
    simp only [AV.cellsL, List.mem_append]
    rcases hi with hi | hi
    · obtain ⟨c, h1, h2⟩ := AV.idxs_of_cells x h.1 i hi
      exact ⟨c, .inl h1, h2⟩
    · obtain ⟨c, h1, h2⟩ := AV.idxsL_of_cells xs h.2 i hi
      exact ⟨c, .inr h1, h2⟩
end

theorem AV.idxsL_ex {xs : List AV} {i : Nat} (h : i ∈ AV.idxsL xs) : ∃ x ∈ xs, i ∈ x.idxs := by
  induction xs with
  | nil => simp [AV.idxsL] at h
  | cons x xs ih =>
    simp only [AV.idxsL, List.mem_append] at h
    rcases h with h | h
    · exact ⟨x, by simp, h⟩
    · obtain ⟨y, h1, h2⟩ := ih h; exact ⟨y, by simp [h1], h2⟩

theorem RelA.idxs_lt {m : Mem} {x : AV} {v : Value} (h : RelA m x v) : ∀ i ∈ x.idxs, i < m.n := by
  induction h with
  | own h => intro i hi; simp [AV.idxs] at hi; subst hi; exact h
  | sub h hl hx ha => intro i hi; simp [AV.idxs] at hi; subst hi; exact h
  | ptr h hb => intro i hi; simp [AV.idxs] at hi; subst hi; exact h
  | st hw ha _ ih =>
    intro i hi
    simp only [AV.idxs] at hi
    obtain ⟨c, h1, h2⟩ := AV.idxsL_of_cells _ hw i hi
    obtain ⟨j, hj⟩ := List.getElem?_of_mem h1
    exact ih j c hj i h2
  | tup ha _ ih =>
    intro i hi
    simp only [AV.idxs] at hi
    obtain ⟨c, h1, h2⟩ := AV.idxsL_ex hi
    obtain ⟨j, hj⟩ := List.getElem?_of_mem h1
    exact ih j c hj i h2
  | clo ha _ ih =>
    intro i hi
    simp only [AV.idxs] at hi
    obtain ⟨c, h1, h2⟩ := AV.idxsL_ex hi
    obtain ⟨j, hj⟩ := List.getElem?_of_mem h1
    exact ih j c hj i h2
  | _ => intro i hi; simp [AV.idxs] at hi

theorem BlkOk.on {m m' : Mem} {w w' : World} {B : Blk} {hd : Value} (h : BlkOk m w B hd) (hM : MLe m.M m'.M) (hη : ∀ i ∈ blkIdxs B, i < m'.n ∧ m'.η i = m.η i)
    (hb : ∀ b, B.live = true → blk hd = some b → m'.M b = none ∧ w'.heap[b]? = w.heap[b]?) : BlkOk m' w' B hd := by
  cases B with
  | «by» l =>
    rcases h with h | ⟨b', cap, cur, e, rfl, hh, h1, h2, h3, _, h4⟩
    · exact .inl h
    · exact .inr ⟨b', cap, cur, e, rfl, (hb b' rfl rfl).2.trans hh, h1, h2, h3, (hb b' rfl rfl).1, h4⟩
  | sq sz xs =>
    obtain ⟨hwf, h⟩ := h
    refine ⟨hwf, ?_⟩
    rcases h with h | ⟨b', cap, cur, e, rfl, hh, h1, h2, h3, _, h4⟩
    · exact .inl h
    · exact .inr ⟨b', cap, cur, e, rfl, (hb b' rfl rfl).2.trans hh, h1, h2, h3, (hb b' rfl rfl).1, fun j c hj => let ⟨u, a, b⟩ := h4 j c hj; ⟨u, a, b.mono hM⟩⟩
  | bx v =>
    obtain ⟨b', cur, e, rfl, hh, _, h1, h2, h3⟩ := h
    refine ⟨b', cur, e, rfl, (hb b' rfl rfl).2.trans hh, (hb b' rfl rfl).1, h1, h2, fun j c hj => ?_⟩
    obtain ⟨u, a, b⟩ := h3 j c hj
    exact ⟨u, a, b.on hM fun i hi => hη i (AV.idxs_cells v c (List.mem_of_getElem? hj) i hi)⟩
  | fb x =>
    obtain ⟨hw, b, cur, e, fr, h1, h2, h3⟩ := h
    exact ⟨hw, b, cur, e, fr, h1, hM _ _ h2, fun j c hj => let ⟨u, a, b⟩ := h3 j c hj; ⟨u, a, b.mono hM⟩⟩
  | fz x => exact ⟨RelT.mono hM h.1, fun a n k he => let ⟨h0, cur, ty, fr, hc⟩ := h.2 a n k he; ⟨h0, cur, ty, fr, hM _ _ hc⟩⟩
  | no => trivial

theorem Inv.blk_lt {c : Ctx} {m : Mem} {w : World} {H : List Blk} (h : Inv c m w H) {i : Nat} {B : Blk} (hi : H[i]? = some B) : ∀ k ∈ blkIdxs B, k < m.n := by
  intro k hk
  cases B with
  | bx v =>
    obtain ⟨b', cur, e, _, _, _, hw, _, h3⟩ := h.ok _ _ hi
    obtain ⟨c', h1, h2⟩ := AV.idxs_of_cells v hw k (by simpa only [blkIdxs] using hk)
    obtain ⟨j, hj⟩ := List.getElem?_of_mem h1
    obtain ⟨u, _, hr⟩ := h3 j c' hj
    exact hr.idxs_lt k h2
  | _ => simp [blkIdxs] at hk

/-- Blocks that are not in view are hidden. -/
def maskV (V : List Nat) : Nat → List Blk → List Blk
  | _, [] => []
  | j, B :: r => (if j ∈ V then B else .no) :: maskV V (j + 1) r

theorem maskV_len (V : List Nat) : ∀ (H : List Blk) (j : Nat), (maskV V j H).length = H.length
  | [], _ => rfl
  | B :: r, j => by simp [maskV, maskV_len V r]

theorem maskV_get (V : List Nat) : ∀ (H : List Blk) (j i : Nat), (maskV V j H)[i]? = (H[i]?).map fun B => if j + i ∈ V then B else .no
  | [], j, i => by simp [maskV]
  | B :: r, j, i => by
    cases i with
    | zero => simp [maskV]
    | succ i =>
      simp only [maskV, List.getElem?_cons_succ]
      rw [maskV_get V r (j + 1) i, show j + 1 + i = j + (i + 1) by omega]

/-- A list with a stretch replaced. -/
def over (H : List Blk) (n : Nat) (N : List Blk) : List Blk := H.take n ++ N ++ H.drop (n + N.length)

theorem over_get {H N : List Blk} {n : Nat} (h : n + N.length ≤ H.length) (i : Nat) : (over H n N)[i]? = if n ≤ i ∧ i < n + N.length then N[i - n]? else H[i]? := by
  unfold over
  have e1 : (H.take n).length = n := by rw [List.length_take]; omega
  rw [List.append_assoc]
  rcases Nat.lt_or_ge i n with hlt | hge
  · rw [if_neg (by omega), List.getElem?_append_left (by omega), List.getElem?_take, if_pos hlt]
  · rw [List.getElem?_append_right (by omega), e1]
    rcases Nat.lt_or_ge i (n + N.length) with h2 | h2
    · rw [if_pos (by omega), List.getElem?_append_left (by omega)]
    · rw [if_neg (by omega), List.getElem?_append_right (by omega), List.getElem?_drop, show n + N.length + (i - n - N.length) = i by omega]

theorem over_len {H N : List Blk} {n : Nat} (h : n + N.length ≤ H.length) : (over H n N).length = H.length := by
  unfold over
  simp only [List.length_append, List.length_take, List.length_drop]; omega

theorem gstep_masked {P : Program} {E : Env} {q : List TypeId} (hX : XOk P E q) {gl : GCalls} (hcl : GClOk P gl) {c : Ctx} {m : Mem} {w : World} {a : Act} {N : Nat} {Hr Hj Nw : List Blk} (h : Inv c m w Hr) (hck : c.k ≤ Hj.length) {V : List Nat}
    (hV : ∀ i ∈ V, i < Hj.length → Hr[i]? = Hj[i]? ∧ ∀ (B : Blk), Hj[i]? = some B → ∀ k ∈ blkIdxs B, k < Hj.length) {sl : Slots} (ha : a.defers = []) (hN : a.tmps.size = N) (hs : ∀ i, RelA m (lk i sl) (a.tmps.getD i undef))
    (hsl : ∀ i, ∀ k ∈ (lk i sl).idxs, k < Hj.length) {o : Oper} {v : AV} (hv : gstep E q gl sl (maskV V 0 Hj) o.op = some (v, maskV V 0 Hj ++ Nw)) (hroom : Hj.length + Nw.length ≤ Hr.length)
    (hfree : ∀ (i : Nat), Hj.length ≤ i → i < Hj.length + Nw.length → Hr[i]? = some .no) (hment : ∀ (i : Nat) (B : Blk), Hr[i]? = some B → ∀ k ∈ blkIdxs B, ¬ (Hj.length ≤ k ∧ k < Hj.length + Nw.length)) (K : Act → World → Prop) (Q : Exit → Act → World → Prop)
    (hK : ∀ m2 w' u, MLe m.M m2.M → m2.n = m.n → (∀ i, ¬ (Hj.length ≤ i ∧ i < Hj.length + Nw.length) → m2.η i = m.η i) → Inv c m2 w' (over Hr Hj.length Nw) → RelA m2 v u → K (a.put o.dst u) w') : o.wp P a w K Q := by
  let lentV : Nat → Prop := fun b => ∃ (i : Nat) (B : Blk), (maskV V 0 Hj)[i]? = some B ∧ B.live = true ∧ blk (m.η i) = some b
  let c1 : Ctx := ⟨w, lentV, m.M, Hj.length, m.η⟩
  let mt : Mem := { m with n := Hj.length }
  have hat : ∀ k B b, Hr[k]? = some B → B.live = true → blk (m.η k) = some b → m.M b = none ∧ b < w.heap.size := fun k B b hk hl hb => (h.ok k B hk).at hl hb
  -- what is in view is as it is
  have hvis : ∀ (i : Nat) (B : Blk), (maskV V 0 Hj)[i]? = some B → B ≠ .no → i ∈ V ∧ i < Hj.length ∧ Hj[i]? = some B ∧ Hr[i]? = some B := by
    intro i B hi hno
    rw [maskV_get, Option.map_eq_some_iff] at hi
    obtain ⟨B0, hB0, he⟩ := hi
    rw [Nat.zero_add] at he
    split at he
    · rename_i hin
      subst he
      have hlt := (List.getElem?_eq_some_iff.1 hB0).1
      exact ⟨hin, hlt, hB0, by rw [(hV i hin hlt).1]; exact hB0⟩
    · exact (hno he.symm).elim
  have live_no : ∀ B : Blk, B.live = true → B ≠ .no := fun B hl he => by subst he; simp [Blk.live] at hl
  have hlentn : ∀ b, lentV b → m.M b = none ∧ b < w.heap.size ∧ (c.w0.heap.size ≤ b ∨ c.O b) := by
    intro b ⟨i, B, hi, hl, hb⟩
    obtain ⟨_, _, _, hr⟩ := hvis i B hi (live_no B hl)
    exact ⟨(hat i B b hr hl hb).1, (hat i B b hr hl hb).2, h.own i B b hr hl hb⟩
  have inv1 : Inv c1 mt w (maskV V 0 Hj) := by
    refine ⟨by simp only [mt]; rw [maskV_len], h.imm, .refl _, fun b o hb => .inl hb, ?_, fun i B b hi hl hb => .inr ⟨i, B, hi, hl, hb⟩, ?_, rfl, rfl, rfl, Nat.le_refl _, fun _ _ _ => rfl, fun i hi => ⟨hi, rfl⟩⟩
    · intro i B hi
      by_cases hno : B = .no
      · subst hno; trivial
      · obtain ⟨hin, hlt, hj, hr⟩ := hvis i B hi hno
        refine (h.ok i B hr).on (.refl _) (fun k hk => ⟨(hV i hin hlt).2 B hj k hk, rfl⟩) (fun b hl hb => ⟨(hat i B b hr hl hb).1, rfl⟩)
    · intro i j B B' b hi hj hl hl' hb hb'
      obtain ⟨_, _, _, hr⟩ := hvis i B hi (live_no B hl)
      obtain ⟨_, _, _, hr'⟩ := hvis j B' hj (live_no B' hl')
      exact h.disj i j B B' b hr hr' hl hl' hb hb'
  have hrs : RelS mt N a sl := ⟨ha, hN, fun i => (hs i).on (.refl _) (fun k hk => ⟨hsl i k hk, rfl⟩)⟩
  refine gstep_ok hX hcl (S := ⟨sl, maskV V 0 Hj⟩) inv1 hrs hv K Q fun m' w' u e1 i1 r1 => ?_
  have hn' : m'.n = Hj.length + Nw.length := by rw [i1.len, List.length_append, maskV_len]
  let m2 : Mem := { M := m'.M, η := fun i => if Hj.length ≤ i ∧ i < Hj.length + Nw.length then m'.η i else m.η i, n := m.n }
  have hMle : MLe m.M m'.M := e1.M
  have hη2 : ∀ i, i < m'.n → i < m2.n ∧ m2.η i = m'.η i := by
    intro i hi
    refine ⟨by show i < m.n; rw [h.len]; omega, ?_⟩
    show (if Hj.length ≤ i ∧ i < Hj.length + Nw.length then m'.η i else m.η i) = m'.η i
    split
    · rfl
    · rename_i hno
      have hlt : i < mt.n := by show i < Hj.length; omega
      exact (e1.η i hlt).symm
  have hηout : ∀ i, ¬ (Hj.length ≤ i ∧ i < Hj.length + Nw.length) → m2.η i = m.η i := fun i hi => if_neg hi
  have hnone : ∀ b, b < w.heap.size → m.M b = none → ¬ lentV b → m'.M b = none := by
    intro b hb h0 hl
    cases e : m'.M b with
    | none => rfl
    | some o' =>
      rcases i1.new b o' e with h5 | ⟨h5 | h5, hp⟩
      · have h5' : m.M b = some o' := h5
        rw [h0] at h5'; cases h5'
      · have : w.heap.size ≤ b := h5
        omega
      · exact (hl h5).elim
  have hold : ∀ b, b < w.heap.size → ¬ lentV b → w'.heap[b]? = w.heap[b]? := fun b hb hl => i1.frame b hb hl
  -- one block of the new list
  have hget : ∀ (i : Nat) (B : Blk), (over Hr Hj.length Nw)[i]? = some B → B ≠ .no → ((maskV V 0 Hj ++ Nw)[i]? = some B ∧ i < Hj.length + Nw.length) ∨
      (Hr[i]? = some B ∧ ¬ (Hj.length ≤ i ∧ i < Hj.length + Nw.length) ∧ ((maskV V 0 Hj)[i]? = some .no ∨ Hj.length + Nw.length ≤ i)) := by
    intro i B hi hno
    rw [over_get hroom] at hi
    split at hi
    · rename_i hr
      refine .inl ⟨?_, hr.2⟩
      rw [List.getElem?_append_right (by rw [maskV_len]; exact hr.1), maskV_len]; exact hi
    · rename_i hr
      rcases Nat.lt_or_ge i Hj.length with hlt | hge
      · have hm : (maskV V 0 Hj)[i]? = some (if i ∈ V then Hj[i] else .no) := by
          rw [maskV_get, List.getElem?_eq_getElem hlt, Nat.zero_add]; rfl
        by_cases hin : i ∈ V
        · rw [if_pos hin] at hm
          refine .inl ⟨?_, by omega⟩
          rw [List.getElem?_append_left (by rw [maskV_len]; exact hlt), hm]
          have := (hV i hin hlt).1
          rw [hi, List.getElem?_eq_getElem hlt] at this
          exact this.symm
        · rw [if_neg hin] at hm
          exact .inr ⟨hi, hr, .inl hm⟩
      · exact .inr ⟨hi, hr, .inr (by omega)⟩
  have hnl : ∀ (i : Nat) (B : Blk) (b : Nat), Hr[i]? = some B → B.live = true → blk (m.η i) = some b → ((maskV V 0 Hj)[i]? = some .no ∨ Hj.length + Nw.length ≤ i) → ¬ lentV b := by
    intro i B b hi hl hb hh ⟨j, B', hj, hl', hb'⟩
    obtain ⟨_, hlt, _, hr'⟩ := hvis j B' hj (live_no B' hl')
    have := h.disj i j B B' b hi hr' hl hl' hb hb'
    subst this
    rcases hh with hh | hh
    · rw [hj] at hh; cases hh; simp [Blk.live] at hl'
    · omega
  have inv2 : Inv c m2 w' (over Hr Hj.length Nw) := by
    refine ⟨by rw [over_len hroom]; exact h.len, i1.imm, h.le.trans hMle, ?_, ?_, ?_, ?_, i1.os.trans h.os, i1.tape.trans h.tape, i1.output.trans h.output, Nat.le_trans h.size i1.size, ?_, ?_⟩
    · intro b o' hb
      rcases i1.new b o' hb with h5 | ⟨h5 | h5, hp⟩
      · exact h.new b o' h5
      · exact .inr ⟨.inl (Nat.le_trans h.size h5), hp⟩
      · exact .inr ⟨(hlentn b h5).2.2, hp⟩
    · intro i B hi
      by_cases hno : B = .no
      · subst hno; trivial
      · rcases hget i B hi hno with ⟨h1, h2⟩ | ⟨h1, h2, h3⟩
        · rw [show m2.η i = m'.η i from (hη2 i (by omega)).2]
          refine (i1.ok i B h1).on (.refl _) (fun k hk => hη2 k (i1.blk_lt h1 k hk)) (fun b hl hb => ⟨((i1.ok i B h1).at hl hb).1, rfl⟩)
        · rw [hηout i h2]
          refine (h.ok i B h1).on hMle (fun k hk => ⟨h.blk_lt h1 k hk, hηout k (hment i B h1 k hk)⟩) (fun b hl hb => ?_)
          have hl3 := hnl i B b h1 hl hb h3
          exact ⟨hnone b (hat i B b h1 hl hb).2 (hat i B b h1 hl hb).1 hl3, hold b (hat i B b h1 hl hb).2 hl3⟩
    · intro i B b hi hl hb
      rcases hget i B hi (live_no B hl) with ⟨h1, h2⟩ | ⟨h1, h2, h3⟩
      · rw [show m2.η i = m'.η i from (hη2 i (by omega)).2] at hb
        rcases i1.own i B b h1 hl hb with h5 | h5
        · exact .inl (Nat.le_trans h.size h5)
        · exact (hlentn b h5).2.2
      · rw [hηout i h2] at hb
        exact h.own i B b h1 hl hb
    · intro i j B B' b hi hj hl hl' hb hb'
      have cross : ∀ (i j : Nat) (B B' : Blk), (maskV V 0 Hj ++ Nw)[i]? = some B → B.live = true → blk (m'.η i) = some b → Hr[j]? = some B' → B'.live = true → blk (m.η j) = some b → ((maskV V 0 Hj)[j]? = some .no ∨ Hj.length + Nw.length ≤ j) → False := by
        intro i j B B' h1 h2 h3 h4 h5 h6 h7
        rcases i1.own i B b h1 h2 h3 with h8 | h8
        · have := (hat j B' b h4 h5 h6).2
          have : w.heap.size ≤ b := h8
          omega
        · exact hnl j B' b h4 h5 h6 h7 h8
      rcases hget i B hi (live_no B hl) with ⟨h1, h2⟩ | ⟨h1, h2, h3⟩
      · rw [show m2.η i = m'.η i from (hη2 i (by omega)).2] at hb
        rcases hget j B' hj (live_no B' hl') with ⟨g1, g2⟩ | ⟨g1, g2, g3⟩
        · rw [show m2.η j = m'.η j from (hη2 j (by omega)).2] at hb'
          exact i1.disj i j B B' b h1 g1 hl hl' hb hb'
        · rw [hηout j g2] at hb'
          exact (cross i j B B' h1 hl hb g1 hl' hb' g3).elim
      · rw [hηout i h2] at hb
        rcases hget j B' hj (live_no B' hl') with ⟨g1, g2⟩ | ⟨g1, g2, g3⟩
        · rw [show m2.η j = m'.η j from (hη2 j (by omega)).2] at hb'
          exact (cross j i B' B g1 hl' hb' h1 hl hb h3).elim
        · rw [hηout j g2] at hb'
          exact h.disj i j B B' b h1 g1 hl hl' hb hb'
    · intro b hb hO
      rw [hold b (Nat.lt_of_lt_of_le hb h.size) (fun hl => by
        rcases (hlentn b hl).2.2 with h5 | h5
        · omega
        · exact hO h5)]
      exact h.frame b hb hO
    · intro i hi
      obtain ⟨k1, k2⟩ := h.keep i hi
      refine ⟨k1, ?_⟩
      rw [hηout i (by omega)]; exact k2
  exact hK m2 w' u hMle rfl hηout inv2 (r1.on (.refl _) (fun k hk => hη2 k (r1.idxs_lt k hk)))

/-- An operation that turns nothing, and sees only what is in view. -/
theorem still_masked {P : Program} {E : Env} (hE : EnvOk P E) {c : Ctx} {m : Mem} {w : World} {a : Act} {Hr Hj : List Blk} (h : Inv c m w Hr) (hlen : Hj.length ≤ Hr.length) (hck : c.k ≤ Hj.length) {V : List Nat}
    (hV : ∀ i ∈ V, i < Hj.length → Hr[i]? = Hj[i]? ∧ ∀ (B : Blk), Hj[i]? = some B → ∀ k ∈ blkIdxs B, k < Hj.length) {sl : Slots} (hs : ∀ x, RelA m (ev sl x) (a.eval x))
    (hsl : ∀ x, ∀ k ∈ (ev sl x).idxs, k < Hj.length) {o : Oper} {v : AV} (hv : aStill E (maskV V 0 Hj) sl o.op = some v) :
    ∃ u, RelA m v u ∧ (execOp a.eval o).run P w = .ok (.value u) w := by
  let lentV : Nat → Prop := fun b => ∃ (i : Nat) (B : Blk), (maskV V 0 Hj)[i]? = some B ∧ B.live = true ∧ blk (m.η i) = some b
  let c1 : Ctx := ⟨w, lentV, m.M, Hj.length, m.η⟩
  let mt : Mem := { m with n := Hj.length }
  have hat : ∀ k B b, Hr[k]? = some B → B.live = true → blk (m.η k) = some b → m.M b = none ∧ b < w.heap.size := fun k B b hk hl hb => (h.ok k B hk).at hl hb
  have hvis : ∀ (i : Nat) (B : Blk), (maskV V 0 Hj)[i]? = some B → B ≠ .no → i ∈ V ∧ i < Hj.length ∧ Hj[i]? = some B ∧ Hr[i]? = some B := by
    intro i B hi hno
    rw [maskV_get, Option.map_eq_some_iff] at hi
    obtain ⟨B0, hB0, he⟩ := hi
    rw [Nat.zero_add] at he
    split at he
    · rename_i hin
      subst he
      have hlt := (List.getElem?_eq_some_iff.1 hB0).1
      exact ⟨hin, hlt, hB0, by rw [(hV i hin hlt).1]; exact hB0⟩
    · exact (hno he.symm).elim
  have live_no : ∀ B : Blk, B.live = true → B ≠ .no := fun B hl he => by subst he; simp [Blk.live] at hl
  have inv1 : Inv c1 mt w (maskV V 0 Hj) := by
    refine ⟨by simp only [mt]; rw [maskV_len], h.imm, .refl _, fun b o hb => .inl hb, ?_, fun i B b hi hl hb => .inr ⟨i, B, hi, hl, hb⟩, ?_, rfl, rfl, rfl, Nat.le_refl _, fun _ _ _ => rfl, fun i hi => ⟨hi, rfl⟩⟩
    · intro i B hi
      by_cases hno : B = .no
      · subst hno; trivial
      · obtain ⟨hin, hlt, hj, hr⟩ := hvis i B hi hno
        refine (h.ok i B hr).on (.refl _) (fun k hk => ⟨(hV i hin hlt).2 B hj k hk, rfl⟩) (fun b hl hb => ⟨(hat i B b hr hl hb).1, rfl⟩)
    · intro i j B B' b hi hj hl hl' hb hb'
      obtain ⟨_, _, _, hr⟩ := hvis i B hi (live_no B hl)
      obtain ⟨_, _, _, hr'⟩ := hvis j B' hj (live_no B' hl')
      exact h.disj i j B B' b hr hr' hl hl' hb hb'
  obtain ⟨u, r1, run⟩ := aStill_ok (P := P) hE inv1 (s := sl) (ρ := a.eval) (fun x => (hs x).on (.refl _) (fun k hk => ⟨hsl x k hk, rfl⟩)) hv
  refine ⟨u, r1.on (.refl _) (fun k hk => ⟨?_, rfl⟩), run⟩
  have h1 : k < mt.n := r1.idxs_lt k hk
  have h2 : mt.n = Hj.length := rfl
  rw [h.len]; omega

end Go.Fw

end
