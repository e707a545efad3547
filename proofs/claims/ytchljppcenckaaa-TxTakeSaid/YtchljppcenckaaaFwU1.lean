/- The abstract machine, and the contracts of the code: part 31. -/
import Derived.Test.YtchljppcenckaaaFwT8

section
/- Calls of functions that are lent blocks: the blocks that go along, the blocks that come back. -/
namespace Go.Fw
set_option linter.unusedVariables false
set_option linter.unusedSimpArgs false
open Go

abbrev GFun := List Blk → List AV → Option (List Blk × AV)

def lent (m : Mem) (HB : List Blk) (b : Nat) : Prop := ∃ i B, HB[i]? = some B ∧ B.live = true ∧ blk (m.η i) = some b

def ctxL (w : World) (m : Mem) (HB : List Blk) : Ctx := ⟨w, lent m HB, m.M, HB.length, m.η⟩

def GCon (P : Program) (f : FuncId) (G : GFun) : Prop :=
  Enters P f ∧ ∀ (HB : List Blk) (xs : List AV) (H' : List Blk) (r : AV), G HB xs = some (H', r) → ∀ (m : Mem) (w : World) (vs : List Value), Inv (ctxL w m HB) m w HB → vs.length = xs.length →
    (∀ (i : Nat) (x : AV), xs[i]? = some x → ∃ u, vs[i]? = some u ∧ RelA m x u) →
    Calls P f vs.toArray w (fun e w' => ∃ m' v, e = .returned v ∧ MLe m.M m'.M ∧ Inv (ctxL w m HB) m' w' H' ∧ RelA m' r v)

/-! ### Other numbers, by a function. -/

mutual
def AV.rmap (f : Nat → Nat) : AV → AV
  | .own i => .own (f i)
  | .sub i p sz off lo len => .sub (f i) p sz off lo len
  | .ptr i off p => .ptr (f i) off p
  | .st xs => .st (AV.rmapL f xs)
  | .tup xs => .tup (AV.rmapL f xs)
  | .clo g xs => .clo g (AV.rmapL f xs)
  | .any => .any
  | .und => .und
  | .t x => .t x
  | .ip x => .ip x
  | .ex x => .ex x
def AV.rmapL (f : Nat → Nat) : List AV → List AV
  | [] => []
  | x :: xs => x.rmap f :: AV.rmapL f xs
end

def Blk.rmap (f : Nat → Nat) : Blk → Blk
  | .bx v => .bx (v.rmap f)
  | B => B

mutual
theorem AV.rmap_size (f : Nat → Nat) : ∀ (x : AV), (x.rmap f).size = x.size ∧ ((x.rmap f).wf ↔ x.wf) ∧ (x.rmap f).cells = x.cells.map (AV.rmap f)
  | .st xs => by
    obtain ⟨h1, h2, h3⟩ := AV.rmapL_size f xs
    simp only [AV.rmap, AV.size, AV.wf, AV.cells]
    exact ⟨h1, h2, h3⟩
  | .t x => by simp [AV.rmap, AV.cells]
  | .any => by simp [AV.rmap, AV.cells]
  | .und => by simp [AV.rmap, AV.cells]
  | .own _ => by simp [AV.rmap, AV.cells, AV.size, AV.wf]
  | .sub _ _ _ _ _ _ => by simp [AV.rmap, AV.cells, AV.size, AV.wf]
  | .ptr _ _ _ => by simp [AV.rmap, AV.cells, AV.size, AV.wf]
  | .ip _ => by simp [AV.rmap, AV.cells]
  | .ex _ => by simp [AV.rmap, AV.cells]
  | .tup _ => by simp [AV.rmap, AV.cells, AV.size, AV.wf]
  | .clo _ _ => by simp [AV.rmap, AV.cells, AV.size, AV.wf]
theorem AV.rmapL_size (f : Nat → Nat) : ∀ (xs : List AV), AV.sizeL (AV.rmapL f xs) = AV.sizeL xs ∧ (AV.wfL (AV.rmapL f xs) ↔ AV.wfL xs) ∧ AV.cellsL (AV.rmapL f xs) = (AV.cellsL xs).map (AV.rmap f)
  | [] => by simp [AV.rmapL, AV.cellsL]
  | x :: xs => by
    obtain ⟨h1, h2, h3⟩ := AV.rmap_size f x
    obtain ⟨g1, g2, g3⟩ := AV.rmapL_size f xs
    simp only [AV.rmapL, AV.sizeL, AV.wfL, AV.cellsL, h1, g1, h2, g2, h3, g3, List.map_append, and_self]
end

theorem AV.rmapL_eq (f : Nat → Nat) : ∀ (xs : List AV), AV.rmapL f xs = xs.map (AV.rmap f)
  | [] => rfl
  | x :: xs => by simp [AV.rmapL, AV.rmapL_eq f xs]

theorem Blk.rmap_live (f : Nat → Nat) (B : Blk) : (B.rmap f).live = B.live := by cases B <;> rfl

theorem RelA.rmap {m1 m' : Mem} {f : Nat → Nat} (hf : ∀ i, i < m1.n → f i < m'.n ∧ m'.η (f i) = m1.η i) {x : AV} {v : Value} (h : RelA m1 x v) (hM : MLe m1.M m'.M ∨ x.clean = true) : RelA m' (x.rmap f) v := by
  induction h with
  | any => exact .any
  | und => exact .und
  | t h =>
    rcases hM with hM | hM
    · exact .t (h.mono hM)
    · exact .t (h.clean (by simpa only [AV.clean] using hM))
  | own h =>
    rename_i i
    have := RelA.own (m := m') (i := f i) (hf i h).1
    rw [(hf i h).2] at this
    exact this
  | sub h hl hx ha => exact .sub (hf _ h).1 hl hx (by rw [(hf _ h).2]; exact ha)
  | ptr h hb => exact .ptr (hf _ h).1 (by rw [(hf _ h).2]; exact hb)
  | ip hM' hw hr =>
    rcases hM with hM | hM
    · exact .ip (hM _ _ hM') hw fun i c hi => let ⟨u, h1, h2⟩ := hr i c hi; ⟨u, h1, h2.mono hM⟩
    · simp [AV.clean] at hM
  | ex h =>
    rcases hM with hM | hM
    · exact .ex (h.mono hM)
    · simp [AV.clean] at hM
  | st hw ha _ ih =>
    rename_i xs _ _
    obtain ⟨h1, h2, h3⟩ := AV.rmapL_size f xs
    refine .st (h2.2 hw) (by rw [h1]; exact ha) fun i c hi => ?_
    rw [h3, List.getElem?_map, Option.map_eq_some_iff] at hi
    obtain ⟨d, hd, rfl⟩ := hi
    exact ih i d hd (hM.imp id fun hc => AV.cleanL_cells xs (by simpa only [AV.clean] using hc) d (List.mem_of_getElem? hd))
  | tup ha _ ih =>
    rename_i xs _ _
    refine .tup (by rw [AV.rmapL_eq, List.length_map]; exact ha) fun i c hi => ?_
    rw [AV.rmapL_eq, List.getElem?_map, Option.map_eq_some_iff] at hi
    obtain ⟨d, hd, rfl⟩ := hi
    exact ih i d hd (hM.imp id fun hc => AV.cleanL_get (by simpa only [AV.clean] using hc) hd)
  | clo ha _ ih =>
    rename_i xs _ _
    refine .clo (by rw [AV.rmapL_eq, List.length_map]; exact ha) fun i c hi => ?_
    rw [AV.rmapL_eq, List.getElem?_map, Option.map_eq_some_iff] at hi
    obtain ⟨d, hd, rfl⟩ := hi
    exact ih i d hd (hM.imp id fun hc => AV.cleanL_get (by simpa only [AV.clean] using hc) hd)

theorem BlkOk.rmap {m1 m' : Mem} {f : Nat → Nat} (hf : ∀ i, i < m1.n → f i < m'.n ∧ m'.η (f i) = m1.η i) {w : World} {B : Blk} {hd : Value} (h : BlkOk m1 w B hd) (hM : MLe m1.M m'.M ∨ B.clean = true)
    (hb : ∀ b, B.live = true → blk hd = some b → m'.M b = none) : BlkOk m' w (B.rmap f) hd := by
  cases B with
  | «by» l =>
    rcases h with h | ⟨b, cap, cur, e, rfl, h1, h2, h3, h4, _, h6⟩
    · exact .inl h
    · exact .inr ⟨b, cap, cur, e, rfl, h1, h2, h3, h4, hb b rfl rfl, h6⟩
  | sq sz xs =>
    obtain ⟨hw, h⟩ := h
    refine ⟨hw, ?_⟩
    rcases h with h | ⟨b, cap, cur, e, rfl, h1, h2, h3, h4, _, h6⟩
    · exact .inl h
    · refine .inr ⟨b, cap, cur, e, rfl, h1, h2, h3, h4, hb b rfl rfl, fun j c hj => ?_⟩
      obtain ⟨u, hu, hr⟩ := h6 j c hj
      refine ⟨u, hu, ?_⟩
      rcases hM with hM | hM
      · exact hr.mono hM
      · exact hr.clean (T.cleanL_cells xs hM c (List.mem_of_getElem? hj))
  | bx v =>
    obtain ⟨b, cur, e, rfl, h1, _, h3, h4, h5⟩ := h
    obtain ⟨g1, g2, g3⟩ := AV.rmap_size f v
    refine ⟨b, cur, e, rfl, h1, hb b rfl rfl, g2.2 h3, by rw [g1]; exact h4, fun j c hj => ?_⟩
    rw [g3, List.getElem?_map, Option.map_eq_some_iff] at hj
    obtain ⟨d, hd, rfl⟩ := hj
    obtain ⟨u, hu, hr⟩ := h5 j d hd
    exact ⟨u, hu, hr.rmap hf (hM.imp id fun hc => AV.clean_cells v hc d (List.mem_of_getElem? hd))⟩
  | fb x =>
    rcases hM with hM | hM
    · obtain ⟨hw, b, cur, e, fr, h1, h2, h3⟩ := h
      exact ⟨hw, b, cur, e, fr, h1, hM _ _ h2, fun j c hj => let ⟨u, a, b⟩ := h3 j c hj; ⟨u, a, b.mono hM⟩⟩
    · simp [Blk.clean] at hM
  | fz x =>
    rcases hM with hM | hM
    · exact ⟨h.1.mono hM, fun a n k he => let ⟨h0, cur, ty, fr, hc⟩ := h.2 a n k he; ⟨h0, cur, ty, fr, hM _ _ hc⟩⟩
    · simp [Blk.clean] at hM
  | no => trivial

/-! ### What comes back. -/

def backF (ids : List Nat) (n k : Nat) : Nat := if k < ids.length then ids.getD k 0 else n + (k - ids.length)

def weave (ids : List Nat) (H1 : List Blk) (n : Nat) : Nat → List Blk → List Blk
  | _, [] => []
  | j, B :: r => (match idx j ids with
    | some k => ((H1[k]?).getD .no).rmap (backF ids n)
    | none => B) :: weave ids H1 n (j + 1) r

def gback (ids : List Nat) (H H1 : List Blk) : List Blk := weave ids H1 H.length 0 H ++ (H1.drop ids.length).map (Blk.rmap (backF ids H.length))

theorem weave_len (ids : List Nat) (H1 : List Blk) (n : Nat) : ∀ (H : List Blk) (j : Nat), (weave ids H1 n j H).length = H.length
  | [], j => rfl
  | B :: r, j => by simp [weave, weave_len ids H1 n r]

theorem weave_get (ids : List Nat) (H1 : List Blk) (n : Nat) : ∀ (H : List Blk) (j i : Nat), (weave ids H1 n j H)[i]? = (H[i]?).map fun B => match idx (j + i) ids with
    | some k => ((H1[k]?).getD .no).rmap (backF ids n)
    | none => B
  | [], j, i => by simp [weave]
  | B :: r, j, i => by
    simp only [weave]
    cases i with
    | zero => simp
    | succ i =>
      rw [List.getElem?_cons_succ, List.getElem?_cons_succ, weave_get ids H1 n r (j + 1) i]
      rw [show j + 1 + i = j + (i + 1) by omega]

theorem idx_none {i : Nat} {ids : List Nat} (h : idx i ids = none) : i ∉ ids := by
  induction ids with
  | nil => simp
  | cons j r ih =>
    simp only [idx] at h
    split at h
    · cases h
    · rename_i hne
      split at h
      · cases h
      · rename_i h'
        simp only [List.mem_cons, not_or]
        exact ⟨hne, ih h'⟩

/-- The memory that a callee is shown. -/
def Mem.lend (m : Mem) (ids : List Nat) (Mc : Nat → Option Obj) : Mem := { m.ren ids with M := Mc }

theorem lent_own {c : Ctx} {m : Mem} {w : World} {H : List Blk} (h : Inv c m w H) {ids : List Nat} {Mc : Nat → Option Obj} {b : Nat} (hl : lent (m.lend ids Mc) (renH ids H) b) :
    ∃ i B, i ∈ ids ∧ H[i]? = some B ∧ B.live = true ∧ blk (m.η i) = some b := by
  obtain ⟨k, B, hk, hlive, hb⟩ := hl
  simp only [renH, List.getElem?_map, Option.map_eq_some_iff] at hk
  obtain ⟨i, hi, rfl⟩ := hk
  have hη : (m.lend ids Mc).η k = m.η i := by simp [Mem.lend, Mem.ren, hi]
  rw [hη] at hb
  cases e : H[i]? with
  | none => rw [e] at hlive; simp [Blk.ren, Blk.live] at hlive
  | some B' =>
    rw [e] at hlive
    simp only [Option.getD_some, Blk.ren_live] at hlive
    exact ⟨i, B', List.mem_of_getElem? hi, e, hlive, hb⟩

/-- The blocks that go along, as the callee sees them. -/
theorem Inv.lend {c : Ctx} {m : Mem} {w : World} {H : List Blk} (h : Inv c m w H) {ids : List Nat} (hnd : ids.Nodup) {Mc : Nat → Option Obj} (hle : MLe m.M Mc) (himm : ∀ b o, Mc b = some o → w.heap[b]? = some o)
    (hlent : ∀ b, lent (m.lend ids Mc) (renH ids H) b → Mc b = none) : Inv (ctxL w (m.lend ids Mc) (renH ids H)) (m.lend ids Mc) w (renH ids H) := by
  have hr := Inv.ren (c := ⟨w, fun b => c.w0.heap.size ≤ b ∨ c.O b, m.M, 0, fun _ => undef⟩) (m := m) (w := w) (H := H)
    ⟨h.len, h.imm, .refl _, fun b o hb => .inl hb, h.ok, fun i B b hi hl hb => .inr (h.own i B b hi hl hb), h.disj, rfl, rfl, rfl, Nat.le_refl _, fun _ _ _ => rfl, fun i hi => by cases hi⟩ ids hnd (fun i hi => by cases hi)
  have hext : Ext (m.ren ids) (m.lend ids Mc) := ⟨hle, Nat.le_refl _, fun _ _ => rfl⟩
  refine ⟨hr.len, himm, .refl _, fun b o hb => .inl hb, ?_, ?_, hr.disj, rfl, rfl, rfl, Nat.le_refl _, fun _ _ _ => rfl, ?_⟩
  · intro k B hk
    exact (hr.ok k B hk).move hext (fun b hl hb => hlent b ⟨k, B, hk, hl, hb⟩) (fun _ _ _ => rfl)
  · intro k B b hk hl hb
    exact .inr ⟨k, B, hk, hl, hb⟩
  · intro i hi
    exact ⟨by simp only [ctxL] at hi; simp only [Mem.lend, Mem.ren]; simpa [renH] using hi, rfl⟩

def Mem.gjoin (M : Nat → Option Obj) (m m1 : Mem) (k : Nat) : Mem := { M := M, η := fun j => if j < m.n then m.η j else m1.η (j - m.n + k), n := m.n + (m1.n - k) }

/-- Behind a call that was lent blocks. -/
theorem Inv.gcall {c : Ctx} {m m1 : Mem} {w w1 : World} {H H1 : List Blk} {ids : List Nat} {Mc M : Nat → Option Obj} (h : Inv c m w H) (hnd : ids.Nodup) (hin : ∀ i ∈ ids, i < H.length)
    (h1 : Inv (ctxL w (m.lend ids Mc) (renH ids H)) m1 w1 H1) (hM : (Mc = m.M ∧ M = m1.M) ∨ (M = m.M ∧ cleanBs H1 = true)) :
    Inv c (Mem.gjoin M m m1 ids.length) w1 (gback ids H H1) ∧ Ext m (Mem.gjoin M m m1 ids.length) ∧
      (∀ i, i < m1.n → backF ids H.length i < (Mem.gjoin M m m1 ids.length).n ∧ (Mem.gjoin M m m1 ids.length).η (backF ids H.length i) = m1.η i) := by
  have hat : ∀ k B b, H[k]? = some B → B.live = true → blk (m.η k) = some b → m.M b = none ∧ b < w.heap.size := fun k B b hk hl hb => (h.ok k B hk).at hl hb
  have hrl : (renH ids H).length = ids.length := by simp [renH]
  have hkeep : ∀ k, k < ids.length → k < m1.n ∧ m1.η k = m.η (ids.getD k 0) := fun k hk => by
    have := h1.keep k (by show k < (renH ids H).length; rw [hrl]; exact hk)
    exact ⟨this.1, this.2.trans rfl⟩
  have hn1 : ids.length ≤ m1.n := by
    rcases Nat.eq_zero_or_pos ids.length with h0 | h0
    · omega
    · have := (hkeep (ids.length - 1) (by omega)).1; omega
  have hnotlent : ∀ j B b, H[j]? = some B → B.live = true → blk (m.η j) = some b → j ∉ ids → ¬ lent (m.lend ids Mc) (renH ids H) b := by
    intro j B b hj hl hb hnot hlent
    obtain ⟨i, B', hi, hB', hl', hb'⟩ := lent_own h hlent
    have := h.disj j i B B' b hj hB' hl hl' hb hb'
    subst this; exact hnot hi
  have hlentnone : ∀ b, lent (m.lend ids Mc) (renH ids H) b → m.M b = none ∧ b < w.heap.size ∧ (c.w0.heap.size ≤ b ∨ c.O b) := by
    intro b hb
    obtain ⟨i, B', hi, hB', hl', hb'⟩ := lent_own h hb
    exact ⟨(hat i B' b hB' hl' hb').1, (hat i B' b hB' hl' hb').2, h.own i B' b hB' hl' hb'⟩
  have hold : ∀ b, b < w.heap.size → ¬ lent (m.lend ids Mc) (renH ids H) b → w1.heap[b]? = w.heap[b]? := fun b hb hl => h1.frame b hb hl
  have hMle : MLe m.M M := by
    rcases hM with ⟨rfl, rfl⟩ | ⟨rfl, _⟩
    · exact h1.le
    · exact .refl _
  have himm : ∀ b o, M b = some o → w1.heap[b]? = some o := by
    intro b o hb
    rcases hM with ⟨_, rfl⟩ | ⟨rfl, _⟩
    · exact h1.imm b o hb
    · have := h.imm b o hb
      rw [hold b (lt_of_heap this) (fun hl => by rw [(hlentnone b hl).1] at hb; cases hb)]; exact this
  have hnone1 : ∀ b, b < w.heap.size → m.M b = none → ¬ lent (m.lend ids Mc) (renH ids H) b → M b = none := by
    intro b hb h0 hl
    rcases hM with ⟨hMc, rfl⟩ | ⟨rfl, _⟩
    · cases e : m1.M b with
      | none => rfl
      | some o =>
        rcases h1.new b o e with h5 | ⟨h5 | h5, hp⟩
        · have h5' : Mc b = some o := h5
          rw [hMc, h0] at h5'; cases h5'
        · have : w.heap.size ≤ b := h5
          omega
        · exact (hl h5).elim
    · exact h0
  have hnone2 : ∀ k B b, H1[k]? = some B → B.live = true → blk (m1.η k) = some b → M b = none := by
    intro k B b hk hl hb
    have hb2 := ((h1.ok _ B hk).at hl hb).1
    rcases hM with ⟨_, rfl⟩ | ⟨rfl, _⟩
    · exact hb2
    · rcases h1.own k B b hk hl hb with h5 | h5
      · exact M_fresh h h5
      · exact (hlentnone b h5).1
  have hwhere : ∀ k B b, H1[k]? = some B → B.live = true → blk (m1.η k) = some b → w.heap.size ≤ b ∨ lent (m.lend ids Mc) (renH ids H) b := fun k B b hk hl hb => h1.own k B b hk hl hb
  let m' := Mem.gjoin M m m1 ids.length
  have hext : Ext m m' := ⟨hMle, by simp only [m', Mem.gjoin]; omega, fun i hi => by simp only [m', Mem.gjoin]; rw [if_pos hi]⟩
  have hf : ∀ i, i < m1.n → backF ids H.length i < m'.n ∧ m'.η (backF ids H.length i) = m1.η i := by
    intro i hi
    simp only [backF, m', Mem.gjoin]
    split
    · rename_i hk
      have hmem : ids.getD i 0 ∈ ids := by
        rw [show ids.getD i 0 = ids[i] by simp [hk]]
        exact List.getElem_mem hk
      have hlt := hin _ hmem
      rw [← h.len] at hlt
      refine ⟨by omega, ?_⟩
      rw [if_pos hlt, (hkeep i hk).2]
    · rename_i hk
      rw [← h.len]
      refine ⟨by omega, ?_⟩
      rw [if_neg (by omega)]
      congr 1; omega
  have hget : ∀ j B, (gback ids H H1)[j]? = some B → (j < m.n ∧ j ∉ ids ∧ H[j]? = some B ∧ m'.η j = m.η j) ∨
      (∃ k B', H1[k]? = some B' ∧ B = B'.rmap (backF ids H.length) ∧ m'.η j = m1.η k ∧ j = backF ids H.length k) ∨ (B = .no) := by
    intro j B hj
    unfold gback at hj
    rcases Nat.lt_or_ge j H.length with hlt | hge
    · rw [List.getElem?_append_left (by rw [weave_len]; exact hlt), weave_get, Option.map_eq_some_iff] at hj
      obtain ⟨B0, hB0, rfl⟩ := hj
      rw [Nat.zero_add]
      have hjn : j < m.n := by rw [h.len]; exact hlt
      split
      · rename_i k hk
        have hik := idx_ok hk
        have hkl := (List.getElem?_eq_some_iff.1 hik).1
        cases e : H1[k]? with
        | none => exact .inr (.inr rfl)
        | some B' =>
          refine .inr (.inl ⟨k, B', e, rfl, ?_, ?_⟩)
          · simp only [m', Mem.gjoin]; rw [if_pos hjn, (hkeep k hkl).2]; simp [hik]
          · simp only [backF, if_pos hkl]; simp [hik]
      · rename_i hk
        exact .inl ⟨hjn, idx_none hk, hB0, by simp only [m', Mem.gjoin]; rw [if_pos hjn]⟩
    · rw [List.getElem?_append_right (by rw [weave_len]; exact hge), weave_len, List.getElem?_map, List.getElem?_drop, Option.map_eq_some_iff] at hj
      obtain ⟨B', hB', rfl⟩ := hj
      refine .inr (.inl ⟨ids.length + (j - H.length), B', hB', rfl, ?_, ?_⟩)
      · simp only [m', Mem.gjoin]; rw [if_neg (by rw [h.len]; omega), h.len]; congr 1; omega
      · simp only [backF]; rw [if_neg (by omega)]; omega
  have hinj : ∀ k k', k < m1.n → k' < m1.n → backF ids H.length k = backF ids H.length k' → k = k' := by
    intro k k' hk hk' he
    simp only [backF] at he
    have hlt : ∀ i, i < ids.length → ids.getD i 0 < H.length := fun i hi => by
      rw [show ids.getD i 0 = ids[i] by simp [hi]]
      exact hin _ (List.getElem_mem hi)
    split at he <;> split at he
    · rename_i h2 h3
      rw [show ids.getD k 0 = ids[k] by simp [h2], show ids.getD k' 0 = ids[k'] by simp [h3]] at he
      exact (List.getElem_inj hnd).1 he
    · rename_i h2 h3; have := hlt k h2; omega
    · rename_i h2 h3; have := hlt k' h3; omega
    · omega
  refine ⟨⟨?_, himm, h.le.trans hMle, ?_, ?_, ?_, ?_, h1.os.trans h.os, h1.tape.trans h.tape, h1.output.trans h.output, Nat.le_trans h.size h1.size, ?_, ?_⟩, hext, hf⟩
  · have := h1.len
    simp only [m', Mem.gjoin, gback, List.length_append, weave_len, List.length_map, List.length_drop, h.len, this]
  · intro b o hb
    rcases hM with ⟨hMc, hMe⟩ | ⟨hMe, _⟩
    · have hb' : m1.M b = some o := by rw [← hMe]; exact hb
      rcases h1.new b o hb' with h5 | ⟨h5 | h5, hp⟩
      · have h5' : Mc b = some o := h5
        rw [hMc] at h5'; exact h.new b o h5'
      · exact .inr ⟨.inl (Nat.le_trans h.size h5), hp⟩
      · exact .inr ⟨(hlentnone b h5).2.2, hp⟩
    · exact h.new b o (by rw [← hMe]; exact hb)
  · intro j B hj
    rcases hget j B hj with ⟨hlt, hnot, hj', he⟩ | ⟨k, B', hk, rfl, he, _⟩ | rfl
    · rw [he]
      exact (h.ok j B hj').move hext (fun b hl hb => hnone1 b (hat j B b hj' hl hb).2 (hat j B b hj' hl hb).1 (hnotlent j B b hj' hl hb hnot))
        (fun b hl hb => hold b (hat j B b hj' hl hb).2 (hnotlent j B b hj' hl hb hnot))
    · rw [he]
      refine (h1.ok k B' hk).rmap hf ?_ (fun b hl hb => hnone2 k B' b hk hl hb)
      rcases hM with ⟨_, rfl⟩ | ⟨_, h2⟩
      · exact .inl (.refl _)
      · exact .inr (cleanBs_get h2 hk)
    · trivial
  · intro j B b hj hl hb
    rcases hget j B hj with ⟨hlt, hnot, hj', he⟩ | ⟨k, B', hk, rfl, he, _⟩ | rfl
    · rw [he] at hb; exact h.own j B b hj' hl hb
    · rw [he] at hb; rw [Blk.rmap_live] at hl
      rcases hwhere k B' b hk hl hb with h5 | h5
      · exact .inl (Nat.le_trans h.size h5)
      · exact (hlentnone b h5).2.2
    · simp [Blk.live] at hl
  · intro i j B B' b hi hj hl hl' hb hb'
    have cross : ∀ (i : Nat) (B : Blk) (k : Nat) (B1 : Blk), H[i]? = some B → i ∉ ids → B.live = true → blk (m.η i) = some b → H1[k]? = some B1 → B1.live = true → blk (m1.η k) = some b → False := by
      intro i B k B1 h2 h3 h4 h5 h6 h7 h8
      rcases hwhere k B1 b h6 h7 h8 with h9 | h9
      · have := (hat i B b h2 h4 h5).2; omega
      · exact hnotlent i B b h2 h4 h5 h3 h9
    rcases hget i B hi with ⟨hlt, hnot, hi', he⟩ | ⟨k, B1, hk, rfl, he, hik⟩ | rfl
    · rw [he] at hb
      rcases hget j B' hj with ⟨hlt', hnot', hj', he'⟩ | ⟨k', B2, hk', rfl, he', hjk⟩ | rfl
      · rw [he'] at hb'; exact h.disj i j B B' b hi' hj' hl hl' hb hb'
      · rw [he'] at hb'; rw [Blk.rmap_live] at hl'
        exact (cross i B k' B2 hi' hnot hl hb hk' hl' hb').elim
      · simp [Blk.live] at hl'
    · rw [he] at hb; rw [Blk.rmap_live] at hl
      rcases hget j B' hj with ⟨hlt', hnot', hj', he'⟩ | ⟨k', B2, hk', rfl, he', hjk⟩ | rfl
      · rw [he'] at hb'
        exact (cross j B' k B1 hj' hnot' hl' hb' hk hl hb).elim
      · rw [he'] at hb'; rw [Blk.rmap_live] at hl'
        have := h1.disj k k' B1 B2 b hk hk' hl hl' hb hb'
        rw [hik, hjk, this]
      · simp [Blk.live] at hl'
    · simp [Blk.live] at hl
  · intro b hb hO
    rw [hold b (Nat.lt_of_lt_of_le hb h.size) (fun hl => by
      rcases (hlentnone b hl).2.2 with h5 | h5
      · omega
      · exact hO h5)]
    exact h.frame b hb hO
  · intro i hi
    obtain ⟨g1, g2⟩ := h.keep i hi
    exact ⟨by simp only [Mem.gjoin]; omega, by rw [← g2]; simp only [Mem.gjoin]; rw [if_pos g1]⟩

end Go.Fw

end
