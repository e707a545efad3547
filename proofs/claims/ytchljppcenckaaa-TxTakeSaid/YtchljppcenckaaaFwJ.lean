/- The abstract machine, and the contracts of the code: part 11. -/
import Derived.Test.YtchljppcenckaaaFwI

section
/- Calls by their contracts: arguments as trees, results as blocks of the caller's own. -/
namespace Go.Fw
set_option linter.unusedVariables false
set_option linter.unusedSimpArgs false
open Go

abbrev Fun := List T → Option (List Blk × AV)

structure Enters (P : Program) (f : FuncId) : Prop where
  fn : ∃ fn, P.funcs[f]? = some fn ∧ (fn.name == "runtime.NumGoroutine") = false ∧ fn.body.isNone = false

def ctx0 (w : World) (M : Nat → Option Obj) : Ctx := ⟨w, fun _ => False, M, 0, fun _ => undef⟩

def ACon (P : Program) (f : FuncId) (F : Fun) : Prop :=
  Enters P f ∧ ∀ (ts : List T) (H : List Blk) (r : AV), F ts = some (H, r) → ∀ (M : Nat → Option Obj) (w : World) (vs : List Value), MLe M (snap w) → vs.length = ts.length →
    (∀ (i : Nat) (t : T), ts[i]? = some t → ∃ u, vs[i]? = some u ∧ RelT M t u) →
    Calls P f vs.toArray w (fun e w' => ∃ m' v, e = .returned v ∧ Inv (ctx0 w M) m' w' H ∧ RelA m' r v)

/-! ### Values that hold no memory, values moved to other numbers. -/

mutual
def T.clean : T → Bool
  | .by _ | .sq _ _ => false
  | .ar _ _ xs => T.cleanL xs
  | .st xs => T.cleanL xs
  | _ => true
def T.cleanL : List T → Bool
  | [] => true
  | x :: xs => x.clean && T.cleanL xs
end

mutual
def AV.clean : AV → Bool
  | .t x => x.clean
  | .ip _ | .ex _ => false
  | .st xs | .tup xs | .clo _ xs => AV.cleanL xs
  | _ => true
def AV.cleanL : List AV → Bool
  | [] => true
  | x :: xs => x.clean && AV.cleanL xs
end

def Blk.clean : Blk → Bool
  | .sq _ xs => T.cleanL xs
  | .bx v => v.clean
  | .fz _ => false
  | .fb _ => false
  | _ => true

mutual
def AV.shift (n : Nat) : AV → AV
  | .own i => .own (i + n)
  | .sub i p sz off lo len => .sub (i + n) p sz off lo len
  | .ptr i off p => .ptr (i + n) off p
  | .st xs => .st (AV.shiftL n xs)
  | .tup xs => .tup (AV.shiftL n xs)
  | .clo f xs => .clo f (AV.shiftL n xs)
  | .any => .any
  | .und => .und
  | .t x => .t x
  | .ip x => .ip x
  | .ex x => .ex x
def AV.shiftL (n : Nat) : List AV → List AV
  | [] => []
  | x :: xs => x.shift n :: AV.shiftL n xs
end

def Blk.shift (n : Nat) : Blk → Blk
  | .bx v => .bx (v.shift n)
  | B => B

mutual
theorem T.clean_cells : ∀ (x : T), x.clean = true → ∀ c ∈ x.cells, c.clean = true
  | .ba n l, h, c, hc => by simp [T.cells] at hc; obtain ⟨d, _, rfl⟩ := hc; rfl
  | .ar n sz xs, h, c, hc => T.cleanL_cells xs (by simpa only [T.clean] using h) c (by simpa only [T.cells] using hc)
  | .st xs, h, c, hc => T.cleanL_cells xs (by simpa only [T.clean] using h) c (by simpa only [T.cells] using hc)
  | .int k n, h, c, hc => by simp [T.cells] at hc; subst hc; rfl
  | .bool b, h, c, hc => by simp [T.cells] at hc; subst hc; rfl
  | .str l, h, c, hc => by simp [T.cells] at hc; subst hc; rfl
  | .nilp, h, c, hc => by simp [T.cells] at hc; subst hc; rfl
  | .nilf, h, c, hc => by simp [T.cells] at hc; subst hc; rfl
  | .nil, h, c, hc => by simp [T.cells] at hc; subst hc; rfl
  | .fn f, h, c, hc => by simp [T.cells] at hc; subst hc; rfl
  | .op v, h, c, hc => by simp [T.cells] at hc; subst hc; rfl
  | .by l, h, c, hc => by simp [T.clean] at h
  | .sq sz xs, h, c, hc => by simp [T.clean] at h
theorem T.cleanL_cells : ∀ (xs : List T), T.cleanL xs = true → ∀ c ∈ T.cellsL xs, c.clean = true
  | [], h, c, hc => by simp [T.cellsL] at hc
  | x :: xs, h, c, hc => by
    simp only [T.cleanL, Bool.and_eq_true] at h
    simp only [T.cellsL, List.mem_append] at hc
    rcases hc with hc | hc
    · exact T.clean_cells x h.1 c hc
    · exact T.cleanL_cells xs h.2 c hc
end

theorem RelT.clean {M M' : Nat → Option Obj} {x : T} {v : Value} (h : RelT M x v) (hc : x.clean = true) : RelT M' x v := by
  induction h with
  | int h => exact .int h
  | bool => exact .bool
  | str h => exact .str h
  | nilp => exact .nilp
  | nilf => exact .nilf
  | nil => exact .nil
  | fn => exact .fn
  | op h => exact .op h
  | byn => simp [T.clean] at hc
  | «by» => simp [T.clean] at hc
  | sqn => simp [T.clean] at hc
  | sq => simp [T.clean] at hc
  | ba h => exact .ba h
  | ar hw ha _ ih =>
    rename_i xs _ _
    exact .ar hw ha fun i c hi => ih i c hi (T.cleanL_cells xs (by simpa only [T.clean] using hc) c (List.mem_of_getElem? hi))
  | st hw ha _ ih =>
    rename_i xs _ _
    exact .st hw ha fun i c hi => ih i c hi (T.cleanL_cells xs (by simpa only [T.clean] using hc) c (List.mem_of_getElem? hi))

mutual
theorem AV.shift_size (n : Nat) : ∀ (x : AV), (x.shift n).size = x.size ∧ ((x.shift n).wf ↔ x.wf) ∧ (x.shift n).cells = x.cells.map (AV.shift n)
  | .st xs => by
    obtain ⟨h1, h2, h3⟩ := AV.shiftL_size n xs
    simp only [AV.shift, AV.size, AV.wf, AV.cells]
    exact ⟨h1, h2, h3⟩
  | .t x => by simp [AV.shift, AV.cells]
  | .any => by simp [AV.shift, AV.cells]
  | .und => by simp [AV.shift, AV.cells]
  | .own _ => by simp [AV.shift, AV.cells, AV.size, AV.wf]
  | .sub _ _ _ _ _ _ => by simp [AV.shift, AV.cells, AV.size, AV.wf]
  | .ptr _ _ _ => by simp [AV.shift, AV.cells, AV.size, AV.wf]
  | .ip _ => by simp [AV.shift, AV.cells]
  | .ex _ => by simp [AV.shift, AV.cells]
  | .tup _ => by simp [AV.shift, AV.cells, AV.size, AV.wf]
  | .clo _ _ => by simp [AV.shift, AV.cells, AV.size, AV.wf]
theorem AV.shiftL_size (n : Nat) : ∀ (xs : List AV), AV.sizeL (AV.shiftL n xs) = AV.sizeL xs ∧ (AV.wfL (AV.shiftL n xs) ↔ AV.wfL xs) ∧ AV.cellsL (AV.shiftL n xs) = (AV.cellsL xs).map (AV.shift n)
  | [] => by simp [AV.shiftL, AV.cellsL]
  | x :: xs => by
    obtain ⟨h1, h2, h3⟩ := AV.shift_size n x
    obtain ⟨g1, g2, g3⟩ := AV.shiftL_size n xs
    simp only [AV.shiftL, AV.sizeL, AV.wfL, AV.cellsL, h1, g1, h2, g2, h3, g3, List.map_append, and_self]
end

mutual
theorem AV.clean_cells : ∀ (x : AV), x.clean = true → ∀ c ∈ x.cells, c.clean = true
  | .st xs, h, c, hc => AV.cleanL_cells xs (by simpa only [AV.clean] using h) c (by simpa only [AV.cells] using hc)
  | .t x, h, c, hc => by
    simp only [AV.cells, List.mem_map] at hc
    obtain ⟨d, hd, rfl⟩ := hc
    simpa only [AV.clean] using T.clean_cells x (by simpa only [AV.clean] using h) d hd
  | .any, h, c, hc => by simp [AV.cells] at hc; subst hc; exact h
  | .und, h, c, hc => by simp [AV.cells] at hc; subst hc; exact h
  | .own _, h, c, hc => by simp [AV.cells] at hc; subst hc; exact h
  | .sub _ _ _ _ _ _, h, c, hc => by simp [AV.cells] at hc; subst hc; exact h
  | .ptr _ _ _, h, c, hc => by simp [AV.cells] at hc; subst hc; exact h
  | .ip _, h, c, hc => by simp [AV.cells] at hc; subst hc; exact h
  | .ex _, h, c, hc => by simp [AV.cells] at hc; subst hc; exact h
  | .tup _, h, c, hc => by simp [AV.cells] at hc; subst hc; exact h
  | .clo _ _, h, c, hc => by simp [AV.cells] at hc; subst hc; exact h
theorem AV.cleanL_cells : ∀ (xs : List AV), AV.cleanL xs = true → ∀ c ∈ AV.cellsL xs, c.clean = true
  | [], h, c, hc => by simp [AV.cellsL] at hc
  | x :: xs, h, c, hc => by
    simp only [AV.cleanL, Bool.and_eq_true] at h
    simp only [AV.cellsL, List.mem_append] at hc
    rcases hc with hc | hc
    · exact AV.clean_cells x h.1 c hc
    · exact AV.cleanL_cells xs h.2 c hc
end

theorem AV.cleanL_get {xs : List AV} (h : AV.cleanL xs = true) {i : Nat} {c : AV} (hi : xs[i]? = some c) : c.clean = true := by
  induction xs generalizing i with
  | nil => simp at hi
  | cons x xs ih =>
    simp only [AV.cleanL, Bool.and_eq_true] at h
    cases i with
    | zero => simp at hi; subst hi; exact h.1
    | succ i => exact ih h.2 (by simpa using hi)

theorem AV.shiftL_eq (n : Nat) : ∀ (xs : List AV), AV.shiftL n xs = xs.map (AV.shift n)
  | [] => rfl
  | x :: xs => by simp [AV.shiftL, AV.shiftL_eq n xs]

/-- What the caller knows behind a call: its own blocks, and the callee's behind them. -/
def Mem.join (M : Nat → Option Obj) (m m1 : Mem) : Mem := { M := M, η := fun k => if k < m.n then m.η k else m1.η (k - m.n), n := m.n + m1.n }

theorem RelA.joined {M : Nat → Option Obj} {m m1 : Mem} {x : AV} {v : Value} (h : RelA m1 x v) (hM : MLe m1.M M ∨ x.clean = true) : RelA (Mem.join M m m1) (x.shift m.n) v := by
  have eη : ∀ i, (Mem.join M m m1).η (i + m.n) = m1.η i := fun i => by simp only [Mem.join]; rw [if_neg (by omega)]; congr 1; omega
  induction h with
  | any => exact .any
  | und => exact .und
  | t h =>
    rcases hM with hM | hM
    · exact .t (h.mono hM)
    · exact .t (h.clean (by simpa only [AV.clean] using hM))
  | own h =>
    rename_i i
    have := RelA.own (m := Mem.join M m m1) (i := i + m.n) (by simp only [Mem.join]; omega)
    rw [eη] at this
    exact this
  | sub h hl hx ha => exact .sub (by simp only [Mem.join]; omega) hl hx (by rw [eη]; exact ha)
  | ptr h hb => exact .ptr (by simp only [Mem.join]; omega) (by rw [eη]; exact hb)
  | ip hM' hw hr =>
    rcases hM with hM | hM
    · exact .ip (hM _ _ hM') hw fun i c hi => let ⟨u, h1, h2⟩ := hr i c hi; ⟨u, h1, h2.mono hM⟩
    · simp [AV.clean] at hM
  | ex h =>
    rcases hM with hM | hM
    · exact .ex (h.mono hM)
    · simp [AV.clean] at hM
  | st hw ha _ ih =>
    rename_i xs _ _
    obtain ⟨h1, h2, h3⟩ := AV.shiftL_size m.n xs
    refine .st (h2.2 hw) (by rw [h1]; exact ha) fun i c hi => ?_
    rw [h3, List.getElem?_map, Option.map_eq_some_iff] at hi
    obtain ⟨d, hd, rfl⟩ := hi
    exact ih i d hd (hM.imp id fun hc => AV.cleanL_cells xs (by simpa only [AV.clean] using hc) d (List.mem_of_getElem? hd))
  | tup ha _ ih =>
    rename_i xs _ _
    refine .tup (by rw [AV.shiftL_eq, List.length_map]; exact ha) fun i c hi => ?_
    rw [AV.shiftL_eq, List.getElem?_map, Option.map_eq_some_iff] at hi
    obtain ⟨d, hd, rfl⟩ := hi
    exact ih i d hd (hM.imp id fun hc => AV.cleanL_get (by simpa only [AV.clean] using hc) hd)
  | clo ha _ ih =>
    rename_i xs _ _
    refine .clo (by rw [AV.shiftL_eq, List.length_map]; exact ha) fun i c hi => ?_
    rw [AV.shiftL_eq, List.getElem?_map, Option.map_eq_some_iff] at hi
    obtain ⟨d, hd, rfl⟩ := hi
    exact ih i d hd (hM.imp id fun hc => AV.cleanL_get (by simpa only [AV.clean] using hc) hd)

theorem Ext.join (M : Nat → Option Obj) (m m1 : Mem) (hM : MLe m.M M) : Ext m (Mem.join M m m1) :=
  ⟨hM, by simp only [Mem.join]; omega, fun i hi => by simp only [Mem.join]; rw [if_pos hi]⟩

theorem BlkOk.joined {M : Nat → Option Obj} {m m1 : Mem} {w : World} {B : Blk} {hd : Value} (h : BlkOk m1 w B hd) (hM : MLe m1.M M ∨ B.clean = true)
    (hb : ∀ b, B.live = true → blk hd = some b → M b = none) : BlkOk (Mem.join M m m1) w (B.shift m.n) hd := by
  cases B with
  | «by» l =>
    rcases h with h | ⟨b, cap, cur, e, rfl, h1, h2, h3, h4, _, h6⟩
    · exact .inl h
    · exact .inr ⟨b, cap, cur, e, rfl, h1, h2, h3, h4, hb b rfl rfl, h6⟩
  | sq sz xs =>
    obtain ⟨hw, h⟩ := h
    refine ⟨hw, ?_⟩
    rcases h with h | ⟨b, cap, cur, e, rfl, h1, h2, h3, h4, _, h6⟩
    · exact .inl h
    · refine .inr ⟨b, cap, cur, e, rfl, h1, h2, h3, h4, hb b rfl rfl, fun j c hj => ?_⟩
      obtain ⟨u, hu, hr⟩ := h6 j c hj
      refine ⟨u, hu, ?_⟩
      rcases hM with hM | hM
      · exact hr.mono hM
      · exact hr.clean (T.cleanL_cells xs hM c (List.mem_of_getElem? hj))
  | bx v =>
    obtain ⟨b, cur, e, rfl, h1, _, h3, h4, h5⟩ := h
    obtain ⟨g1, g2, g3⟩ := AV.shift_size m.n v
    refine ⟨b, cur, e, rfl, h1, hb b rfl rfl, g2.2 h3, by rw [g1]; exact h4, fun j c hj => ?_⟩
    rw [g3, List.getElem?_map, Option.map_eq_some_iff] at hj
    obtain ⟨d, hd, rfl⟩ := hj
    obtain ⟨u, hu, hr⟩ := h5 j d hd
    exact ⟨u, hu, hr.joined (hM.imp id fun hc => AV.clean_cells v hc d (List.mem_of_getElem? hd))⟩
  | fb x =>
    rcases hM with hM | hM
    · obtain ⟨hw, b, cur, e, fr, h1, h2, h3⟩ := h
      exact ⟨hw, b, cur, e, fr, h1, hM _ _ h2, fun j c hj => let ⟨u, a, b⟩ := h3 j c hj; ⟨u, a, b.mono hM⟩⟩
    · simp [Blk.clean] at hM
  | fz x =>
    rcases hM with hM | hM
    · exact ⟨h.1.mono hM, fun a n k he => let ⟨h0, cur, ty, fr, hc⟩ := h.2 a n k he; ⟨h0, cur, ty, fr, hM _ _ hc⟩⟩
    · simp [Blk.clean] at hM
  | no => trivial

theorem Blk.shift_live (n : Nat) (B : Blk) : (B.shift n).live = B.live := by cases B <;> rfl

def cleanBs : List Blk → Bool
  | [] => true
  | B :: r => B.clean && cleanBs r

theorem cleanBs_get {H : List Blk} (h : cleanBs H = true) {i : Nat} {B : Blk} (hi : H[i]? = some B) : B.clean = true := by
  induction H generalizing i with
  | nil => simp at hi
  | cons x xs ih =>
    simp only [cleanBs, Bool.and_eq_true] at h
    cases i with
    | zero => simp at hi; subst hi; exact h.1
    | succ i => exact ih h.2 (by simpa using hi)

/-- Behind a call that was lent nothing. -/
theorem Inv.call {c : Ctx} {m m1 : Mem} {w w1 : World} {H H1 : List Blk} {Mc M : Nat → Option Obj} (h : Inv c m w H) (h1 : Inv (ctx0 w Mc) m1 w1 H1)
    (hM : (MLe m1.M M ∧ M = m1.M ∧ MLe m.M Mc ∧ ∀ (i : Nat) (B : Blk) (b : Nat), H[i]? = some B → B.live = true → blk (m.η i) = some b → Mc b = none) ∨ (M = m.M ∧ cleanBs H1 = true)) (hMw : MLe Mc (Go.Fw.snap w))
    (hMc : ∀ b o, Mc b = some o → m.M b = some o ∨ M = m.M) :
    Inv c (Mem.join M m m1) w1 (H ++ H1.map (Blk.shift m.n)) := by
  have hat : ∀ k B b, H[k]? = some B → B.live = true → blk (m.η k) = some b → m.M b = none ∧ b < w.heap.size := fun k B b hk hl hb => (h.ok k B hk).at hl hb
  have hold : ∀ b, b < w.heap.size → w1.heap[b]? = w.heap[b]? := fun b hb => h1.frame b hb (fun h => h)
  have hnew : ∀ k B b, H1[k]? = some B → B.live = true → blk (m1.η k) = some b → w.heap.size ≤ b := fun k B b hk hl hb => (h1.own k B b hk hl hb).resolve_right (fun h => h)
  have hMle : MLe m.M M := by
    rcases hM with ⟨_, rfl, h3, _⟩ | ⟨rfl, _⟩
    · exact h3.trans h1.le
    · exact .refl _
  have himm : ∀ b o, M b = some o → w1.heap[b]? = some o := by
    intro b o hb
    rcases hM with ⟨_, rfl, _⟩ | ⟨rfl, _⟩
    · exact h1.imm b o hb
    · have := h.imm b o hb
      rw [hold b (lt_of_heap this)]; exact this
  have hnone : ∀ k B b, H[k]? = some B → B.live = true → blk (m.η k) = some b → M b = none := by
    intro k B b hk hl hb
    obtain ⟨g1, g2⟩ := hat k B b hk hl hb
    rcases hM with ⟨_, rfl, _, h4⟩ | ⟨rfl, _⟩
    · cases e : m1.M b with
      | none => rfl
      | some o =>
        rcases h1.new b o e with h5 | ⟨h5 | h5, hp⟩
        · have h5' : Mc b = some o := h5
          rw [h4 k B b hk hl hb] at h5'; cases h5'
        · have : w.heap.size ≤ b := h5
          omega
        · exact h5.elim
    · exact g1
  have hget : ∀ k B, (H ++ H1.map (Blk.shift m.n))[k]? = some B → (k < m.n ∧ H[k]? = some B ∧ (Mem.join M m m1).η k = m.η k) ∨
      (m.n ≤ k ∧ ∃ B', H1[k - m.n]? = some B' ∧ B = B'.shift m.n ∧ (Mem.join M m m1).η k = m1.η (k - m.n)) := by
    intro k B hk
    rcases Nat.lt_or_ge k H.length with hlt | hge
    · rw [List.getElem?_append_left hlt] at hk
      exact .inl ⟨by rw [h.len]; exact hlt, hk, by simp only [Mem.join]; rw [if_pos (by rw [h.len]; exact hlt)]⟩
    · rw [List.getElem?_append_right hge, List.getElem?_map, Option.map_eq_some_iff] at hk
      obtain ⟨B', hB', rfl⟩ := hk
      rw [← h.len] at hB' hge
      exact .inr ⟨hge, B', hB', rfl, by simp only [Mem.join]; rw [if_neg (by omega)]⟩
  refine ⟨by simp [Mem.join, h.len, h1.len], himm, h.le.trans hMle, ?_, ?_, ?_, ?_, h1.os.trans h.os, h1.tape.trans h.tape, h1.output.trans h.output, Nat.le_trans h.size h1.size, ?_, fun i hi => ⟨by have := (h.keep i hi).1; simp only [Mem.join]; omega, by rw [← (h.keep i hi).2]; simp only [Mem.join]; rw [if_pos (h.keep i hi).1]⟩⟩
  · intro b o hb
    rcases hM with ⟨_, rfl, h3, _⟩ | ⟨rfl, _⟩
    · have hb' : m1.M b = some o := hb
      rcases h1.new b o hb' with h5 | ⟨h5 | h5, hp⟩
      · rcases hMc b o h5 with h6 | h6
        · exact h.new b o h6
        · rw [h6] at hb'; exact h.new b o hb'
      · exact .inr ⟨.inl (Nat.le_trans h.size h5), hp⟩
      · exact h5.elim
    · exact h.new b o hb
  · intro k B hk
    rcases hget k B hk with ⟨hlt, hk', he⟩ | ⟨hge, B', hk', rfl, he⟩
    · rw [he]
      exact (h.ok k B hk').move (Ext.join M m m1 hMle) (fun b hl hb => hnone k B b hk' hl hb) (fun b hl hb => hold b (hat k B b hk' hl hb).2)
    · rw [he]
      refine (h1.ok _ B' hk').joined ?_ ?_
      · rcases hM with ⟨h2, _⟩ | ⟨_, h2⟩
        · exact .inl h2
        · exact .inr (cleanBs_get h2 hk')
      · intro b hl hb
        have hb1 := hnew _ B' b hk' hl hb
        have hb2 := ((h1.ok _ B' hk').at hl hb).1
        rcases hM with ⟨_, rfl, _⟩ | ⟨rfl, _⟩
        · exact hb2
        · exact M_fresh h hb1
  · intro k B b hk hl hb
    rcases hget k B hk with ⟨hlt, hk', he⟩ | ⟨hge, B', hk', rfl, he⟩
    · rw [he] at hb; exact h.own k B b hk' hl hb
    · rw [he] at hb
      rw [Blk.shift_live] at hl
      exact .inl (Nat.le_trans h.size (hnew _ B' b hk' hl hb))
  · intro i j B B' b hi hj hl hl' hb hb'
    rcases hget i B hi with ⟨hlt, hi', he⟩ | ⟨hge, B1, hi', rfl, he⟩ <;> rcases hget j B' hj with ⟨hlt', hj', he'⟩ | ⟨hge', B2, hj', rfl, he'⟩ <;> rw [he] at hb <;> rw [he'] at hb'
    · exact h.disj i j B B' b hi' hj' hl hl' hb hb'
    · rw [Blk.shift_live] at hl'
      have := hnew _ B2 b hj' hl' hb'
      have := (hat _ B b hi' hl hb).2
      omega
    · rw [Blk.shift_live] at hl
      have := hnew _ B1 b hi' hl hb
      have := (hat _ B' b hj' hl' hb').2
      omega
    · rw [Blk.shift_live] at hl hl'
      have := h1.disj _ _ B1 B2 b hi' hj' hl hl' hb hb'
      omega
  · intro b hb hO
    rw [hold b (Nat.lt_of_lt_of_le hb h.size)]
    exact h.frame b hb hO

end Go.Fw

end
