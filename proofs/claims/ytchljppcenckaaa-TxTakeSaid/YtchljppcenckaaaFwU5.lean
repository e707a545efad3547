/- The abstract machine, and the contracts of the code: part 37. -/
import Derived.Test.YtchljppcenckaaaFwUa

section
/- A region whose order is drawn, operations that make or turn memory among them: the run in the order of the text, and what it tells. -/
namespace Go.Fw
set_option linter.unusedVariables false
set_option linter.unusedSimpArgs false
open Go

/-- What is said of an operation: 0: it looks at no memory; 1: it turns none, and may make some; 2: it may turn memory, in its order among all that look at memory. The slots that it looks at; operations that are surely ahead of it. Blocks from ahead of the region that nobody turns in it: an operation that turns nothing (0) may look at them; one that may turn memory (2) promises to leave them. -/
structure Info where
  cls : Nat
  looks : List Nat
  anc : List Nat
  st : List Nat := []

/-- An element's address, no block looked at. -/
def noOwn (E : Env) (t : TypeId) (x ix : AV) : Option AV :=
  match x with
  | .t y => aIndexAddr E [] t (.t y) ix
  | .ip y => aIndexAddr E [] t (.ip y) ix
  | .ptr i o p => aIndexAddr E [] t (.ptr i o p) ix
  | _ => none
/-- What is read only, loaded. -/
def noPtr (E : Env) (t : TypeId) (x : AV) : Option AV :=
  match x with
  | .ip y => aLoad E [] t (.ip y)
  | _ => none
/-- A number, converted. -/
def intOnly (E : Env) (src dst : TypeId) (x : AV) : Option AV :=
  match x with
  | .t (.int k n) => aConv E [] src dst (.t (.int k n))
  | _ => none
theorem noOwn_eq {E : Env} {t : TypeId} {x ix v : AV} (H : List Blk) (h : noOwn E t x ix = some v) : aIndexAddr E H t x ix = some v := by
  unfold noOwn at h
  split at h
  · rename_i y
    rw [← h]
    unfold aIndexAddr
    split
    · split
      · cases y <;> rfl
      · rfl
      · rfl
    · rfl
  · rename_i y
    rw [← h]
    unfold aIndexAddr
    split
    · split <;> rfl
    · rfl
  · rename_i i o p
    rw [← h]
    unfold aIndexAddr
    split
    · split <;> rfl
    · rfl
  · cases h
theorem noPtr_eq {E : Env} {t : TypeId} {x v : AV} (H : List Blk) (h : noPtr E t x = some v) : aLoad E H t x = some v := by
  unfold noPtr at h
  split at h
  · exact h
  · cases h
theorem intOnly_eq {E : Env} {src dst : TypeId} {x v : AV} (H : List Blk) (h : intOnly E src dst x = some v) : aConv E H src dst x = some v := by
  unfold intOnly at h
  split at h
  · exact h
  · cases h

def sstep (E : Env) (q : List TypeId) (s : Slots) (op : Op) : Option AV :=
  match op with
  | .move x => some (ev s x)
  | .assign x => some (ev s x)
  | .pick c a b => aStill E [] s (.pick c a b)
  | .nilCheck x => aStill E [] s (.nilCheck x)
  | .binOp op t x y _ => match aEqG E q op t (ev s x) (ev s y) with
    | some v => some v
    | none => aBin E op t (ev s x) (ev s y)
  | .unOp op t x => aUn op (ev s x)
  | .fieldAddr t x f => aFieldAddr E t (ev s x) f
  | .field t x f => aField E t (ev s x) f
  | .index t x i => aIndex E t (ev s x) (ev s i)
  | .extract x i => aStill E [] s (.extract x i)
  | .indexAddr t x i => noOwn E t (ev s x) (ev s i)
  | .load t x => noPtr E t (ev s x)
  | .convert src dst x => intOnly E src dst (ev s x)
  | .buildSlice t len parts => sBuild E s t len parts.toList
  | _ => none

theorem sstep_ok {P : Program} {E : Env} {q : List TypeId} (hX : XOk P E q) {c : Ctx} {m : Mem} {w : World} {H : List Blk} (h : Inv c m w H) {s : Slots} {a : Act} (hs : ∀ x, RelA m (ev s x) (a.eval x)) {o : Oper} {v : AV} (hv : sstep E q s o.op = some v) :
    ∃ m' w' u, Ext m m' ∧ Inv c m' w' H ∧ RelA m' v u ∧ (execOp a.eval o).run P w = .ok (.value u) w' := by
  have hE := hX.env
  have stay : (∃ u, RelA m v u ∧ (execOp a.eval o).run P w = .ok (.value u) w) → ∃ m' w' u, Ext m m' ∧ Inv c m' w' H ∧ RelA m' v u ∧ (execOp a.eval o).run P w = .ok (.value u) w' := fun ⟨u, r, run⟩ => ⟨m, w, u, .refl _, h, r, run⟩
  unfold sstep at hv
  split at hv
  · rename_i x hop
    cases hv
    refine stay ?_
    exact ⟨_, hs x, by simp [execOp, hop]⟩
  · rename_i x hop
    cases hv
    refine stay ?_
    exact ⟨_, hs x, by simp [execOp, hop]⟩
  · rename_i c' x y hop
    refine stay ?_
    exact aStill_ok (P := P) hE h hs (o := o) (by rw [hop]; exact hv)
  · rename_i x hop
    refine stay ?_
    exact aStill_ok (P := P) hE h hs (o := o) (by rw [hop]; exact hv)
  · rename_i op t x y yt hop
    refine stay ?_
    split at hv
    · rename_i v' hv'
      cases hv
      obtain ⟨u, r1, run⟩ := aEqG_ok (P := P) (w := w) (x := x) (y := y) hE hX.byte hX.eq hv' (hs x) (hs y)
      refine ⟨u, r1, ?_⟩
      simp only [execOp, hop]
      simp only [Sem.run_bind] at run ⊢
      rw [run]; rfl
    · obtain ⟨u, r1, run⟩ := run_aBin (P := P) (w := w) (x := x) (y := y) hE hv (hs x) (hs y)
      refine ⟨u, r1, ?_⟩
      simp only [execOp, hop]
      simp only [Sem.run_bind] at run ⊢
      rw [run]; rfl
  · rename_i op t x hop
    refine stay ?_
    obtain ⟨u, r1, run⟩ := aUn_ok (P := P) (w := w) (hs x) hv
    exact ⟨u, r1, by simp [execOp, hop, run]⟩
  · rename_i t x f hop
    refine stay ?_
    obtain ⟨u, r1, run⟩ := aFieldAddr_ok (w := w) hE (hs x) hv
    exact ⟨u, r1, by simp [execOp, hop, run]⟩
  · rename_i t x f hop
    refine stay ?_
    obtain ⟨u, r1, run⟩ := aField_ok (w := w) hE (hs x) hv
    exact ⟨u, r1, by simp [execOp, hop, run]⟩
  · rename_i t x i hop
    refine stay ?_
    obtain ⟨u, r1, run⟩ := aIndex_ok (w := w) hE (hs x) (hs i) hv
    exact ⟨u, r1, by simp [execOp, hop, run]⟩
  · rename_i x i hop
    refine stay ?_
    exact aStill_ok (P := P) hE h hs (o := o) (by rw [hop]; exact hv)
  · rename_i t x i hop
    refine stay ?_
    exact aStill_ok (P := P) hE h hs (o := o) (by rw [hop]; exact noOwn_eq H hv)
  · rename_i t x hop
    refine stay ?_
    exact aStill_ok (P := P) hE h hs (o := o) (by rw [hop]; exact noPtr_eq H hv)
  · rename_i src dst x hop
    refine stay ?_
    exact aStill_ok (P := P) hE h hs (o := o) (by rw [hop]; exact intOnly_eq H hv)
  · rename_i t len parts hop
    obtain ⟨m', w', u, e1, i1, r1, run⟩ := sBuild_ok (P := P) hE h hs hv
    exact ⟨m', w', u, e1, i1, r1, by simp only [execOp, hop, Sem.run_bind, run, Result.andThen_ok, Sem.run_pure]⟩
  · cases hv

/-- Is a block one of the first, or made by an operation that is surely ahead? -/
def posA (n0 : Nat) (lens anc : List Nat) (i : Nat) : Bool := decide (i < n0) || anc.any fun k => decide (lens.getD k 0 ≤ i) && decide (i < lens.getD (k + 1) 0)

def posV (n0 : Nat) (lens anc : List Nat) (top top2 i : Nat) : Bool := (decide (top ≤ i) && decide (i < top2)) || posA n0 lens anc i

def slIdxs : Slots → List Nat
  | [] => []
  | (_, v) :: r => v.idxs ++ slIdxs r

def blksIdxs : List Blk → List Nat
  | [] => []
  | B :: r => blkIdxs B ++ blksIdxs r

def viewOk (H : List Blk) : List Nat → Bool
  | [] => true
  | i :: r => (match H[i]? with
    | some B => (blkIdxs B).all fun k => decide (k < H.length)
    | none => true) && viewOk H r

open Classical in
noncomputable def dA (E : Env) (q : List TypeId) (gl : GCalls) (n0 : Nat) (lens anc : List Nat) (sl : Slots) (V : List Nat) (H : List Blk) (op : Op) : Option (AV × List Blk) :=
  if ((slIdxs sl).all (fun k => decide (k < H.length)) && V.all (fun i => posA n0 lens anc i) && viewOk H V) = true then
    match gstep E q gl sl (maskV V 0 H) op with
    | some (v, H') => if H'.take H.length = maskV V 0 H then
        (if (v.idxs.all (fun i => posV n0 lens anc H.length (H ++ H'.drop H.length).length i) && (blksIdxs (H'.drop H.length)).all (fun i => posV n0 lens anc H.length (H ++ H'.drop H.length).length i)) = true then some (v, H ++ H'.drop H.length) else none)
      else none
    | none => none
  else none

open Classical in
/-- Are these blocks as they were? -/
noncomputable def sameAt (H H' : List Blk) : List Nat → Prop
  | [] => True
  | i :: r => if H'[i]? = H[i]? then sameAt H H' r else False

open Classical in
noncomputable def dZ (n0 : Nat) (lens anc st : List Nat) (H : List Blk) (r : Option (AV × List Blk)) : Option (AV × List Blk) :=
  match r with
  | some (v, H') => if (v.idxs.all (fun i => posV n0 lens anc H.length H'.length i) && decide (H.length ≤ H'.length)) = true then (if sameAt H H' st then some (v, H') else none) else none
  | none => none

def dS (n0 : Nat) (lens anc : List Nat) (H : List Blk) (r : Option AV) : Option (AV × List Blk) :=
  match r with
  | some v => if v.idxs.all (fun i => posA n0 lens anc i) = true then some (v, H) else none
  | none => none

/-- An operation that turns nothing: it looks at no block, or at such as nobody turns. -/
def dC (E : Env) (q : List TypeId) (n0 : Nat) (st : List Nat) (sl : Slots) (H : List Blk) (op : Op) : Option AV :=
  match st with
  | [] => sstep E q sl op
  | i :: r => if ((slIdxs sl).all (fun k => decide (k < n0)) && (i :: r).all (fun k => decide (k < n0)) && viewOk (H.take n0) (i :: r)) = true then aStill E (maskV (i :: r) 0 (H.take n0)) sl op else none

noncomputable def dstep (E : Env) (q : List TypeId) (gl : GCalls) (n0 : Nat) (lens : List Nat) (f : Info) (s : Slots) (H : List Blk) (op : Op) : Option (AV × List Blk) :=
  if f.cls = 0 then dS n0 lens f.anc H (dC E q n0 f.st (prune f.looks s) H op)
  else if f.cls = 1 then dA E q gl n0 lens f.anc (prune f.looks s) (reach H 60 (slIdxs (prune f.looks s)) []) H op
  else dZ n0 lens f.anc f.st H (gstep E q gl (prune f.looks s) H op)

def dputs (N : Nat) (o : Oper) (v : AV) (s : Slots) : Option Slots := aputs N o v s

noncomputable def drun (E : Env) (q : List TypeId) (gl : GCalls) (N : Nat) (ops : List Oper) (n0 : Nat) : List (Oper × Info) → List Nat → Slots → List Blk → Option AS
  | [], _, s, H => some ⟨s, H⟩
  | (o, f) :: l, lens, s, H => match wantA ops s o with
    | some true => match dstep E q gl n0 lens f s H o.op with
      | some (v, H') => match aputs N o v s with
        | some s' => drun E q gl N ops n0 l (lens ++ [H'.length]) s' H'
        | none => none
      | none => none
    | some false => match aputs N o .und s with
      | some s' => drun E q gl N ops n0 l (lens ++ [H.length]) s' H
      | none => none
    | none => none

def dOk (ops : List Oper) (fs : List Info) : Bool :=
  depOk ops && (fs.length == ops.length) && ((List.range ops.length).all fun j => match ops[j]?, fs[j]? with
    | some o, some f => f.looks.all (fun t => (o.looksAt ops.toArray).contains t) &&
      f.anc.all (fun a => (aft o).contains a || (aft o).any fun b => match fs[b]? with | some g => g.anc.contains a | none => false) &&
      (f.cls != 2 || (List.range ops.length).all fun k => (k == j) || match fs[k]? with
        | some g => (g.cls == 0) || (if k < j then f.anc.contains k else g.anc.contains j)
        | none => true) && decide (f.cls ≤ 2)
    | _, _ => false) && fs.all fun f => (f.cls != 0) || f.st.all fun i => fs.all fun g => (g.cls != 2) || g.st.contains i

structure DOk (ops : List Oper) (fs : List Info) : Prop where
  dep : DepOk ops
  len : fs.length = ops.length
  looks : ∀ (j : Nat) (o : Oper) (f : Info), ops[j]? = some o → fs[j]? = some f → ∀ t ∈ f.looks, t ∈ o.looksAt ops.toArray
  anc : ∀ (j : Nat) (o : Oper) (f : Info), ops[j]? = some o → fs[j]? = some f → ∀ a ∈ f.anc, a ∈ aft o ∨ ∃ b ∈ aft o, ∃ g, fs[b]? = some g ∧ a ∈ g.anc
  bar : ∀ (j : Nat) (f : Info), fs[j]? = some f → f.cls = 2 → ∀ (k : Nat) (g : Info), fs[k]? = some g → g.cls ≠ 0 → k ≠ j → (k < j ∧ k ∈ f.anc) ∨ (j < k ∧ j ∈ g.anc)
  top : ∀ (j : Nat) (f : Info), fs[j]? = some f → f.cls ≤ 2
  st : ∀ (j : Nat) (f : Info), fs[j]? = some f → f.cls = 0 → ∀ i ∈ f.st, ∀ (k : Nat) (g : Info), fs[k]? = some g → g.cls = 2 → i ∈ g.st

theorem dOk_ok {ops : List Oper} {fs : List Info} (h : dOk ops fs = true) : DOk ops fs := by
  unfold dOk at h
  rw [Bool.and_eq_true] at h
  obtain ⟨h, h5⟩ := h
  simp only [Bool.and_eq_true, beq_iff_eq, List.all_eq_true, List.mem_range] at h
  obtain ⟨⟨h1, h2⟩, h3⟩ := h
  have get : ∀ (j : Nat) (f : Info), fs[j]? = some f → j < ops.length := fun j f hj => by have := (List.getElem?_eq_some_iff.1 hj).1; omega
  have each : ∀ (j : Nat) (o : Oper) (f : Info), ops[j]? = some o → fs[j]? = some f → (((∀ t ∈ f.looks, (o.looksAt ops.toArray).contains t = true) ∧ (∀ a ∈ f.anc, ((aft o).contains a || (aft o).any fun b => match fs[b]? with | some g => g.anc.contains a | none => false) = true)) ∧
      (f.cls != 2 || (List.range ops.length).all fun k => (k == j) || match fs[k]? with
        | some g => (g.cls == 0) || (if k < j then f.anc.contains k else g.anc.contains j)
        | none => true) = true) ∧ f.cls ≤ 2 := by
    intro j o f ho hf
    have := h3 j (get j f hf)
    rw [ho, hf] at this
    simp only [Bool.and_eq_true, List.all_eq_true, decide_eq_true_eq] at this
    exact this
  refine ⟨depOk_ok h1, h2, fun j o f ho hf t ht => ?_, fun j o f ho hf a ha => ?_, fun j f hf hc k g hg hg0 hkj => ?_, fun j f hj => ?_, fun j f hf hc i hi k g hg hgc => ?_⟩
  · have := (each j o f ho hf).1.1.1 t ht
    simpa using this
  · have := (each j o f ho hf).1.1.2 a ha
    simp only [Bool.or_eq_true, List.any_eq_true] at this
    rcases this with h | ⟨b, hb, h⟩
    · exact .inl (by simpa using h)
    · right
      cases hg : fs[b]? with
      | none => rw [hg] at h; simp at h
      | some g => rw [hg] at h; exact ⟨b, hb, g, hg, by simpa using h⟩
  · have hlt := get j f hf
    have := (each j _ f (List.getElem?_eq_getElem hlt) hf).1.2
    simp only [Bool.or_eq_true, bne_iff_ne, ne_eq, List.all_eq_true, List.mem_range, beq_iff_eq] at this
    rcases this with h | h
    · exact (h hc).elim
    · have h4 := h k (get k g hg)
      rcases h4 with h4 | h4
      · exact (hkj h4).elim
      · rw [hg] at h4
        simp only [Bool.or_eq_true, beq_iff_eq] at h4
        rcases h4 with h4 | h4
        · exact (hg0 h4).elim
        · split at h4
          · rename_i hlt'; exact .inl ⟨hlt', by simpa using h4⟩
          · exact .inr ⟨by omega, by simpa using h4⟩
  · have hlt := get j f hj
    exact (each j _ f (List.getElem?_eq_getElem hlt) hj).2
  · have h6 := List.all_eq_true.1 h5 f (List.mem_of_getElem? hf)
    rw [hc] at h6
    simp only [bne_self_eq_false, Bool.false_or] at h6
    have h7 := List.all_eq_true.1 (List.all_eq_true.1 h6 i hi) g (List.mem_of_getElem? hg)
    rw [hgc] at h7
    simpa using h7

/-! ### The run, told op by op. -/

structure DT (E : Env) (q : List TypeId) (gl : GCalls) (N : Nat) (ops : List Oper) (fs : List Info) (s0 : Slots) (H0 : List Blk) (sN : Slots) (HN : List Blk) where
  pre : Nat → Slots
  hp : Nat → List Blk
  val : Nat → AV
  zero : pre 0 = s0 ∧ hp 0 = H0
  last : pre ops.length = sN ∧ hp ops.length = HN
  put : ∀ (j : Nat) (o : Oper), ops[j]? = some o → (o.dst = none ∧ pre (j + 1) = pre j) ∨ ∃ d, o.dst = some d ∧ d < N ∧ pre (j + 1) = (d, val j) :: pre j
  step : ∀ (j : Nat) (o : Oper) (f : Info), ops[j]? = some o → fs[j]? = some f →
    (wantA ops (pre j) o = some false ∧ val j = .und ∧ hp (j + 1) = hp j) ∨
    (wantA ops (pre j) o = some true ∧ dstep E q gl H0.length ((List.range (j + 1)).map fun k => (hp k).length) f (pre j) (hp j) o.op = some (val j, hp (j + 1)))

theorem dt_of {E : Env} {q : List TypeId} {gl : GCalls} {N : Nat} {ops : List Oper} {fs : List Info} {s0 sN : Slots} {H0 HN : List Blk} (hl : fs.length = ops.length)
    (h : drun E q gl N ops H0.length (ops.zip fs) [H0.length] s0 H0 = some ⟨sN, HN⟩) : Nonempty (DT E q gl N ops fs s0 H0 sN HN) := by
  have key : ∀ (l : List (Oper × Info)) (k : Nat) (lens : List Nat) (s : Slots) (H : List Blk) (past : Nat → List Blk), (∀ j, l[j]? = (ops.zip fs)[k + j]?) → k + l.length = ops.length → lens = (List.range (k + 1)).map (fun i => (past i).length) → past k = H →
      drun E q gl N ops H0.length l lens s H = some ⟨sN, HN⟩ →
      ∃ (pre : Nat → Slots) (hp : Nat → List Blk) (val : Nat → AV), (∀ i, i ≤ k → hp i = past i) ∧ pre k = s ∧ hp k = H ∧ pre ops.length = sN ∧ hp ops.length = HN ∧ ∀ (j : Nat) (o : Oper) (f : Info), k ≤ j → ops[j]? = some o → fs[j]? = some f →
        ((o.dst = none ∧ pre (j + 1) = pre j) ∨ ∃ d, o.dst = some d ∧ d < N ∧ pre (j + 1) = (d, val j) :: pre j) ∧
        ((wantA ops (pre j) o = some false ∧ val j = .und ∧ hp (j + 1) = hp j) ∨
        (wantA ops (pre j) o = some true ∧ dstep E q gl H0.length ((List.range (j + 1)).map fun k => (hp k).length) f (pre j) (hp j) o.op = some (val j, hp (j + 1)))) := by
    intro l
    induction l with
    | nil =>
      intro k lens s H past _ hk hlens hpast hr
      simp only [drun, Option.some.injEq] at hr
      cases hr
      simp at hk
      refine ⟨fun _ => sN, past, fun _ => .any, fun i _ => rfl, rfl, hpast, rfl, by rw [← hk]; exact hpast, fun j o f hj ho hf => ?_⟩
      have := (List.getElem?_eq_some_iff.1 ho).1
      omega
    | cons p l ih =>
      intro k lens s H past hll hk hlens hpast hr
      obtain ⟨o, f⟩ := p
      have h0 : (ops.zip fs)[k]? = some (o, f) := by have := hll 0; simpa using this.symm
      rw [List.getElem?_zip_eq_some] at h0
      obtain ⟨ho, hf⟩ := h0
      simp only at ho hf
      have next : ∀ (v : AV) (H' : List Blk) (s' : Slots), aputs N o v s = some s' → drun E q gl N ops H0.length l (lens ++ [H'.length]) s' H' = some ⟨sN, HN⟩ →
          ((wantA ops s o = some false ∧ v = .und ∧ H' = H) ∨ (wantA ops s o = some true ∧ dstep E q gl H0.length lens f s H o.op = some (v, H'))) →
          ∃ (pre : Nat → Slots) (hp : Nat → List Blk) (val : Nat → AV), (∀ i, i ≤ k → hp i = past i) ∧ pre k = s ∧ hp k = H ∧ pre ops.length = sN ∧ hp ops.length = HN ∧ ∀ (j : Nat) (o : Oper) (f : Info), k ≤ j → ops[j]? = some o → fs[j]? = some f →
            ((o.dst = none ∧ pre (j + 1) = pre j) ∨ ∃ d, o.dst = some d ∧ d < N ∧ pre (j + 1) = (d, val j) :: pre j) ∧
            ((wantA ops (pre j) o = some false ∧ val j = .und ∧ hp (j + 1) = hp j) ∨
            (wantA ops (pre j) o = some true ∧ dstep E q gl H0.length ((List.range (j + 1)).map fun k => (hp k).length) f (pre j) (hp j) o.op = some (val j, hp (j + 1)))) := by
        intro v H' s' hp' hrun hstep
        have hlens' : lens ++ [H'.length] = (List.range (k + 1 + 1)).map (fun i => ((fun i => if i ≤ k then past i else H') i).length) := by
          have e1 : (List.range (k + 1)).map (fun i => ((fun i => if i ≤ k then past i else H') i).length) = (List.range (k + 1)).map (fun i => (past i).length) :=
            List.map_congr_left (fun i hi => by
              rw [List.mem_range] at hi
              show (if i ≤ k then past i else H').length = _
              rw [if_pos (show i ≤ k by omega)])
          rw [List.range_succ (n := k + 1), List.map_append, e1, ← hlens]
          show lens ++ [H'.length] = lens ++ [(if k + 1 ≤ k then past (k + 1) else H').length]
          rw [if_neg (by omega)]
        obtain ⟨pre, hp, val, g0, g1, g2, g3, g4, g5⟩ := ih (k + 1) _ s' H' (fun i => if i ≤ k then past i else H') (fun j => by have := hll (j + 1); rw [List.getElem?_cons_succ] at this; rw [this, show k + (j + 1) = k + 1 + j by omega]) (by simp only [List.length_cons] at hk; omega) hlens' (by show (if k + 1 ≤ k then past (k + 1) else H') = H'; rw [if_neg (by omega)]) hrun
        have hpk : ∀ i, i ≤ k → hp i = past i := fun i hi => by rw [g0 i (by omega), if_pos hi]
        refine ⟨fun j => if j ≤ k then s else pre j, hp, fun j => if j = k then v else val j, hpk, by simp, by rw [hpk k (Nat.le_refl _)]; exact hpast, ?_, g4, fun j o' f' hj ho' hf' => ?_⟩
        · have : ¬ ops.length ≤ k := by simp at hk; omega
          simp only [if_neg this]; exact g3
        · by_cases e : j = k
          · subst e
            rw [ho] at ho'; cases ho'
            rw [hf] at hf'; cases hf'
            simp only [Nat.le_refl, if_true, show ¬ (j + 1 ≤ j) by omega, if_false]
            refine ⟨?_, ?_⟩
            · rw [g1]
              unfold aputs at hp'
              split at hp'
              · rename_i hd; cases hp'; exact .inl ⟨hd, rfl⟩
              · rename_i d hd
                split at hp'
                · rename_i hlt; cases hp'; exact .inr ⟨d, hd, hlt, rfl⟩
                · cases hp'
            · rw [g2, hpk j (Nat.le_refl _), hpast]
              have hl2 : ((List.range (j + 1)).map fun k => (hp k).length) = lens := by
                rw [hlens]
                apply List.map_congr_left
                intro i hi
                rw [List.mem_range] at hi
                rw [hpk i (by omega)]
              rw [hl2]
              exact hstep
          · have := g5 j o' f' (by omega) ho' hf'
            simp only [if_neg e, if_neg (show ¬ j ≤ k by omega), if_neg (show ¬ (j + 1 ≤ k) by omega)]
            exact this
      simp only [drun] at hr
      split at hr
      · rename_i hw
        split at hr
        · rename_i v H' hst
          split at hr
          · rename_i s' hp'
            exact next v H' s' hp' hr (.inr ⟨hw, hst⟩)
          · cases hr
        · cases hr
      · rename_i hw
        split at hr
        · rename_i s' hp'
          exact next .und H s' hp' hr (.inl ⟨hw, rfl, rfl⟩)
        · cases hr
      · cases hr
  obtain ⟨pre, hp, val, _, h1, h2, h3, h4, h5⟩ := key (ops.zip fs) 0 [H0.length] s0 H0 (fun _ => H0) (by simp) (by simp [hl]) (by simp) rfl h
  exact ⟨⟨pre, hp, val, ⟨h1, h2⟩, ⟨h3, h4⟩, fun j o ho => by
      have hlt := (List.getElem?_eq_some_iff.1 ho).1
      exact (h5 j o fs[j] (Nat.zero_le _) ho (List.getElem?_eq_getElem (by omega))).1,
    fun j o f ho hf => (h5 j o f (Nat.zero_le _) ho hf).2⟩⟩

end Go.Fw

end
