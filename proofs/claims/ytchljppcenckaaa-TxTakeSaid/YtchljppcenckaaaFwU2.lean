/- The abstract machine, and the contracts of the code: part 32. -/
import Derived.Test.YtchljppcenckaaaFwU1

section
/- A call as a step, by contracts that lend. -/
namespace Go.Fw
set_option linter.unusedVariables false
set_option linter.unusedSimpArgs false
open Go

/-- A contract, and which of the arguments are lent. -/
structure GC where
  modes : List Bool
  G : GFun

abbrev GCalls := List (FuncId × GC)

def lkG (f : FuncId) : GCalls → Option GC
  | [] => none
  | (g, F) :: r => if f = g then some F else lkG f r

def GClOk (P : Program) (gl : GCalls) : Prop := ∀ f g, lkG f gl = some g → GCon P f g.G

theorem GClOk.nil (P : Program) : GClOk P [] := fun f F h => by simp [lkG] at h
theorem GClOk.cons {P : Program} {f : FuncId} {ms : List Bool} {G : GFun} {gl : GCalls} (h : GCon P f G) (hc : GClOk P gl) : GClOk P ((f, ⟨ms, G⟩) :: gl) := fun g F hg => by
  simp only [lkG] at hg
  split at hg
  · rename_i e; subst e; cases hg; exact h
  · exact hc g F hg

/-- A contract over trees. -/
def treeG (F : Fun) : GFun := fun HB xs => match HB with
  | [] => match allT xs with
    | some ts => F ts
    | none => none
  | _ :: _ => none

theorem ACon.g {P : Program} {f : FuncId} {F : Fun} (h : ACon P f F) : GCon P f (treeG F) := by
  refine ⟨h.1, fun HB xs H' r hG m w vs hi hl hr => ?_⟩
  unfold treeG at hG
  split at hG
  · split at hG
    · rename_i ts hts
      have := allT_ok xs ts hts
      subst this
      refine (h.2 ts H' r hG m.M w vs hi.imm (by simpa using hl) (fun i t ht => ?_)).mono fun e w' ⟨m', v, he, hi', hv⟩ => ?_
      · obtain ⟨u, hu, hru⟩ := hr i (.t t) (by simp [ht])
        exact ⟨u, hu, hru.t_inv⟩
      · refine ⟨m', v, he, hi'.le, ⟨hi'.len, hi'.imm, hi'.le, fun b o hb => ?_, hi'.ok, fun i B b h1 h2 h3 => ?_, hi'.disj, hi'.os, hi'.tape, hi'.output, hi'.size, fun b hb _ => hi'.frame b hb (fun h => h), fun i hi => by cases hi⟩, hv⟩
        · rcases hi'.new b o hb with h1 | ⟨h1 | h1, hp⟩
          · exact .inl h1
          · exact .inr ⟨.inl h1, hp⟩
          · exact h1.elim
        · rcases hi'.own i B b h1 h2 h3 with h4 | h4
          · exact .inl h4
          · exact h4.elim
    · cases hG
  · cases hG

def one1 (f : FuncId) (F : Fun) (n : Nat) : FuncId × GC := (f, ⟨List.replicate n false, treeG F⟩)

/-! ### Which blocks go along. -/

mutual
def AV.idxs : AV → List Nat
  | .own i => [i]
  | .sub i _ _ _ _ _ => [i]
  | .ptr i _ _ => [i]
  | .st xs => AV.idxsL xs
  | .tup xs => AV.idxsL xs
  | .clo _ xs => AV.idxsL xs
  | _ => []
def AV.idxsL : List AV → List Nat
  | [] => []
  | x :: xs => x.idxs ++ AV.idxsL xs
end

def blkIdxs : Blk → List Nat
  | .bx v => v.idxs
  | _ => []

def reach (H : List Blk) : Nat → List Nat → List Nat → List Nat
  | 0, _, acc => acc
  | _ + 1, [], acc => acc
  | n + 1, i :: r, acc => if i ∈ acc then reach H n r acc else match H[i]? with
    | some B => reach H n (blkIdxs B ++ r) (acc ++ [i])
    | none => reach H n r acc

theorem reach_ok (H : List Blk) : ∀ (n : Nat) (todo acc : List Nat), acc.Nodup → (∀ i ∈ acc, i < H.length) → (reach H n todo acc).Nodup ∧ ∀ i ∈ reach H n todo acc, i < H.length := by
  intro n
  induction n with
  | zero => intro todo acc h1 h2; exact ⟨h1, h2⟩
  | succ n ih =>
    intro todo acc h1 h2
    cases todo with
    | nil => exact ⟨h1, h2⟩
    | cons i r =>
      simp only [reach]
      split
      · exact ih r acc h1 h2
      · rename_i hi
        split
        · rename_i B hB
          refine ih _ _ ?_ ?_
          · rw [List.nodup_append]
            refine ⟨h1, by simp, fun a ha b hb => ?_⟩
            simp at hb; subst hb
            intro e; subst e; exact hi ha
          · intro j hj
            rw [List.mem_append] at hj
            rcases hj with hj | hj
            · exact h2 j hj
            · simp at hj; subst hj; exact (List.getElem?_eq_some_iff.1 hB).1
        · exact ih r acc h1 h2

def lentIdxs : List Bool → List AV → List Nat
  | true :: ms, x :: xs => x.idxs ++ lentIdxs ms xs
  | false :: ms, _ :: xs => lentIdxs ms xs
  | _, _ => []

def treeRows : List Bool → List AV → List Nat
  | true :: ms, _ :: xs => treeRows ms xs
  | false :: ms, x :: xs => x.rows ++ treeRows ms xs
  | _, _ => []

/-! ### The arguments. -/

def argsI (H : List Blk) (ids : List Nat) : List Bool → List AV → Option (List AV)
  | [], xs => match xs with
    | [] => some []
    | _ => none
  | b :: ms, xs => match xs with
    | [] => none
    | x :: xs => match argsI H ids ms xs with
      | some ys => if b = true then some (x.ren ids :: ys) else match immV H x with
        | some y => some (.t y :: ys)
        | none => none
      | none => none

def disjL (ids : List Nat) : List Nat → Bool
  | [] => true
  | i :: r => (match idx i ids with | none => true | some _ => false) && disjL ids r

theorem disjL_ok {ids : List Nat} : ∀ {l : List Nat}, disjL ids l = true → ∀ i ∈ l, i ∉ ids
  | [], _, i, hi => by simp at hi
  | j :: r, h, i, hi => by
    simp only [disjL, Bool.and_eq_true] at h
    rcases List.mem_cons.1 hi with rfl | hi
    · cases e : idx i ids with
      | none => exact idx_none e
      | some k => rw [e] at h; simp at h
    · exact disjL_ok h.2 i hi

def snapV (H : List Blk) (ids : List Nat) (x : AV) : Option T :=
  match immV H x with
  | some y => some y
  | none => if disjL ids x.rows = true then (match rowT H x with
    | some (.by l) => some (.by l)
    | some (.sq sz xs) => some (.sq sz xs)
    | _ => none) else none

def argsS (H : List Blk) (ids : List Nat) : List Bool → List AV → Option (List AV)
  | [], xs => match xs with
    | [] => some []
    | _ => none
  | b :: ms, xs => match xs with
    | [] => none
    | x :: xs => match argsS H ids ms xs with
      | some ys => if b = true then some (x.ren ids :: ys) else match snapV H ids x with
        | some y => some (.t y :: ys)
        | none => none
      | none => none

theorem args_ok {m : Mem} {Mc : Nat → Option Obj} {ids : List Nat} (hle : MLe m.M Mc) {f : AV → Option T} (hf : ∀ x y u, RelA m x u → f x = some y → RelT Mc y u) (args : List Bool → List AV → Option (List AV))
    (h0 : ∀ xs, args [] xs = match xs with | [] => some [] | _ => none)
    (h1 : ∀ b ms xs, args (b :: ms) xs = match xs with
      | [] => none
      | x :: xs => match args ms xs with
        | some ys => if b = true then some (x.ren ids :: ys) else match f x with
          | some y => some (.t y :: ys)
          | none => none
        | none => none) : ∀ (ms : List Bool) (xs : List AV) (us : List Value) (ys : List AV), us.length = xs.length →
    (∀ (i : Nat) (x : AV), xs[i]? = some x → ∃ u, us[i]? = some u ∧ RelA m x u) → args ms xs = some ys →
    us.length = ys.length ∧ ∀ (i : Nat) (y : AV), ys[i]? = some y → ∃ u, us[i]? = some u ∧ RelA (m.lend ids Mc) y u := by
  intro ms
  induction ms with
  | nil =>
    intro xs us ys hl hr h
    rw [h0] at h
    split at h
    · cases h; exact ⟨by simpa using hl, fun i y hy => by simp at hy⟩
    · cases h
  | cons b ms ih =>
    intro xs us ys hl hr h
    rw [h1] at h
    split at h
    · cases h
    · rename_i x xs
      split at h
      · rename_i ys' hys
        cases us with
        | nil => simp at hl
        | cons u us =>
          obtain ⟨g1, g2⟩ := ih xs us ys' (by simpa using hl) (fun i x hi => by simpa using hr (i + 1) x (by simpa using hi)) hys
          obtain ⟨u', hu', hru⟩ := hr 0 x rfl
          simp at hu'; subst hu'
          have hext : Ext (m.ren ids) (m.lend ids Mc) := ⟨hle, Nat.le_refl _, fun _ _ => rfl⟩
          have fin : ∀ y, RelA (m.lend ids Mc) y u → ys = y :: ys' → (u :: us).length = ys.length ∧ ∀ (i : Nat) (y : AV), ys[i]? = some y → ∃ v, (u :: us)[i]? = some v ∧ RelA (m.lend ids Mc) y v := by
            intro y hy he
            subst he
            refine ⟨by simp [g1], fun i z hz => ?_⟩
            cases i with
            | zero => simp at hz; subst hz; exact ⟨u, rfl, hy⟩
            | succ i => simpa using g2 i z (by simpa using hz)
          split at h
          · cases h
            exact fin _ ((hru.ren ids).mono hext) rfl
          · split at h
            · rename_i y hy
              cases h
              exact fin _ (.t (hf x y u hru hy)) rfl
            · cases h
      · cases h

theorem argsI_ok {c : Ctx} {m : Mem} {w : World} {H : List Blk} (h : Inv c m w H) {ids : List Nat} {ms : List Bool} {xs : List AV} {us : List Value} {ys : List AV} (hl : us.length = xs.length)
    (hr : ∀ (i : Nat) (x : AV), xs[i]? = some x → ∃ u, us[i]? = some u ∧ RelA m x u) (ha : argsI H ids ms xs = some ys) :
    us.length = ys.length ∧ ∀ (i : Nat) (y : AV), ys[i]? = some y → ∃ u, us[i]? = some u ∧ RelA (m.lend ids m.M) y u :=
  args_ok (.refl _) (f := immV H) (fun x y u hx hy => immV_rel h hx hy) (argsI H ids) (fun xs => by cases xs <;> rfl) (fun b ms xs => by cases xs <;> rfl) ms xs us ys hl hr ha

open Classical in
/-- All memory but what is lent. -/
noncomputable def rest (m : Mem) (w : World) (H : List Blk) (ids : List Nat) : Nat → Option Obj := fun b => if lent (m.lend ids m.M) (renH ids H) b then none else w.heap[b]?

theorem rest_ok {c : Ctx} {m : Mem} {w : World} {H : List Blk} (h : Inv c m w H) (ids : List Nat) :
    MLe m.M (rest m w H ids) ∧ (∀ b o, rest m w H ids b = some o → w.heap[b]? = some o) ∧ (∀ b, lent (m.lend ids (rest m w H ids)) (renH ids H) b → rest m w H ids b = none) := by
  refine ⟨fun b o hb => ?_, fun b o hb => ?_, fun b hb => ?_⟩
  · unfold rest
    rw [if_neg (fun hl => by
      obtain ⟨i, B, _, h1, h2, h3⟩ := lent_own h hl
      rw [((h.ok i B h1).at h2 h3).1] at hb; cases hb)]
    exact h.imm b o hb
  · unfold rest at hb
    split at hb
    · cases hb
    · exact hb
  · unfold rest
    exact if_pos hb

theorem notlent {c : Ctx} {m : Mem} {w : World} {H : List Blk} (h : Inv c m w H) {ids : List Nat} {x : AV} {z : T} {b off n k : Nat} (hx : RelA m x (.slice (some ⟨b, off, none⟩) n k)) (hdis : disjL ids x.rows = true)
    (himm : immV H x = none) (hrow : rowT H x = some z) : ¬ lent (m.lend ids m.M) (renH ids H) b := by
  have hd := disjL_ok hdis
  have hsome : ∀ o, m.M b = some o → ¬ lent (m.lend ids m.M) (renH ids H) b := by
    intro o ho hlent
    obtain ⟨j, B', _, hB', hl', hb'⟩ := lent_own h hlent
    rw [((h.ok j B' hB').at hl' hb').1] at ho; cases ho
  have hlive : ∀ i B, i ∈ x.rows → H[i]? = some B → B.live = true → blk (m.η i) = some b → ¬ lent (m.lend ids m.M) (renH ids H) b := by
    intro i B hi hB hl hb hlent
    obtain ⟨j, B', hj, hB', hl', hb'⟩ := lent_own h hlent
    have := h.disj i j B B' _ hB hB' hl hl' hb hb'
    subst this; exact hd i hi hj
  cases x with
  | own i =>
    obtain ⟨hu, _⟩ := hx.own_inv
    have hb : blk (m.η i) = some b := by rw [← hu]; rfl
    simp only [rowT] at hrow
    split at hrow
    · rename_i l hl; exact hlive i _ (by simp [AV.rows]) hl rfl hb
    · rename_i sz xs hl; exact hlive i _ (by simp [AV.rows]) hl rfl hb
    · rename_i y hl
      obtain ⟨_, h2⟩ := h.ok _ _ hl
      obtain ⟨_, cur, ty, fr, hM⟩ := h2 _ _ _ hu.symm
      exact hsome _ hM
    · cases hrow
  | sub i p sz o lo len =>
    obtain ⟨a', cap, hu', _, _, _, ha⟩ := hx.sub_inv
    cases hu'
    rcases ha with ⟨e0, _⟩ | ⟨b', o', hb, e0, _⟩
    · cases e0
    · cases e0
      have bysub : ∀ B, H[i]? = some B → subPart (some B) p sz o lo n = some z → ¬ lent (m.lend ids m.M) (renH ids H) b := by
        intro B hB hsp
        cases hl : B.live with
        | true => exact hlive i B (by simp [AV.rows]) hB hl hb
        | false =>
          cases B with
          | fz y => simp [subPart, Blk.get] at hsp
          | fb y =>
            obtain ⟨_, b2, cur, e, fr, hd2, hM, _⟩ := h.ok _ _ hB
            rw [hd2] at hb; cases hb
            exact hsome _ hM
          | no => simp [subPart, Blk.get] at hsp
          | _ => simp [Blk.live] at hl
      simp only [rowT] at hrow
      split at hrow
      · split at hrow
        · rename_i l hl; exact hlive i _ (by simp [AV.rows]) hl rfl hb
        · rename_i sz' xs hl; exact hlive i _ (by simp [AV.rows]) hl rfl hb
        · cases e : H[i]? with
          | none => rw [e] at hrow; simp [subPart] at hrow
          | some B => rw [e] at hrow; exact bysub B e hrow
      · cases e : H[i]? with
        | none => rw [e] at hrow; simp [subPart] at hrow
        | some B => rw [e] at hrow; exact bysub B e hrow
  | t y => simp [immV] at himm
  | ex y =>
    exfalso
    simp only [immV, immT, immLeaf] at himm
    cases y <;> simp [rowT] at hrow <;> simp [T.isAgg] at himm
  | _ => simp [rowT] at hrow

theorem snapV_ok {c : Ctx} {m : Mem} {w : World} {H : List Blk} (h : Inv c m w H) {ids : List Nat} {x : AV} {y : T} {u : Value} (hx : RelA m x u) (hy : snapV H ids x = some y) : RelT (rest m w H ids) y u := by
  obtain ⟨r1, r2, r3⟩ := rest_ok h ids
  have hrest : ∀ b o, w.heap[b]? = some o → ¬ lent (m.lend ids m.M) (renH ids H) b → rest m w H ids b = some o := by
    intro b o hb hn
    unfold rest
    rw [if_neg hn]; exact hb
  unfold snapV at hy
  split at hy
  · rename_i y' hy'
    cases hy
    exact (immV_rel h hx hy').mono r1
  · rename_i himm
    split at hy
    · rename_i hdis
      split at hy
      · rename_i l hrow
        cases hy
        have hr := rowR_ok h hx hrow rfl
        cases hr with
        | byn => exact .byn
        | «by» hM hl hm hc => exact .by (hrest _ _ hM (notlent h hx hdis himm hrow)) hl hm hc
      · rename_i sz xs hrow
        cases hy
        have hr := rowR_ok h hx hrow rfl
        cases hr with
        | sqn h => exact .sqn h
        | sq hM hw hl hm hrr =>
          rename_i b off cap cur ty fr
          refine .sq (hrest _ _ hM (notlent h hx hdis himm hrow)) hw hl hm (fun j => cur.getD (off + j) undef) ?_ ?_
          · intro j c hj; obtain ⟨u, hu, _⟩ := hrr j c hj; simp [hu]
          · intro j c hj; obtain ⟨u, hu, hr⟩ := hrr j c hj; rw [show cur.getD (off + j) undef = u by simp [hu]]; exact hr.mono r1
      · cases hy
    · cases hy

theorem argsS_ok {c : Ctx} {m : Mem} {w : World} {H : List Blk} (h : Inv c m w H) {ids : List Nat} {ms : List Bool} {xs : List AV} {us : List Value} {ys : List AV} (hl : us.length = xs.length)
    (hr : ∀ (i : Nat) (x : AV), xs[i]? = some x → ∃ u, us[i]? = some u ∧ RelA m x u) (ha : argsS H ids ms xs = some ys) :
    us.length = ys.length ∧ ∀ (i : Nat) (y : AV), ys[i]? = some y → ∃ u, us[i]? = some u ∧ RelA (m.lend ids (rest m w H ids)) y u :=
  args_ok (rest_ok h ids).1 (f := snapV H ids) (fun x y u hx hy => snapV_ok h hx hy) (argsS H ids) (fun xs => by cases xs <;> rfl) (fun b ms xs => by cases xs <;> rfl) ms xs us ys hl hr ha

/-! ### The call. -/

def gres (ids : List Nat) (H : List Blk) (x : Option (List Blk × AV)) : Option (AV × List Blk) :=
  match x with
  | some (H1, r) => some (r.rmap (backF ids H.length), gback ids H H1)
  | none => none

def gcallI (g : GC) (H : List Blk) (ids : List Nat) (args : List AV) : Option (AV × List Blk) :=
  match argsI H ids g.modes args with
  | some xs => gres ids H (g.G (renH ids H) xs)
  | none => none

def gcallAt (g : GC) (H : List Blk) (ids : List Nat) (args : List AV) : Option (AV × List Blk) :=
  match argsI H ids g.modes args with
  | some xs => gres ids H (g.G (renH ids H) xs)
  | none => match argsS H ids g.modes args with
    | none => none
    | some xs => match g.G (renH ids H) xs with
      | none => none
      | some (H1, r) => if (r.clean && cleanBs H1) = true then some (r.rmap (backF ids H.length), gback ids H H1)
        else gcallI g (freezeOnes H (treeRows g.modes args)) ids args

def gcall (g : GC) (H : List Blk) (args : List AV) : Option (AV × List Blk) := gcallAt g H (reach H 60 (lentIdxs g.modes args) []) args

theorem gcallI_ok {P : Program} {f : FuncId} {g : GC} (hcon : GCon P f g.G) {c : Ctx} {m : Mem} {w : World} {H : List Blk} (h : Inv c m w H) {ids : List Nat} (hnd : ids.Nodup) (hin : ∀ i ∈ ids, i < H.length) {args : List AV} {us : List Value} (hl : us.length = args.length)
    (hr : ∀ (i : Nat) (x : AV), args[i]? = some x → ∃ u, us[i]? = some u ∧ RelA m x u) {v : AV} {H' : List Blk} (hv : gcallI g H ids args = some (v, H')) :
    Calls P f us.toArray w (fun e w' => ∃ m' u, e = .returned u ∧ Ext m m' ∧ Inv c m' w' H' ∧ RelA m' v u) := by
  unfold gcallI at hv
  split at hv
  · rename_i xs hxs
    unfold gres at hv
    split at hv
    · rename_i H1 r hG
      cases hv
      obtain ⟨g1, g2⟩ := argsI_ok h hl hr hxs
      have hinv := h.lend hnd (Mc := m.M) (.refl _) h.imm (fun b hb => by
        obtain ⟨i, B, _, h1, h2, h3⟩ := lent_own h hb
        exact ((h.ok i B h1).at h2 h3).1)
      refine (hcon.2 _ xs H1 r hG (m.lend ids m.M) w us hinv g1 g2).mono fun e w' ⟨m1, u, he, hle, h1, hu⟩ => ?_
      obtain ⟨k1, k2, k3⟩ := h.gcall (M := m1.M) hnd hin h1 (.inl ⟨rfl, rfl⟩)
      exact ⟨_, u, he, k2, k1, hu.rmap k3 (.inl (.refl _))⟩
    · cases hv
  · cases hv

theorem freezeOne_len (H : List Blk) (i : Nat) : (freezeOne H i).length = H.length := by
  unfold freezeOne
  split <;> simp

theorem freezeOnes_len : ∀ (l : List Nat) (H : List Blk), (freezeOnes H l).length = H.length
  | [], H => rfl
  | i :: r, H => by simp only [freezeOnes]; rw [freezeOnes_len r, freezeOne_len]

theorem gcall_ok {P : Program} {f : FuncId} {g : GC} (hcon : GCon P f g.G) {c : Ctx} {m : Mem} {w : World} {H : List Blk} (h : Inv c m w H) {args : List AV} {us : List Value} (hl : us.length = args.length)
    (hr : ∀ (i : Nat) (x : AV), args[i]? = some x → ∃ u, us[i]? = some u ∧ RelA m x u) {v : AV} {H' : List Blk} (hv : gcall g H args = some (v, H')) :
    Calls P f us.toArray w (fun e w' => ∃ m' u, e = .returned u ∧ Ext m m' ∧ Inv c m' w' H' ∧ RelA m' v u) := by
  unfold gcall at hv
  obtain ⟨hnd, hin⟩ := reach_ok H 60 (lentIdxs g.modes args) [] (by simp) (by simp)
  generalize reach H 60 (lentIdxs g.modes args) [] = ids at *
  unfold gcallAt at hv
  split at hv
  · rename_i xs hxs
    refine gcallI_ok hcon h hnd hin hl hr ?_
    unfold gcallI; rw [hxs]; exact hv
  · split at hv
    · cases hv
    · rename_i xs hxs
      split at hv
      · cases hv
      · rename_i H1 r hG
        split at hv
        · rename_i hc
          simp only [Bool.and_eq_true] at hc
          cases hv
          obtain ⟨r1, r2, r3⟩ := rest_ok h ids
          obtain ⟨g1, g2⟩ := argsS_ok h hl hr hxs
          have hinv := h.lend hnd r1 r2 r3
          refine (hcon.2 _ xs H1 r hG (m.lend ids (rest m w H ids)) w us hinv g1 g2).mono fun e w' ⟨m1, u, he, hle, h1, hu⟩ => ?_
          obtain ⟨k1, k2, k3⟩ := h.gcall (M := m.M) hnd hin h1 (.inr ⟨rfl, hc.2⟩)
          exact ⟨_, u, he, k2, k1, hu.rmap k3 (.inr hc.1)⟩
        · obtain ⟨m2, e2, h2⟩ := freezeOnes_ok (treeRows g.modes args) m H h
          refine (gcallI_ok hcon h2 hnd (by rw [freezeOnes_len]; exact hin) hl (fun i x hi => let ⟨u, a, b⟩ := hr i x hi; ⟨u, a, b.mono e2⟩) hv).mono fun e w' ⟨m', u, he, e3, h3, hu⟩ => ⟨m', u, he, e2.trans e3, h3, hu⟩

end Go.Fw

end
