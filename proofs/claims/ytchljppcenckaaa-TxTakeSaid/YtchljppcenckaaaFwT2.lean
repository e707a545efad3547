/- The abstract machine, and the contracts of the code: part 24. -/
import Derived.Test.YtchljppcenckaaaFwT1

section
/- Stores into rows and boxes; new boxes. -/
namespace Go.Fw
set_option linter.unusedVariables false
set_option linter.unusedSimpArgs false
open Go

/-- A stretch of cells replaced, as the model writes it. -/
theorem patch_array {cur : Array Value} {o : Nat} {news : List Value} (h : o + news.length ≤ cur.size) (j : Nat) :
    (cur.toList.take (o + 0) ++ news ++ cur.toList.drop (o + 0 + news.length)).toArray[j]? = if o ≤ j ∧ j < o + news.length then news[j - o]? else cur[j]? := by
  have htl : (cur.toList.take o).length = o := by rw [List.length_take, Array.length_toList]; omega
  simp only [List.getElem?_toArray, Nat.add_zero, List.append_assoc]
  rcases Nat.lt_or_ge j o with hlt | hge
  · rw [if_neg (by omega), List.getElem?_append_left (by omega), List.getElem?_take, if_pos hlt]; simp
  · rw [List.getElem?_append_right (by omega), htl]
    rcases Nat.lt_or_ge j (o + news.length) with h2 | h2
    · rw [if_pos (by omega), List.getElem?_append_left (by omega)]
    · rw [if_neg (by omega), List.getElem?_append_right (by omega), List.getElem?_drop]
      rw [show o + news.length + (j - o - news.length) = j by omega]; simp

theorem patch_size {cur : Array Value} {o : Nat} {news : List Value} (h : o + news.length ≤ cur.size) :
    (cur.toList.take (o + 0) ++ news ++ cur.toList.drop (o + 0 + news.length)).toArray.size = cur.size := by simp; omega

def getSq (xs : List T) : List Nat → Option T
  | j :: q => if j < xs.length then T.get (xs.getD j default) q else none
  | [] => none

def offSq (sz : Nat) (xs : List T) : List Nat → Option Nat
  | j :: q => if j < xs.length then (match T.off (xs.getD j default) q with | some o => some (j * sz + o) | none => none) else none
  | [] => none

def setSq (xs : List T) (p : List Nat) (y : T) : Option (List T) :=
  match p with
  | j :: q => if j < xs.length then (match T.set (xs.getD j default) q y with | some z => some (xs.set j z) | none => none) else none
  | [] => none

theorem setSq_ok {sz : Nat} {xs xs' : List T} (hs : ∀ x ∈ xs, x.size = sz) (hw : T.wfL xs) {p : List Nat} {old y : T} {o : Nat} (hg : getSq xs p = some old) (ho : offSq sz xs p = some o) (hset : setSq xs p y = some xs') (hy : y.wf) (hsz : y.size = old.size) :
    xs'.length = xs.length ∧ (∀ x ∈ xs', x.size = sz) ∧ T.wfL xs' ∧ o + y.size ≤ xs.length * sz ∧ Patched (T.cellsL xs) (T.cellsL xs') o y.cells := by
  cases p with
  | nil => simp [getSq] at hg
  | cons j q =>
    simp only [getSq] at hg; simp only [offSq] at ho; simp only [setSq] at hset
    split at hg
    · rename_i hj
      rw [if_pos hj] at ho hset
      have hx : xs[j]? = some (xs.getD j default) := by simp [hj]
      split at ho
      · rename_i o' ho'
        cases ho
        split at hset
        · rename_i z hz
          cases hset
          have hxw := wfL_get hw hx
          obtain ⟨g1, g2, g3, g4⟩ := T.set_ok q _ old y z o' hxw hg ho' hz hy hsz
          obtain ⟨k1, k2, k3⟩ := cellsL_set hw hx g1 g2
          have hxs : (xs.getD j default).size = sz := hs _ (List.mem_of_getElem? hx)
          rw [sizeL_take_const hs j (by omega)] at k1
          refine ⟨by simp, fun x hx' => ?_, k2, ?_, ?_⟩
          · rcases List.mem_or_eq_of_mem_set hx' with h | h
            · exact hs x h
            · rw [h, g2, hxs]
          · have h1 : (j + 1) * sz ≤ xs.length * sz := Nat.mul_le_mul_right sz (by omega)
            rw [Nat.add_mul] at h1; omega
          · refine Patched.trans (mid := []) k1 g4 (by rw [T.cells_len _ g1, T.cells_len _ hxw, g2]) (by rw [T.cells_len _ hy, T.cells_len _ hxw]; exact g3) ?_
            intro i c hi
            have := cellsL_get hw hx i c hi
            rwa [sizeL_take_const hs j (by omega)] at this
        · cases hset
      · cases ho
    · cases hg

def aStoreG (E : Env) (H : List Blk) (t : TypeId) (x v : AV) : Option (List Blk) :=
  match x with
  | .ptr i off p => match H[i]? with
    | some (.by l) => match v with
      | .t (.int .u8 n) => match p with
        | [j] => if off = j ∧ j < l.length ∧ (E t).size = 1 then some (H.set i (.by (l.set j (UInt8.ofNat n.toNat)))) else none
        | _ => none
      | _ => none
    | some (.sq _ _) => match (freezeOnes H v.rows)[i]? with
      | some (.sq sz xs) => match immV (freezeOnes H v.rows) v with
        | some y0 => match getSq xs p, setSq xs p (tydT E y0 t) with
          | some old, some xs' => if offSq sz xs p = some off ∧ (tydT E y0 t).size = old.size ∧ (tydT E y0 t).size = (E t).size ∧ 0 < (E t).size then some ((freezeOnes H v.rows).set i (.sq sz xs')) else none
          | _, _ => none
        | none => none
      | _ => none
    | some (.bx a) => if v.solid H = true then
        match AV.get a p, AV.set a p v with
        | some old, some a' => if AV.off a p = some off ∧ v.size = old.size ∧ v.size = (E t).size ∧ 0 < (E t).size then some (H.set i (.bx a')) else none
        | _, _ => none
      else none
    | _ => none
  | _ => none

theorem BlkOk.bxcell {m : Mem} {w : World} {v : AV} {hd : Value} (h : BlkOk m w (.bx v) hd) : ∃ (b : Nat) (cur : Array Value) (e : TypeId), hd = .pointer (some ⟨b, 0, none⟩) ∧ w.heap[b]? = some (.cells cur e (0, 0)) ∧ m.M b = none ∧ v.wf ∧ cur.size = v.size ∧
      ∀ (j : Nat) (c : AV), v.cells[j]? = some c → ∃ u, cur[j]? = some u ∧ RelA m c u := h

theorem run_storeG {P : Program} {E : Env} {t : TypeId} (ht : TyOk P E t) {w : World} {b o : Nat} {cur : Array Value} {e : TypeId} {u : Value} (hh : w.heap[b]? = some (.cells cur e (0, 0)))
    (hs : u.cells.size = (E t).size) (hfit : o + u.cells.size ≤ cur.size) (h1 : ∀ v ∈ u.cells.toList, v.oneCell' = true) :
    (Instr.storeAt t (.pointer (some ⟨b, o, none⟩)) u).run P w = .ok () (w.setRow b (cur.toList.take (o + 0) ++ u.cells.toList ++ cur.toList.drop (o + 0 + u.cells.toList.length)).toArray) := by
  have hst := run_storeCells_at P b o e u.cells.toList 0 cur w hh (by simpa using hfit) h1
  simp only [Instr.storeAt, Instr.sureAddr, storeVar, Sem.run_bind, Sem.run_pure, Result.andThen_ok, ht.sizeOf, hs]
  simp only [ne_eq, not_true_eq_false, if_false, Sem.run_bind, Sem.run_pure, Result.andThen_ok]
  exact hst

theorem aStoreG_ok {P : Program} {E : Env} (hE : EnvOk P E) {c : Ctx} {m : Mem} {w : World} {H : List Blk} (h : Inv c m w H) {t : TypeId} {x v : AV} {a b : Value} {H' : List Blk}
    (hx : RelA m x a) (hb : RelA m v b) (hv : aStoreG E H t x v = some H') :
    ∃ m' w', Ext m m' ∧ Inv c m' w' H' ∧ (Instr.storeAt t a b).run P w = .ok () w' := by
  unfold aStoreG at hv
  split at hv
  case h_2 => cases hv
  rename_i i off p
  split at hv
  · rename_i l hB
    have hv' : aStore E H t (.ptr i off p) v = some H' := by
      split at hv
      · rename_i n
        split at hv
        · rename_i j
          simp only [aStore, hB]; exact hv
        · cases hv
      · cases hv
    obtain ⟨w', g1, g2⟩ := aStore_ok (P := P) hE h hx hb hv'
    exact ⟨m, w', .refl m, g1, g2⟩
  · rename_i sz0 xs0 hB0
    obtain ⟨m1, e1, h1⟩ := freezeOnes_ok v.rows m H h
    split at hv
    case h_2 => cases hv
    rename_i sz xs hB
    split at hv
    case h_2 => cases hv
    rename_i y0 hy0
    split at hv
    case h_2 => cases hv
    rename_i old xs' hold hxs'
    split at hv
    case isFalse => cases hv
    rename_i hc
    obtain ⟨ho, hs1, hs2, hp⟩ := hc
    cases hv
    have hx1 := hx.mono e1
    have hb1 := (immV_rel h1 (hb.mono e1) hy0).typed E t
    obtain ⟨g, rfl, hin, hg⟩ := hx1.ptr_inv
    obtain ⟨hwf, hok⟩ := h1.ok _ _ hB
    obtain ⟨hw1, hw2, hw3, hw4⟩ := (by simpa only [T.wf] using hwf : 0 < sz ∧ xs.length ≤ maxLen ∧ (∀ x ∈ xs, x.size = sz) ∧ T.wfL xs)
    obtain ⟨k1, k2, k3, k4, k5⟩ := setSq_ok hw3 hw4 hold ho hxs' hb1.wf hs1
    rcases hok with ⟨hd, rfl⟩ | ⟨b', cap, cur, e, hd, hh, hcs, hl, hm, hM, hcc⟩
    · cases p <;> simp [getSq] at hold
    · rw [hd] at hg; cases hg
      obtain ⟨c1, c2⟩ := hb1.value_cells
      have hone : ∀ u ∈ b.cells.toList, u.oneCell' = true := by
        intro u hu
        obtain ⟨j, hj⟩ := List.getElem?_of_mem hu
        have hlt := (List.getElem?_eq_some_iff.1 hj).1
        have hlen := T.cells_len _ hb1.wf
        obtain ⟨u', hu', hr⟩ := c2 j ((tydT E y0 t).cells[j]'(by simp at hlt; omega)) (List.getElem?_eq_getElem _)
        simp at hj hu'
        rw [hj] at hu'; cases hu'
        exact hr.oneCell (T.cells_flat _ _ (List.getElem_mem _))
      have hfit : off + b.cells.size ≤ cur.size := by
        rw [c1, hcs]
        have := Nat.mul_le_mul_right sz hl
        omega
      have hrun := run_storeG (P := P) (hE.size rfl hp) (o := off) hh (by rw [c1, hs2]) hfit hone
      refine ⟨m1, _, e1, ?_, hrun⟩
      refine h1.upd (w' := w.setRow b' _) hB rfl rfl rfl rfl (by simp [World.setRow]) (fun b0 hb0 => setRow_other w b' b0 _ (fun he => hb0 (by rw [hd, he]; rfl))) ?_
      refine ⟨by simp only [T.wf]; exact ⟨hw1, by rw [k1]; exact hw2, k2, k3⟩, .inr ⟨b', cap, _, e, by rw [k1]; exact hd, setRow_heap w b' cur _ e _ hh, ?_, by rw [k1]; exact hl, hm, hM, ?_⟩⟩
      · rw [patch_size (by simpa using hfit)]; exact hcs
      · intro j c' hj
        rw [patch_array (by simpa using hfit)]
        rw [k5 j] at hj
        have hlen := T.cells_len _ hb1.wf
        simp only [Array.length_toList]
        by_cases hr : off ≤ j ∧ j < off + (tydT E y0 t).cells.length
        · rw [if_pos hr] at hj
          rw [if_pos (by omega)]
          simpa using c2 _ c' hj
        · rw [if_neg hr] at hj
          rw [if_neg (by omega)]
          exact hcc j c' hj
  · rename_i a0 hB
    split at hv
    case isFalse => cases hv
    rename_i hsol
    split at hv
    case h_2 => cases hv
    rename_i old a' hold ha'
    split at hv
    case isFalse => cases hv
    rename_i hc
    obtain ⟨ho, hs1, hs2, hp⟩ := hc
    cases hv
    obtain ⟨g, rfl, hin, hg⟩ := hx.ptr_inv
    obtain ⟨b', cur, e, hd, hh, hM, hw, hcs, hcc⟩ := (h.ok _ _ hB).bxcell
    rw [hd] at hg; cases hg
    obtain ⟨k1, k2, k3, k4⟩ := AV.set_ok p a0 old v a' off hw hold ho ha' hb.wf hs1
    obtain ⟨c1, c2, c3⟩ := hb.value_cells h hsol
    have hfit : off + b.cells.size ≤ cur.size := by rw [c1, hcs]; exact k3
    have hrun := run_storeG (P := P) (hE.size rfl hp) (o := off) hh (by rw [c1, hs2]) hfit c3
    refine ⟨m, _, .refl m, ?_, hrun⟩
    refine h.upd (w' := w.setRow b' _) hB rfl rfl rfl rfl (by simp [World.setRow]) (fun b0 hb0 => setRow_other w b' b0 _ (fun he => hb0 (by rw [hd, he]; rfl))) ?_
    refine ⟨b', _, e, hd, setRow_heap w b' cur _ e _ hh, hM, k1, by rw [patch_size (by simpa using hfit), hcs, k2], ?_⟩
    intro j c' hj
    rw [patch_array (by simpa using hfit)]
    rw [k4 j] at hj
    have hlen := AV.cells_len _ hb.wf
    simp only [Array.length_toList]
    by_cases hr : off ≤ j ∧ j < off + v.cells.length
    · rw [if_pos hr] at hj
      rw [if_pos (by omega)]
      simpa using c2 _ c' hj
    · rw [if_neg hr] at hj
      rw [if_neg (by omega)]
      exact hcc j c' hj
  · cases hv

/-! ### New boxes. -/

def aAlloc (E : Env) (H : List Blk) (t : TypeId) : Option (AV × List Blk) :=
  if 0 < (E t).size then some (.ptr H.length 0 [], H ++ [.bx (.t (E t).zero)]) else none

def aBox (H : List Blk) (v : AV) : Option (AV × List Blk) :=
  if v.solid H = true then some (.ptr H.length 0 [], H ++ [.bx v]) else none

theorem newbox {c : Ctx} {m : Mem} {w : World} {H : List Blk} (h : Inv c m w H) {v : AV} {u : Value} (hv : RelA m v u) (hs : v.solid H = true) (t : TypeId) :
    Inv c (m.push (.pointer (some ⟨w.heap.size, 0, none⟩))) (w.alloc (.cells u.cells t)) (H ++ [.bx v]) := by
  obtain ⟨c1, c2, c3⟩ := hv.value_cells h hs
  refine h.fresh (w' := w.alloc (.cells u.cells t)) rfl rfl rfl (by simp) (fun b hb => heap_alloc_old w _ hb) ?_ (fun b _ hb => by cases hb; exact Nat.le_refl _)
  refine ⟨w.heap.size, _, t, rfl, heap_alloc_new w _, M_fresh h (Nat.le_refl _), hv.wf, c1, fun j c' hj => ?_⟩
  obtain ⟨u', hu, hr⟩ := c2 j c' hj
  exact ⟨u', hu, hr.mono (Ext.push m _)⟩

theorem aAlloc_ok {P : Program} {E : Env} (hE : EnvOk P E) {c : Ctx} {m : Mem} {w : World} {H : List Blk} (h : Inv c m w H) {t : TypeId} {v : AV} {H' : List Blk}
    (hv : aAlloc E H t = some (v, H')) : ∃ m' w' val, Ext m m' ∧ Inv c m' w' H' ∧ RelA m' v val ∧ (Instr.alloc t true (.tuple #[])).run P w = .ok val w' := by
  unfold aAlloc at hv
  split at hv
  · rename_i hp
    cases hv
    obtain ⟨i, z, hi, g1, g2, g3, g4, g5, g6⟩ := (hE.size rfl hp : TyOk P E t).info
    refine ⟨_, _, _, Ext.push m _, newbox h (.t (g4.mono (noM_le _))) rfl t, push_ptr h.len _, ?_⟩
    simp [Instr.alloc, zeroValue, typeInfo, hi, g3, newVar, newRow]
  · cases hv

theorem aBox_ok {P : Program} {c : Ctx} {m : Mem} {w : World} {H : List Blk} (h : Inv c m w H) {t : TypeId} {x v : AV} {a : Value} {H' : List Blk} (hx : RelA m x a)
    (hv : aBox H x = some (v, H')) : ∃ m' w' val, Ext m m' ∧ Inv c m' w' H' ∧ RelA m' v val ∧ (Instr.box t a).run P w = .ok val w' := by
  unfold aBox at hv
  split at hv
  · rename_i hs
    cases hv
    refine ⟨_, _, _, Ext.push m _, newbox h hx hs t, push_ptr h.len _, ?_⟩
    simp [Instr.box, newVar, newRow]
  · cases hv

end Go.Fw

end
