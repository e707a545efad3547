/- The abstract machine, and the contracts of the code: part 9. -/
import Derived.Test.YtchljppcenckaaaFwG

section
/- Append, as a step of the abstract machine. -/
namespace Go.Fw
set_option linter.unusedVariables false
set_option linter.unusedSimpArgs false
open Go

def catT : T → T → Option T
  | .nil, .by l => some (.by l)
  | .nil, .str l => some (.by l)
  | .nil, .sq sz xs => some (.sq sz xs)
  | .by l, .nil => some (.by l)
  | .by l, .by k => some (.by (l ++ k))
  | .by l, .str k => some (.by (l ++ k))
  | .sq sz xs, .nil => some (.sq sz xs)
  | .sq sz xs, .sq sz' ys => if sz = sz' then some (.sq sz (xs ++ ys)) else none
  | _, _ => none

def toBlk : T → Blk
  | .by l => .by l
  | .sq sz xs => .sq sz xs
  | _ => .no

def RowOk (m : Mem) (w : World) (r : Row) (hd : Value) : Prop :=
  (hd = .slice none 0 0 ∧ r.n = 0 ∧ r.cs = []) ∨ ∃ (b cap : Nat) (cur : Array Value) (e : TypeId), hd = .slice (some ⟨b, 0, none⟩) r.n cap ∧ w.heap[b]? = some (.cells cur e (0, 0)) ∧
    cur.size = cap * r.sz ∧ r.n ≤ cap ∧ cap ≤ maxLen ∧ m.M b = none ∧ ∀ (j : Nat) (c : T), r.cs[j]? = some c → ∃ u, cur[j]? = some u ∧ RelT m.M c u

def Blk.isRow : Blk → Bool
  | .by _ | .sq _ _ => true
  | _ => false

def Blk.toT : Blk → T
  | .by l => .by l
  | .sq sz xs => .sq sz xs
  | _ => .nil

theorem BlkOk.row {m : Mem} {w : World} {B : Blk} {hd : Value} (hB : B.isRow = true) (h : BlkOk m w B hd) {sz : Nat} {r : Row} (hr : B.toT.row sz = some r) : RowOk m w r hd := by
  cases B with
  | «by» l =>
    simp only [Blk.toT, T.row] at hr
    split at hr
    · cases hr
      rcases h with ⟨rfl, rfl⟩ | ⟨b, cap, cur, e, h1, h2, h3, h4, h5, h6, h7⟩
      · exact .inl ⟨rfl, rfl, rfl⟩
      · refine .inr ⟨b, cap, cur, e, h1, h2, by simpa using h3, h4, h5, h6, fun j c hj => ?_⟩
        simp only [List.getElem?_map, Option.map_eq_some_iff] at hj
        obtain ⟨d, hd, rfl⟩ := hj
        exact ⟨_, h7 j d hd, RelT_u8 d⟩
    · cases hr
  | sq sz' xs =>
    simp only [Blk.toT, T.row] at hr
    split at hr
    · cases hr
      obtain ⟨hw, h⟩ := h
      rcases h with ⟨rfl, rfl⟩ | ⟨b, cap, cur, e, h1, h2, h3, h4, h5, h6, h7⟩
      · exact .inl ⟨rfl, rfl, rfl⟩
      · exact .inr ⟨b, cap, cur, e, h1, h2, h3, h4, h5, h6, h7⟩
    · cases hr
  | _ => simp [Blk.isRow] at hB

theorem RowOk.blk {m : Mem} {w : World} {z : T} {hd : Value} {sz : Nat} {r : Row} (hr : z.row sz = some r) (hz : (toBlk z).isRow = true) (hw : z.wf) (h : RowOk m w r hd) : BlkOk m w (toBlk z) hd := by
  cases z with
  | «by» l =>
    simp only [T.row] at hr
    split at hr
    · cases hr
      rcases h with ⟨h1, h2, _⟩ | ⟨b, cap, cur, e, h1, h2, h3, h4, h5, h6, h7⟩
      · exact .inl ⟨h1, List.eq_nil_of_length_eq_zero h2⟩
      · refine .inr ⟨b, cap, cur, e, h1, h2, by simpa using h3, h4, h5, h6, fun j c hj => ?_⟩
        obtain ⟨u, hu, hr⟩ := h7 j (u8 c) (by simp [hj])
        rw [u8_rel hr] at hu; exact hu
    · cases hr
  | sq sz' xs =>
    simp only [T.row] at hr
    split at hr
    · cases hr
      refine ⟨hw, ?_⟩
      rcases h with ⟨h1, h2, _⟩ | ⟨b, cap, cur, e, h1, h2, h3, h4, h5, h6, h7⟩
      · exact .inl ⟨h1, List.eq_nil_of_length_eq_zero h2⟩
      · exact .inr ⟨b, cap, cur, e, h1, h2, h3, h4, h5, h6, h7⟩
    · cases hr
  | _ => simp [toBlk, Blk.isRow] at hz

theorem T.row_len {z : T} {sz : Nat} {r : Row} (hr : z.row sz = some r) (hw : z.wf) : r.sz = sz ∧ r.cs.length = r.n * sz := by
  cases z with
  | nil => cases hr; exact ⟨rfl, by simp⟩
  | «by» l => simp only [T.row] at hr; split at hr <;> cases hr; rename_i h; exact ⟨h.symm, by simp [h]⟩
  | str l => simp only [T.row] at hr; split at hr <;> cases hr; rename_i h; exact ⟨h.symm, by simp [h]⟩
  | sq sz' xs =>
    simp only [T.row] at hr; split at hr <;> cases hr
    rename_i h
    subst h
    obtain ⟨hw1, hw2, hw3, hw4⟩ := (by simpa only [T.wf] using hw : 0 < sz' ∧ xs.length ≤ maxLen ∧ (∀ x ∈ xs, x.size = sz') ∧ T.wfL xs)
    exact ⟨rfl, by rw [T.cellsL_len xs hw4, T.sizeL_const xs sz' hw3]⟩
  | _ => simp [T.row] at hr

theorem catT_row {x y z : T} (h : catT x y = some z) (hx : x.wf) (hy : y.wf) {sz : Nat} {r : Row} (hr : z.row sz = some r) (hn : r.n ≤ maxLen) :
    (toBlk z).isRow = true ∧ z.wf ∧ ∃ r1 r2, x.row sz = some r1 ∧ y.row sz = some r2 ∧ r.n = r1.n + r2.n ∧ r.cs = r1.cs ++ r2.cs ∧ r.sz = sz := by
  unfold catT at h
  split at h <;> (try cases h)
  all_goals first
    | (simp only [T.row] at hr ⊢
       split at hr <;> cases hr
       rename_i hsz
       first
         | (refine ⟨rfl, ?_, _, _, rfl, by rw [if_pos hsz], by simp, by simp, by simp [hsz]⟩
            first | (simpa only [T.wf] using hy) | (simp only [T.wf] at hy ⊢; exact hy))
         | (refine ⟨rfl, ?_, _, _, by rw [if_pos hsz], rfl, by simp, by simp, by simp [hsz]⟩
            first | (simpa only [T.wf] using hx) | (simp only [T.wf] at hx ⊢; exact hx))
         | (refine ⟨rfl, ?_, _, _, by rw [if_pos hsz], by rw [if_pos hsz], by simp, by simp, by simp [hsz]⟩
            simpa only [T.wf] using hn))
    | skip
  · rename_i sz1 xs sz2 ys
    split at h
    · rename_i hss
      subst hss
      cases h
      simp only [T.row] at hr ⊢
      split at hr <;> cases hr
      rename_i hsz
      simp only [T.wf] at hx hy
      refine ⟨rfl, ?_, _, _, by rw [if_pos hsz], by rw [if_pos hsz], by simp, by simp [cellsL_append], by simp [hsz]⟩
      simp only [T.wf]
      refine ⟨hx.1, by simpa using hn, ?_, ?_⟩
      · intro x h
        rw [List.mem_append] at h
        rcases h with h | h
        · exact hx.2.2.1 x h
        · exact hy.2.2.1 x h
      · refine (T.wfL_iff _).2 fun x h => ?_
        rw [List.mem_append] at h
        rcases h with h | h
        · exact (T.wfL_iff _).1 hx.2.2.2 x h
        · exact (T.wfL_iff _).1 hy.2.2.2 x h
    · cases h

def srcT (H : List Blk) (y : AV) : Option T :=
  match y with
  | .t (.str l) => some (.str l)
  | y => rowT H y

def isSlStr : Ty → Bool
  | .sl _ | .str => true
  | _ => false

def appFin (E : Env) (e : TypeId) (z : Option T) (H : List Blk) : Option (AV × List Blk) :=
  match z with
  | some (.by l) => if (E e).size = 1 ∧ (E e).bytes ≤ 256 ∧ 0 < (E e).bytes ∧ l.length ≤ 549755813888 then some (.own H.length, H ++ [.by l]) else none
  | some (.sq sz xs) => if (E e).size = sz ∧ (E e).bytes ≤ 256 ∧ 0 < (E e).bytes ∧ xs.length ≤ 549755813888 then some (.own H.length, H ++ [.sq sz xs]) else none
  | _ => none

def aAppend (E : Env) (H : List Blk) (t u : TypeId) (x y : AV) : Option (AV × List Blk) :=
  match (E t).ty with
  | .sl e =>
    if isSlStr (E u).ty = true then
      match srcT H y with
      | some yT => match x with
        | .t .nil => appFin E e (catT .nil yT) H
        | .own i => match H[i]? with
          | some (.by l) => appFin E e (catT (.by l) yT) (H.set i .no)
          | some (.sq sz xs) => appFin E e (catT (.sq sz xs) yT) (H.set i .no)
          | _ => none
        | _ => none
      | none => none
    else none
  | _ => none

theorem srcT_ok {c : Ctx} {m : Mem} {w : World} {H : List Blk} (h : Inv c m w H) {v : AV} {u : Value} (hv : RelA m v u) {x : T} (hx : srcT H v = some x) {sz : Nat} {r : Row} (hr : x.row sz = some r) : RelR w m.M x u := by
  unfold srcT at hx
  split at hx
  · cases hx; exact hv.t_inv.toR h.snap rfl
  · exact rowR_ok h hv hx (by cases x <;> first | rfl | simp [T.row] at hr)

theorem RelR.wf {w : World} {M : Nat → Option Obj} {x : T} {u : Value} (h : RelR w M x u) : x.wf := by
  cases h <;> simp only [T.wf] <;> first | trivial | assumption | (simp [T.wfL]; try assumption) | omega

/-- The append itself: from a row of the call's own (or nil), to a row of the call's own. -/
theorem append_core {P : Program} {E : Env} (hE : EnvOk P E) {c : Ctx} {m : Mem} {w : World} {H H1 : List Blk} (h : Inv c m w H) {t u ty e : TypeId} (ht : P.underlying t = some (.slice e))
    (hu : ∃ d, P.underlying u = some d ∧ ∀ k, d ≠ .int k) {xT yT z : T} {s b : Value} {r1 : Row} (hs : RowOk m w r1 s) (hxw : xT.wf) (hr1 : xT.row (E e).size = some r1)
    (hy : ∀ {sz : Nat} {r : Row}, yT.row sz = some r → RelR w m.M yT b) (hcat : catT xT yT = some z) {r : Row} (hr : z.row (E e).size = some r) (he : TyOk P E e)
    (hn : r.n ≤ 1099511627776) (hb : r.n * (E e).bytes ≤ 140737488355328) (hb0 : 0 < (E e).bytes)
    (hlen : H1.length = H.length) (hH1 : ∀ (k : Nat) (B : Blk), H1[k]? = some B → B.live = true → H[k]? = some B ∧ ∀ b, blk (m.η k) = some b → blk s ≠ some b)
    (hfz : ∀ (k : Nat) (B : Blk), H1[k]? = some B → B.live = false → H[k]? = some B ∨ B = .no)
    (hD : ∀ b, blk s = some b → m.M b = none ∧ (c.w0.heap.size ≤ b ∨ c.O b)) (hyw : yT.wf) :
    ∃ m' w' val, Ext m m' ∧ Inv c m' w' (H1 ++ [toBlk z]) ∧ RelA m' (.own H1.length) val ∧ (Builtin.append_ #[t, u] ty #[s, b]).run P w = .ok val w' := by
  have hn' : r.n ≤ maxLen := by unfold maxLen; omega
  obtain ⟨z1, z2, r1', r2, q1, q2, q3, q4, q5⟩ := catT_row hcat hxw hyw hr hn'
  rw [hr1] at q1; cases q1
  have hyr := hy q2
  obtain ⟨_, hm2, news, hnl, hnlen, hnews, hone, hrel⟩ := hyr.firstCells (P := P) (w' := w) rfl q2
  obtain ⟨_, _, news', hnl', hnlen', hnews', hone', hrel'⟩ := hyr.firstCells (P := P) (w' := w.drew) rfl q2
  obtain ⟨e1, e2⟩ := T.row_len hr1 hxw
  have hsz := he.info
  obtain ⟨_, _, _, _, _, _, _, _, hpos⟩ := hsz
  have own : ∀ hd, RelA (m.push hd) (.own H1.length) hd := fun hd => by rw [hlen]; exact push_own h.len hd
  rcases hs with ⟨rfl, h0, hcs⟩ | ⟨g, cap, cur, e', rfl, hh, hcs, hcap, hmx, hM, hcells⟩
  · -- nil
    by_cases hm0 : r2.n = 0
    · refine ⟨m.push (.slice none 0 0), w, .slice none 0 0, Ext.push m _, ?_, own _, ?_⟩
      · refine h.put (fun _ => False) rfl rfl rfl (Nat.le_refl _) (fun _ _ _ => rfl) hlen (fun k B hk hl => ⟨(hH1 k B hk hl).1, fun _ _ h => h⟩) hfz (fun _ h => h.elim) ?_ (fun b _ hb => by cases hb)
        refine RowOk.blk hr z1 z2 (.inl ⟨rfl, by omega, ?_⟩)
        rw [q4, hcs, List.nil_append]
        exact List.eq_nil_of_length_eq_zero (by rw [(T.row_len q2 hyw).2, hm0, Nat.zero_mul])
      · obtain ⟨d, hd, hk⟩ := hu
        have hz : (match d with | .int _ => true | _ => false) = false := by
          cases d <;> first | rfl | exact (hk _ rfl).elim
        have hn0 : news = [] := List.eq_nil_of_length_eq_zero (by rw [hnl, hm0, Nat.zero_mul])
        rw [hm0] at hnlen hnews
        subst hn0
        simp only [Builtin.append_, Sem.run_bind, Sem.run_pure, List.getElem?_toArray, List.getElem?_cons_zero, List.getElem?_cons_succ, run_underlying ht, run_underlying hd, he.sizeOf, Result.andThen_ok, hz,
          Bool.false_eq_true, if_false, hnlen, Nat.add_zero, Nat.le_refl, if_true, Bool.not_false, hnews]
    · obtain ⟨cap, rest, g1, g2, g3, g4⟩ := run_append_new (ty := ty) (x := b) (news := news') (olds := []) ht hu he (s := .slice none 0 0) rfl hnlen (by simp [Builtin.firstCells]) hnews' (by omega)
        (by rw [← h0, ← q3] at *; simpa [h0] using hb) (by omega) hb0
      refine ⟨m.push (.slice (some ⟨w.heap.size, 0, none⟩) (0 + r2.n) cap), _, _, Ext.push m _, ?_, own _, g4⟩
      refine h.put (w' := w.drew.alloc _) (fun _ => False) rfl rfl rfl (by simp) (fun b hb _ => heap_alloc_old w.drew _ hb) hlen (fun k B hk hl => ⟨(hH1 k B hk hl).1, fun _ _ h => h⟩) hfz (fun _ h => h.elim) ?_
        (fun b _ hb => by cases hb; exact .inl (Nat.le_refl _))
      refine RowOk.blk hr z1 z2 (.inr ⟨w.heap.size, cap, _, e, by rw [q3, h0], heap_alloc_new w.drew _, ?_, by omega, g2, M_fresh h (Nat.le_refl _), ?_⟩)
      · simp only [Array.size_append, List.size_toArray, List.length_nil, hnl', g3, q5, Nat.zero_add]
        rw [← Nat.add_mul]; congr 1; omega
      · intro j c hj
        rw [q4, hcs, List.nil_append] at hj
        obtain ⟨v, hv, hr⟩ := hrel' j c hj
        have hlt := (List.getElem?_eq_some_iff.1 hv).1
        refine ⟨v, ?_, hr⟩
        rw [Array.getElem?_append_left (by simpa using hlt)]
        simpa using hv
  · have hcl : ∀ j c, r1.cs[j]? = some c → j < r1.n * (E e).size := fun j c hj => by rw [← e2]; exact (List.getElem?_eq_some_iff.1 hj).1
    rw [e1] at hcs
    by_cases hroom : r1.n + r2.n ≤ cap
    · have hfit : r1.n * (E e).size + news.length ≤ cur.size := by rw [hnl, hcs, ← Nat.add_mul]; exact Nat.mul_le_mul_right _ hroom
      have hrun := run_append_in (ty := ty) ht hu he hh hnlen hnews hone hroom hfit
      refine ⟨m.push (.slice (some ⟨g, 0, none⟩) (r1.n + r2.n) cap), _, _, Ext.push m _, ?_, own _, hrun⟩
      refine h.put (w' := w.setRow g _) (fun b => b = g) rfl rfl rfl (by simp [World.setRow]) (fun b hb hne => setRow_other w g b _ hne) hlen
        (fun k B hk hl => ⟨(hH1 k B hk hl).1, fun b hb he => (hH1 k B hk hl).2 b hb (by rw [he]; rfl)⟩) hfz (fun b hb => by subst hb; exact hD _ rfl) ?_ (fun b _ hb => by cases hb; exact .inr rfl)
      have hsz' : (cur.toList.take (r1.n * (E e).size) ++ news ++ cur.toList.drop (r1.n * (E e).size + news.length)).length = cur.size := by
        simp; omega
      refine RowOk.blk hr z1 z2 (.inr ⟨g, cap, _, e', by rw [q3], setRow_heap w g cur _ e' _ hh, ?_, by omega, hmx, hM, ?_⟩)
      · rw [List.size_toArray, hsz', q5, hcs]
      · intro j c hj
        rw [q4] at hj
        rcases Nat.lt_or_ge j r1.cs.length with hlt | hge
        · rw [List.getElem?_append_left hlt] at hj
          obtain ⟨v, hv, hr⟩ := hcells j c hj
          rw [e2] at hlt
          have hjc := (Array.getElem?_eq_some_iff.1 hv).1
          refine ⟨v, ?_, hr⟩
          simp only [List.getElem?_toArray, List.append_assoc]
          rw [List.getElem?_append_left (by simp; omega), List.getElem?_take, if_pos hlt]
          simpa using hv
        · rw [List.getElem?_append_right hge, e2] at hj
          rw [e2] at hge
          obtain ⟨v, hv, hr⟩ := hrel _ c hj
          have hlt := (List.getElem?_eq_some_iff.1 hv).1
          refine ⟨v, ?_, hr⟩
          have htl : (cur.toList.take (r1.n * (E e).size)).length = r1.n * (E e).size := by simp; omega
          simp only [List.getElem?_toArray, List.append_assoc]
          rw [List.getElem?_append_right (by omega), htl, List.getElem?_append_left hlt]
          exact hv
    · have holds : ∃ olds : List Value, olds.length = r1.n * (E e).size ∧ (Builtin.firstCells (E e).size r1.n (.slice (some ⟨g, 0, none⟩) r1.n cap)).run P w.drew = .ok olds.toArray w.drew ∧ ∀ j, j < r1.n * (E e).size → olds[j]? = cur[j]? := by
        have hle : r1.n * (E e).size ≤ cur.size := by rw [hcs]; exact Nat.mul_le_mul_right _ hcap
        refine ⟨cur.toList.take (r1.n * (E e).size), by simp; omega, ?_, fun j hj => by simp [hj]⟩
        simp only [Builtin.firstCells]
        have := run_loadCells_list (P := P) w.drew ⟨g, 0, none⟩ (cur.toList.take (r1.n * (E e).size)) (by
          intro j v hj
          rw [addr_add, cell_at (show w.drew.heap[g]? = _ from hh)]
          have hlt := (List.getElem?_eq_some_iff.1 hj).1
          rw [List.length_take] at hlt
          rw [List.getElem?_take, if_pos (by omega)] at hj
          simpa using hj)
        rw [show (cur.toList.take (r1.n * (E e).size)).length = r1.n * (E e).size by simp; omega] at this
        exact this
      obtain ⟨olds, hol, holds, hoget⟩ := holds
      obtain ⟨cap', rest, g1, g2, g3, g4⟩ := run_append_new (ty := ty) (x := b) (news := news') (olds := olds) ht hu he rfl hnlen holds hnews' hroom (by rw [← q3]; exact hb) (by omega) hb0
      refine ⟨m.push (.slice (some ⟨w.heap.size, 0, none⟩) (r1.n + r2.n) cap'), _, _, Ext.push m _, ?_, own _, g4⟩
      refine h.put (w' := w.drew.alloc _) (fun _ => False) rfl rfl rfl (by simp) (fun b hb _ => heap_alloc_old w.drew _ hb) hlen (fun k B hk hl => ⟨(hH1 k B hk hl).1, fun _ _ h => h⟩) hfz (fun _ h => h.elim) ?_
        (fun b _ hb => by cases hb; exact .inl (Nat.le_refl _))
      refine RowOk.blk hr z1 z2 (.inr ⟨w.heap.size, cap', _, e, by rw [q3], heap_alloc_new w.drew _, ?_, by omega, g2, M_fresh h (Nat.le_refl _), ?_⟩)
      · simp only [Array.size_append, List.size_toArray, hol, hnl', g3, q5]
        rw [← Nat.add_mul, ← Nat.add_mul]; congr 1; omega
      · intro j c hj
        rw [q4] at hj
        rcases Nat.lt_or_ge j r1.cs.length with hlt | hge
        · rw [List.getElem?_append_left hlt] at hj
          obtain ⟨v, hv, hr⟩ := hcells j c hj
          rw [e2] at hlt
          refine ⟨v, ?_, hr⟩
          rw [Array.getElem?_append_left (by simp [hol]; omega), Array.getElem?_append_left (by simpa [hol] using hlt)]
          simp only [List.getElem?_toArray]
          rw [hoget j hlt]; exact hv
        · rw [List.getElem?_append_right hge, e2] at hj
          rw [e2] at hge
          obtain ⟨v, hv, hr⟩ := hrel' _ c hj
          have hlt := (List.getElem?_eq_some_iff.1 hv).1
          refine ⟨v, ?_, hr⟩
          rw [Array.getElem?_append_left (by simp [hol]; omega), Array.getElem?_append_right (by simpa [hol] using hge)]
          simp only [List.size_toArray, hol, List.getElem?_toArray]
          exact hv

theorem isSlStr_ok {P : Program} {E : Env} (hE : EnvOk P E) {u : TypeId} (h : isSlStr (E u).ty = true) : ∃ d, P.underlying u = some d ∧ ∀ k, d ≠ .int k := by
  cases hu : (E u).ty <;> rw [hu] at h <;> simp [isSlStr] at h
  · have d := (hE.ty hu (by simp)).1
    exact ⟨_, d, by simp⟩
  · have d := (hE.ty hu (by simp)).1
    exact ⟨_, d, by simp⟩

theorem aAppend_ok {P : Program} {E : Env} (hE : EnvOk P E) (hBy : ByteOk E) {c : Ctx} {m : Mem} {w : World} {H : List Blk} (h : Inv c m w H) {t u ty : TypeId} {x y v : AV} {a b : Value} {H' : List Blk}
    (hx : RelA m x a) (hy : RelA m y b) (hv : aAppend E H t u x y = some (v, H')) :
    ∃ m' w' val, Ext m m' ∧ Inv c m' w' H' ∧ RelA m' v val ∧ (Builtin.append_ #[t, u] ty #[a, b]).run P w = .ok val w' := by
  unfold aAppend at hv
  split at hv
  case h_2 => cases hv
  rename_i e ht
  have d := (hE.ty ht (by simp)).1
  simp only [DescOk] at d
  split at hv
  case isFalse => cases hv
  rename_i hu
  have du := isSlStr_ok hE hu
  split at hv
  case h_2 => cases hv
  rename_i yT hyT
  -- the end, in common
  have fin : ∀ (xT : T) (H1 : List Blk) (r1 : Row), xT.isRow = true → xT.wf → xT.row (E e).size = some r1 → RowOk m w r1 a → appFin E e (catT xT yT) H1 = some (v, H') → H1.length = H.length →
      (∀ (k : Nat) (B : Blk), H1[k]? = some B → B.live = true → H[k]? = some B ∧ ∀ b, blk (m.η k) = some b → blk a ≠ some b) →
      (∀ (k : Nat) (B : Blk), H1[k]? = some B → B.live = false → H[k]? = some B ∨ B = .no) → (∀ b, blk a = some b → m.M b = none ∧ (c.w0.heap.size ≤ b ∨ c.O b)) →
      ∃ m' w' val, Ext m m' ∧ Inv c m' w' H' ∧ RelA m' v val ∧ (Builtin.append_ #[t, u] ty #[a, b]).run P w = .ok val w' := by
    intro xT H1 r1 hrow hw hr1 hs hf hlen hH1 hfz hD
    unfold appFin at hf
    split at hf
    · rename_i l hcat
      split at hf
      · rename_i hc
        obtain ⟨c1, cb, c4, cl⟩ := hc
        have c2 : l.length ≤ 1099511627776 := by omega
        have c3 : l.length * (E e).bytes ≤ 140737488355328 := Nat.le_trans (Nat.mul_le_mul cl cb) (by decide)
        cases hf
        have hr : (T.by l).row (E e).size = some ⟨l.length, 1, l.map u8⟩ := by simp [T.row, c1]
        have hyw : yT.wf := by
          cases hrow2 : yT.row (E e).size with
          | some r2 => exact (srcT_ok h hy hyT hrow2).wf
          | none =>
            exfalso
            cases xT <;> cases yT <;> simp [catT] at hcat <;> simp [T.row, c1] at hrow2
        exact append_core hE h d du hs hw hr1 (fun hrow => srcT_ok h hy hyT hrow) hcat hr (hE.size c1 (by omega)) c2 c3 c4 hlen hH1 hfz hD hyw
      · cases hf
    · rename_i sz xs hcat
      split at hf
      · rename_i hc
        obtain ⟨c1, cb, c4, cl⟩ := hc
        have c2 : xs.length ≤ 1099511627776 := by omega
        have c3 : xs.length * (E e).bytes ≤ 140737488355328 := Nat.le_trans (Nat.mul_le_mul cl cb) (by decide)
        cases hf
        have hr : (T.sq sz xs).row (E e).size = some ⟨xs.length, sz, T.cellsL xs⟩ := by simp [T.row, c1]
        have hyw : yT.wf := by
          cases hrow2 : yT.row (E e).size with
          | some r2 => exact (srcT_ok h hy hyT hrow2).wf
          | none =>
            exfalso
            cases xT <;> cases yT <;> simp [catT] at hcat <;> simp [T.row] at hrow2
            · obtain ⟨rfl, _⟩ := hcat; omega
            · obtain ⟨h1, h2, _⟩ := hcat; omega
        have hpos : 0 < sz := by
          have hw' : xT.wf ∧ yT.wf := ⟨hw, hyw⟩
          cases xT <;> cases yT <;> simp [catT] at hcat
          · obtain ⟨rfl, _⟩ := hcat; simp only [T.wf] at hyw; exact hyw.1
          · obtain ⟨rfl, _⟩ := hcat; simp only [T.wf] at hw; exact hw.1
          · obtain ⟨_, rfl, _⟩ := hcat; simp only [T.wf] at hw; exact hw.1
        exact append_core hE h d du hs hw hr1 (fun hrow => srcT_ok h hy hyT hrow) hcat hr (hE.size c1 hpos) c2 c3 c4 hlen hH1 hfz hD hyw
      · cases hf
    · cases hf
  split at hv
  · cases hx.t_inv
    refine fin .nil H ⟨0, (E e).size, []⟩ rfl (by simp [T.wf]) rfl (.inl ⟨rfl, rfl, rfl⟩) hv rfl (fun k B hk hl => ⟨hk, fun b hb h => by cases h⟩) (fun k B hk _ => .inl hk) (fun b hb => by cases hb)
  · rename_i i
    obtain ⟨rfl, hin⟩ := hx.own_inv
    have kills : ∀ (B0 : Blk), H[i]? = some B0 → B0.live = true →
        (∀ (k : Nat) (B : Blk), (H.set i .no)[k]? = some B → B.live = true → H[k]? = some B ∧ ∀ b, blk (m.η k) = some b → blk (m.η i) ≠ some b) ∧
        (∀ (k : Nat) (B : Blk), (H.set i .no)[k]? = some B → B.live = false → H[k]? = some B ∨ B = .no) ∧ (∀ b, blk (m.η i) = some b → m.M b = none ∧ (c.w0.heap.size ≤ b ∨ c.O b)) := by
      intro B0 hB0 hl0
      refine ⟨fun k B hk hl => ?_, fun k B hk hl => ?_, fun b hb => ⟨((h.ok i B0 hB0).at hl0 hb).1, h.own i B0 b hB0 hl0 hb⟩⟩
      · rw [List.getElem?_set] at hk
        split at hk
        · split at hk
          · cases hk; simp [Blk.live] at hl
          · cases hk
        · rename_i hne
          exact ⟨hk, fun b hb hi => hne (h.disj i k B0 B b hB0 hk hl0 hl hi hb)⟩
      · rw [List.getElem?_set] at hk
        split at hk
        · split at hk
          · cases hk; exact .inr rfl
          · cases hk
        · exact .inl hk
    split at hv
    · rename_i l hB
      obtain ⟨k1, k2, k3⟩ := kills _ hB rfl
      have hsz : (E e).size = 1 ∨ ¬ (E e).size = 1 := Decidable.em _
      rcases hsz with hsz | hsz
      · have hr : (T.by l).row (E e).size = some ⟨l.length, 1, l.map u8⟩ := by simp [T.row, hsz]
        have hok := h.ok _ _ hB
        have hlw : l.length ≤ maxLen := by
          rcases hok with ⟨_, rfl⟩ | ⟨b, cap, cur, e', _, _, _, h1, h2, _⟩
          · exact Nat.zero_le _
          · omega
        exact fin (.by l) _ _ rfl hlw hr (BlkOk.row rfl hok hr) hv (by simp) k1 k2 k3
      · exfalso
        unfold appFin at hv
        cases yT <;> simp [catT, hsz] at hv
    · rename_i sz xs hB
      obtain ⟨k1, k2, k3⟩ := kills _ hB rfl
      have hok := h.ok _ _ hB
      by_cases hsz : sz = (E e).size
      · have hr : (T.sq sz xs).row (E e).size = some ⟨xs.length, sz, T.cellsL xs⟩ := by simp [T.row, hsz]
        exact fin (.sq sz xs) _ _ rfl hok.1 hr (BlkOk.row rfl hok hr) hv (by simp) k1 k2 k3
      · exfalso
        unfold appFin at hv
        split at hv
        · rename_i l hcat; cases yT <;> simp [catT] at hcat
        · rename_i sz' xs' hcat
          have hs : sz' = sz := by cases yT <;> simp [catT] at hcat <;> (first | exact hcat.1.symm | exact hcat.2.1.symm)
          split at hv
          · rename_i hc; exact hsz (by omega)
          · cases hv
        · cases hv
    · cases hv
  · cases hv

end Go.Fw

end
