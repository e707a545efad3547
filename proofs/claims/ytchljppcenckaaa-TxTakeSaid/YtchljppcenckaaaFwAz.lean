/- The abstract machine, and the contracts of the code: part 33. -/
import Derived.Test.YtchljppcenckaaaFwU2

section
/- Append of so many zeros (append(x, make([]T, n)...), as the compiler carries it out). -/
namespace Go.Fw
set_option linter.unusedVariables false
set_option linter.unusedSimpArgs false
open Go

/-- What is appended, as the run sees it. -/
structure Src (P : Program) (E : Env) (t u ty e : TypeId) (b : Value) (w : World) (n : Nat) (news : List Value) : Prop where
  zero : n = 0 → (Builtin.append_ #[t, u] ty #[.slice none 0 0, b]).run P w = .ok (.slice none 0 0) w
  inn : ∀ {g sLen sCap : Nat} {cur : Array Value} {e' : TypeId}, w.heap[g]? = some (.cells cur e' (0, 0)) → (∀ v ∈ news, v.oneCell' = true) → sLen + n ≤ sCap → sLen * (E e).size + news.length ≤ cur.size →
    (Builtin.append_ #[t, u] ty #[.slice (some ⟨g, 0, none⟩) sLen sCap, b]).run P w =
      .ok (.slice (some ⟨g, 0, none⟩) (sLen + n) sCap) (w.setRow g (cur.toList.take (sLen * (E e).size) ++ news ++ cur.toList.drop (sLen * (E e).size + news.length)).toArray)
  new : ∀ {s : Value} {base : Option Addr} {sLen sCap : Nat} {olds : List Value}, s = .slice base sLen sCap → (Builtin.firstCells (E e).size sLen s).run P w.drew = .ok olds.toArray w.drew →
    ¬ sLen + n ≤ sCap → (sLen + n) * (E e).bytes ≤ 140737488355328 → sLen + n ≤ maxLen → 0 < (E e).bytes →
    ∃ cap rest, sLen + n ≤ cap ∧ cap ≤ maxLen ∧ rest.size = (cap - (sLen + n)) * (E e).size ∧ (Builtin.append_ #[t, u] ty #[s, b]).run P w =
      .ok (.slice (some ⟨w.heap.size, 0, none⟩) (sLen + n) cap) (w.drew.alloc (.cells (olds.toArray ++ news.toArray ++ rest) e))

theorem src_zeros {P : Program} {E : Env} {t u ty e : TypeId} {ku : IntKind} (ht : P.underlying t = some (.slice e)) (hu : P.underlying u = some (.int ku)) (he : TyOk P E e) {w : World} {k : IntKind} {n : Int} (h0 : 0 ≤ n) (h1 : n ≤ 549755813888) (hb : (E e).bytes ≤ 256)
    {z : Value} (hz : ∃ i, P.info? e = some i ∧ i.zero = some z) : Src P E t u ty e (.int k n) w n.toNat (zeroRow z (n.toNat * (E e).size)).toList := by
  obtain ⟨i, z', hi, g1, g2, g3, g4, g5, g6⟩ := he.info
  obtain ⟨i', hi', hz'⟩ := hz
  rw [hi] at hi'; cases hi'
  rw [g3] at hz'; cases hz'
  have hzs : z.cells.size = (E e).size := by rw [g4.value_cells.1, g5]
  have wn := wrap_i64 (n := n) (by omega) (by omega)
  have n1 : ¬ n < 0 := by omega
  have n2 : ¬ (281474976710656 : Int) < n * ((E e).bytes : Int) := by
    have h1 : n * ((E e).bytes : Int) ≤ n * 256 := Int.mul_le_mul_of_nonneg_left (by omega) (by omega)
    omega
  have n3 : ¬ n * ((E e).bytes : Int) > 2 ^ 48 := by
    have : (2 : Int) ^ 48 = 281474976710656 := by decide
    rw [this]; omega
  have happ : ∀ w' : World, (if n.toNat * (E e).size = 0 then (pure #[] : Sem (Array Value)) else do pure (Builtin.zeroCells (← zeroValue e).cells n.toNat)).run P w' = .ok (zeroRow z (n.toNat * (E e).size)) w' := by
    intro w'
    split
    · rename_i h
      rw [h]
      simp [zeroRow]
    · simp [zeroValue, typeInfo, hi, g3, Builtin.zeroCells, zeroRow, hzs]
  refine ⟨?_, ?_, ?_⟩
  · intro hn
    have h00 : n.toNat * (E e).size = 0 := by rw [hn, Nat.zero_mul]
    simp only [Builtin.append_, Sem.run_bind, Sem.run_pure, List.getElem?_toArray, List.getElem?_cons_zero, List.getElem?_cons_succ, run_underlying ht, run_underlying hu, he.sizeOf, Result.andThen_ok,
      if_true, asInt, asIntOf, wn, n1, if_false, typeInfo, run_program, hi, g2, Nat.zero_add]
    simp [n1, n2, hn, h00, wn, hi, g2]
  · intro g sLen sCap cur e' hg hone hroom hfit
    have hst := run_storeCells_at P g (sLen * (E e).size) e' (zeroRow z (n.toNat * (E e).size)).toList 0 cur w hg (by simpa using hfit) hone
    simp only [Nat.add_zero] at hst
    have ha := happ w
    simp only [Builtin.append_, Sem.run_bind, Sem.run_pure, List.getElem?_toArray, List.getElem?_cons_zero, List.getElem?_cons_succ, run_underlying ht, run_underlying hu, he.sizeOf, Result.andThen_ok,
      if_true, asInt, asIntOf, wn, n1, if_false, typeInfo, run_program, hi, g2]
    simp only [n3, hroom, Bool.not_true, if_false, if_true, Bool.false_eq_true, Sem.run_bind, Sem.run_pure, Result.andThen_ok, ha, addr_add, Nat.zero_add, hst]
  · intro s base sLen sCap olds hs holds hroom hsz hmx hb0
    have ha := happ w.drew
    subst hs
    simp only [Builtin.append_, Sem.run_bind, Sem.run_pure, List.getElem?_toArray, List.getElem?_cons_zero, List.getElem?_cons_succ, run_underlying ht, run_underlying hu, he.sizeOf, Result.andThen_ok,
      if_true, asInt, asIntOf, wn, n1, if_false, typeInfo, run_program, hi, g2]
    have hfit : ¬ 281474976710656 < Builtin.nextslicecap (sLen + n.toNat) sCap * (E e).bytes := by
      have := growslice_fits (need := sLen + n.toNat) (old := sCap) (by omega) hsz; omega
    have h63 : ¬ (IntKind.i64.max < ((sLen + n.toNat : Nat) : Int)) := by
      unfold maxLen at hmx; simp only [IntKind.max, IntKind.signed, IntKind.bits]; simp; omega
    refine ⟨grownCap w (sLen + n.toNat) sCap e, Builtin.zeroCells z.cells (grownCap w (sLen + n.toNat) sCap e - (sLen + n.toNat)), grownCap_ge _ _ _ _, grownCap_le_maxLen _ _ _ _ hmx, by rw [size_zeroCells, hzs], ?_⟩
    simp only [n3, hroom, Bool.not_true, if_false, if_true, Bool.false_eq_true, Sem.run_bind, Sem.run_pure, Result.andThen_ok]
    have h64 : ¬ (9223372036854775807 < (sLen : Int) + max n 0) := by unfold maxLen at hmx; omega
    by_cases h00 : n.toNat * (E e).size = 0
    · simp [typeInfo, hi, g2, hfit, h64, Question.forced, holds, zeroValue, g3, newRow, grownCap, h00, zeroRow, -Nat.not_le]
    · simp [typeInfo, hi, g2, hfit, h64, Question.forced, holds, zeroValue, g3, newRow, grownCap, h00, -Nat.not_le]
      have : Builtin.zeroCells z.cells n.toNat = zeroRow z (n.toNat * (E e).size) := by simp [Builtin.zeroCells, zeroRow, hzs]
      rw [this]

/-- The append itself: from a row of the call's own (or nil), to a row of the call's own. -/
theorem appendz_core {P : Program} {E : Env} (hE : EnvOk P E) {c : Ctx} {m : Mem} {w : World} {H H1 : List Blk} (h : Inv c m w H) {t u ty e : TypeId} (ht : P.underlying t = some (.slice e))
    {xT yT z : T} {s b : Value} {r1 : Row} (hs : RowOk m w r1 s) (hxw : xT.wf) (hr1 : xT.row (E e).size = some r1)
    {news : List Value} {r2 : Row} (hy2 : yT.row (E e).size = some r2) (hsrc : Src P E t u ty e b w r2.n news) (hnl : news.length = r2.n * (E e).size) (hone : ∀ v ∈ news, v.oneCell' = true) (hrel : ∀ (j : Nat) (c : T), r2.cs[j]? = some c → ∃ v, news[j]? = some v ∧ RelT m.M c v) (hcat : catT xT yT = some z) {r : Row} (hr : z.row (E e).size = some r) (he : TyOk P E e)
    (hn : r.n ≤ 1099511627776) (hb : r.n * (E e).bytes ≤ 140737488355328) (hb0 : 0 < (E e).bytes)
    (hlen : H1.length = H.length) (hH1 : ∀ (k : Nat) (B : Blk), H1[k]? = some B → B.live = true → H[k]? = some B ∧ ∀ b, blk (m.η k) = some b → blk s ≠ some b)
    (hfz : ∀ (k : Nat) (B : Blk), H1[k]? = some B → B.live = false → H[k]? = some B ∨ B = .no)
    (hD : ∀ b, blk s = some b → m.M b = none ∧ (c.w0.heap.size ≤ b ∨ c.O b)) (hyw : yT.wf) :
    ∃ m' w' val, Ext m m' ∧ Inv c m' w' (H1 ++ [toBlk z]) ∧ RelA m' (.own H1.length) val ∧ (Builtin.append_ #[t, u] ty #[s, b]).run P w = .ok val w' := by
  have hn' : r.n ≤ maxLen := by unfold maxLen; omega
  obtain ⟨z1, z2, r1', r2', q1, q2, q3, q4, q5⟩ := catT_row hcat hxw hyw hr hn'
  rw [hr1] at q1; cases q1
  rw [hy2] at q2; cases q2
  obtain ⟨e1, e2⟩ := T.row_len hr1 hxw
  have hsz := he.info
  obtain ⟨_, _, _, _, _, _, _, _, hpos⟩ := hsz
  have own : ∀ hd, RelA (m.push hd) (.own H1.length) hd := fun hd => by rw [hlen]; exact push_own h.len hd
  rcases hs with ⟨rfl, h0, hcs⟩ | ⟨g, cap, cur, e', rfl, hh, hcs, hcap, hmx, hM, hcells⟩
  · -- nil
    by_cases hm0 : r2.n = 0
    · refine ⟨m.push (.slice none 0 0), w, .slice none 0 0, Ext.push m _, ?_, own _, ?_⟩
      · refine h.put (fun _ => False) rfl rfl rfl (Nat.le_refl _) (fun _ _ _ => rfl) hlen (fun k B hk hl => ⟨(hH1 k B hk hl).1, fun _ _ h => h⟩) hfz (fun _ h => h.elim) ?_ (fun b _ hb => by cases hb)
        refine RowOk.blk hr z1 z2 (.inl ⟨rfl, by omega, ?_⟩)
        rw [q4, hcs, List.nil_append]
        exact List.eq_nil_of_length_eq_zero (by rw [(T.row_len hy2 hyw).2, hm0, Nat.zero_mul])
      · exact hsrc.zero hm0
    · obtain ⟨cap, rest, g1, g2, g3, g4⟩ := hsrc.new (olds := []) (s := .slice none 0 0) rfl (by simp [Builtin.firstCells]) (by omega)
        (by rw [← h0, ← q3] at *; simpa [h0] using hb) (by omega) hb0
      refine ⟨m.push (.slice (some ⟨w.heap.size, 0, none⟩) (0 + r2.n) cap), _, _, Ext.push m _, ?_, own _, g4⟩
      refine h.put (w' := w.drew.alloc _) (fun _ => False) rfl rfl rfl (by simp) (fun b hb _ => heap_alloc_old w.drew _ hb) hlen (fun k B hk hl => ⟨(hH1 k B hk hl).1, fun _ _ h => h⟩) hfz (fun _ h => h.elim) ?_
        (fun b _ hb => by cases hb; exact .inl (Nat.le_refl _))
      refine RowOk.blk hr z1 z2 (.inr ⟨w.heap.size, cap, _, e, by rw [q3, h0], heap_alloc_new w.drew _, ?_, by omega, g2, M_fresh h (Nat.le_refl _), ?_⟩)
      · simp only [Array.size_append, List.size_toArray, List.length_nil, hnl, g3, q5, Nat.zero_add]
        rw [← Nat.add_mul]; congr 1; omega
      · intro j c hj
        rw [q4, hcs, List.nil_append] at hj
        obtain ⟨v, hv, hr⟩ := hrel j c hj
        have hlt := (List.getElem?_eq_some_iff.1 hv).1
        refine ⟨v, ?_, hr⟩
        rw [Array.getElem?_append_left (by simpa using hlt)]
        simpa using hv
  · have hcl : ∀ j c, r1.cs[j]? = some c → j < r1.n * (E e).size := fun j c hj => by rw [← e2]; exact (List.getElem?_eq_some_iff.1 hj).1
    rw [e1] at hcs
    by_cases hroom : r1.n + r2.n ≤ cap
    · have hfit : r1.n * (E e).size + news.length ≤ cur.size := by rw [hnl, hcs, ← Nat.add_mul]; exact Nat.mul_le_mul_right _ hroom
      have hrun := hsrc.inn hh hone hroom hfit
      refine ⟨m.push (.slice (some ⟨g, 0, none⟩) (r1.n + r2.n) cap), _, _, Ext.push m _, ?_, own _, hrun⟩
      refine h.put (w' := w.setRow g _) (fun b => b = g) rfl rfl rfl (by simp [World.setRow]) (fun b hb hne => setRow_other w g b _ hne) hlen
        (fun k B hk hl => ⟨(hH1 k B hk hl).1, fun b hb he => (hH1 k B hk hl).2 b hb (by rw [he]; rfl)⟩) hfz (fun b hb => by subst hb; exact hD _ rfl) ?_ (fun b _ hb => by cases hb; exact .inr rfl)
      have hsz' : (cur.toList.take (r1.n * (E e).size) ++ news ++ cur.toList.drop (r1.n * (E e).size + news.length)).length = cur.size := by
        simp; omega
      refine RowOk.blk hr z1 z2 (.inr ⟨g, cap, _, e', by rw [q3], setRow_heap w g cur _ e' _ hh, ?_, by omega, hmx, hM, ?_⟩)
      · rw [List.size_toArray, hsz', q5, hcs]
      · intro j c hj
        rw [q4] at hj
        rcases Nat.lt_or_ge j r1.cs.length with hlt | hge
        · rw [List.getElem?_append_left hlt] at hj
          obtain ⟨v, hv, hr⟩ := hcells j c hj
          rw [e2] at hlt
          have hjc := (Array.getElem?_eq_some_iff.1 hv).1
          refine ⟨v, ?_, hr⟩
          simp only [List.getElem?_toArray, List.append_assoc]
          rw [List.getElem?_append_left (by simp; omega), List.getElem?_take, if_pos hlt]
          simpa using hv
        · rw [List.getElem?_append_right hge, e2] at hj
          rw [e2] at hge
          obtain ⟨v, hv, hr⟩ := hrel _ c hj
          have hlt := (List.getElem?_eq_some_iff.1 hv).1
          refine ⟨v, ?_, hr⟩
          have htl : (cur.toList.take (r1.n * (E e).size)).length = r1.n * (E e).size := by simp; omega
          simp only [List.getElem?_toArray, List.append_assoc]
          rw [List.getElem?_append_right (by omega), htl, List.getElem?_append_left hlt]
          exact hv
    · have holds : ∃ olds : List Value, olds.length = r1.n * (E e).size ∧ (Builtin.firstCells (E e).size r1.n (.slice (some ⟨g, 0, none⟩) r1.n cap)).run P w.drew = .ok olds.toArray w.drew ∧ ∀ j, j < r1.n * (E e).size → olds[j]? = cur[j]? := by
        have hle : r1.n * (E e).size ≤ cur.size := by rw [hcs]; exact Nat.mul_le_mul_right _ hcap
        refine ⟨cur.toList.take (r1.n * (E e).size), by simp; omega, ?_, fun j hj => by simp [hj]⟩
        simp only [Builtin.firstCells]
        have := run_loadCells_list (P := P) w.drew ⟨g, 0, none⟩ (cur.toList.take (r1.n * (E e).size)) (by
          intro j v hj
          rw [addr_add, cell_at (show w.drew.heap[g]? = _ from hh)]
          have hlt := (List.getElem?_eq_some_iff.1 hj).1
          rw [List.length_take] at hlt
          rw [List.getElem?_take, if_pos (by omega)] at hj
          simpa using hj)
        rw [show (cur.toList.take (r1.n * (E e).size)).length = r1.n * (E e).size by simp; omega] at this
        exact this
      obtain ⟨olds, hol, holds, hoget⟩ := holds
      obtain ⟨cap', rest, g1, g2, g3, g4⟩ := hsrc.new (olds := olds) rfl holds hroom (by rw [← q3]; exact hb) (by omega) hb0
      refine ⟨m.push (.slice (some ⟨w.heap.size, 0, none⟩) (r1.n + r2.n) cap'), _, _, Ext.push m _, ?_, own _, g4⟩
      refine h.put (w' := w.drew.alloc _) (fun _ => False) rfl rfl rfl (by simp) (fun b hb _ => heap_alloc_old w.drew _ hb) hlen (fun k B hk hl => ⟨(hH1 k B hk hl).1, fun _ _ h => h⟩) hfz (fun _ h => h.elim) ?_
        (fun b _ hb => by cases hb; exact .inl (Nat.le_refl _))
      refine RowOk.blk hr z1 z2 (.inr ⟨w.heap.size, cap', _, e, by rw [q3], heap_alloc_new w.drew _, ?_, by omega, g2, M_fresh h (Nat.le_refl _), ?_⟩)
      · simp only [Array.size_append, List.size_toArray, hol, hnl, g3, q5]
        rw [← Nat.add_mul, ← Nat.add_mul]; congr 1; omega
      · intro j c hj
        rw [q4] at hj
        rcases Nat.lt_or_ge j r1.cs.length with hlt | hge
        · rw [List.getElem?_append_left hlt] at hj
          obtain ⟨v, hv, hr⟩ := hcells j c hj
          rw [e2] at hlt
          refine ⟨v, ?_, hr⟩
          rw [Array.getElem?_append_left (by simp [hol]; omega), Array.getElem?_append_left (by simpa [hol] using hlt)]
          simp only [List.getElem?_toArray]
          rw [hoget j hlt]; exact hv
        · rw [List.getElem?_append_right hge, e2] at hj
          rw [e2] at hge
          obtain ⟨v, hv, hr⟩ := hrel _ c hj
          have hlt := (List.getElem?_eq_some_iff.1 hv).1
          refine ⟨v, ?_, hr⟩
          rw [Array.getElem?_append_left (by simp [hol]; omega), Array.getElem?_append_right (by simpa [hol] using hge)]
          simp only [List.size_toArray, hol, List.getElem?_toArray]
          exact hv


/-- Zeros, as a row. -/
def zT (E : Env) (e : TypeId) (n : Nat) : T := if (E e).ty = .int .u8 then .by (List.replicate n 0) else .sq (E e).size (List.replicate n (E e).zero)

def aAppendZ (E : Env) (H : List Blk) (t u : TypeId) (x y : AV) : Option (AV × List Blk) :=
  match (E t).ty, (E u).ty, y with
  | .sl e, .int _, .t (.int _ n) => if (0 ≤ n ∧ n ≤ 549755813888) ∧ 0 < (E e).size then (match x with
      | .t .nil => appFin E e (catT .nil (zT E e n.toNat)) H
      | .own i => match H[i]? with
        | some (.by l) => appFin E e (catT (.by l) (zT E e n.toNat)) (H.set i .no)
        | some (.sq sz xs) => appFin E e (catT (.sq sz xs) (zT E e n.toNat)) (H.set i .no)
        | _ => none
      | _ => none) else none
  | _, _, _ => none

theorem zT_row {P : Program} {E : Env} {e : TypeId} (he : TyOk P E e) (hu : (E e).ty = .int .u8 → (E e).size = 1 ∧ (E e).zero = .int .u8 0) {n : Nat} (hn : n ≤ maxLen) {z : Value} (hz : ∃ i, P.info? e = some i ∧ i.zero = some z) (M : Nat → Option Obj) :
    (zT E e n).wf ∧ ∃ r2, (zT E e n).row (E e).size = some r2 ∧ r2.n = n ∧ (zeroRow z (n * (E e).size)).toList.length = r2.n * (E e).size ∧ (∀ v ∈ (zeroRow z (n * (E e).size)).toList, v.oneCell' = true) ∧
      ∀ (j : Nat) (c : T), r2.cs[j]? = some c → ∃ v, (zeroRow z (n * (E e).size)).toList[j]? = some v ∧ RelT M c v := by
  obtain ⟨i, z', hi, h1, h2, h3, h4, h5, h6⟩ := he.info
  obtain ⟨i', hi', hz'⟩ := hz
  rw [hi] at hi'; cases hi'
  rw [h3] at hz'; cases hz'
  obtain ⟨v1, v2⟩ := h4.value_cells
  have hsz : z.cells.size = (E e).size := by rw [v1, h5]
  have hcl := T.cells_len _ h4.wf
  have hone : ∀ v ∈ (zeroRow z (n * (E e).size)).toList, v.oneCell' = true := by
    intro v hv
    simp only [zeroRow, Array.toList_map, Array.toList_range, List.mem_map, List.mem_range, hsz] at hv
    obtain ⟨j, hj, rfl⟩ := hv
    have hlt : j % (E e).size < (E e).zero.cells.length := by rw [hcl, h5]; exact Nat.mod_lt _ h6
    obtain ⟨u, hu1, hu2⟩ := v2 (j % (E e).size) _ (List.getElem?_eq_getElem hlt)
    rw [getElem!_def, hu1]
    have : T.cells (E e).zero = T.cellsL [(E e).zero] := by simp [T.cellsL]
    exact hu2.oneCell (T.cellsL_flat [(E e).zero] _ (by rw [← this]; exact List.getElem_mem hlt))
  unfold zT
  split
  · rename_i ht
    obtain ⟨hs, hz0⟩ := hu ht
    refine ⟨by simpa [T.wf] using hn, ⟨n, 1, (List.replicate n 0).map u8⟩, by simp [T.row, hs], rfl, by simp [zeroRow], hone, fun j c hj => ?_⟩
    simp only [List.map_replicate] at hj
    have hlt := (List.getElem?_eq_some_iff.1 hj).1
    simp at hlt
    have hc : c = u8 0 := by rw [List.getElem?_replicate, if_pos hlt] at hj; exact (Option.some.inj hj).symm
    subst hc
    obtain ⟨u, hu1, hu2⟩ := v2 0 (.int .u8 0) (by rw [hz0]; rfl)
    have hjc : j < n * (E e).size := by rw [hs]; omega
    refine ⟨u, ?_, hu2.mono (noM_le _)⟩
    have hs1 : z.cells.size = 1 := by rw [hsz, hs]
    simp only [zeroRow, Array.toList_map, Array.toList_range, List.getElem?_map, List.getElem?_range hjc, Option.map_some, hs1, Nat.mod_one]
    rw [getElem!_def, hu1]
  · refine ⟨?_, ⟨n, (E e).size, T.cellsL (List.replicate n (E e).zero)⟩, by simp [T.row], rfl, by simp [zeroRow], hone, fun j c hj => ?_⟩
    · simp only [T.wf, List.length_replicate]
      exact ⟨h6, hn, fun x hx => by rw [List.eq_of_mem_replicate hx, h5], wfL_replicate h4.wf _⟩
    · obtain ⟨g1, g2⟩ := cellsL_replicate _ _ h4.wf j c hj
      obtain ⟨u, hu1, hu2⟩ := v2 _ c g1
      rw [h5] at g1 g2 hu1
      refine ⟨u, ?_, hu2.mono (noM_le _)⟩
      simp only [zeroRow, Array.toList_map, Array.toList_range, List.getElem?_map, List.getElem?_range g2, Option.map_some, hsz]
      rw [getElem!_def, hu1]

theorem aAppendZ_ok {P : Program} {E : Env} (hE : EnvOk P E) (hBy : ByteOk E) {c : Ctx} {m : Mem} {w : World} {H : List Blk} (h : Inv c m w H) {t u ty : TypeId} {x y v : AV} {a b : Value} {H' : List Blk}
    (hx : RelA m x a) (hy : RelA m y b) (hv : aAppendZ E H t u x y = some (v, H')) :
    ∃ m' w' val, Ext m m' ∧ Inv c m' w' H' ∧ RelA m' v val ∧ (Builtin.append_ #[t, u] ty #[a, b]).run P w = .ok val w' := by
  unfold aAppendZ at hv
  split at hv
  case h_2 => cases hv
  rename_i e ku k n ht hut
  have d := (hE.ty ht (by simp)).1
  simp only [DescOk] at d
  have du := (hE.ty hut (by simp)).1
  simp only [DescOk] at du
  split at hv
  case isFalse => cases hv
  rename_i hn
  obtain ⟨hn, hpos⟩ := hn
  obtain ⟨rfl, _⟩ := hy.int_inv
  -- the end, in common
  have fin : ∀ (xT : T) (H1 : List Blk) (r1 : Row), xT.wf → (∀ l, catT xT (zT E e n.toNat) = some (.by l) → (E e).size = 1 → xT.row (E e).size = some r1) → (∀ sz xs, catT xT (zT E e n.toNat) = some (.sq sz xs) → (E e).size = sz → xT.row (E e).size = some r1) → RowOk m w r1 a → appFin E e (catT xT (zT E e n.toNat)) H1 = some (v, H') → H1.length = H.length →
      (∀ (k : Nat) (B : Blk), H1[k]? = some B → B.live = true → H[k]? = some B ∧ ∀ b, blk (m.η k) = some b → blk a ≠ some b) →
      (∀ (k : Nat) (B : Blk), H1[k]? = some B → B.live = false → H[k]? = some B ∨ B = .no) → (∀ b, blk a = some b → m.M b = none ∧ (c.w0.heap.size ≤ b ∨ c.O b)) →
      ∃ m' w' val, Ext m m' ∧ Inv c m' w' H' ∧ RelA m' v val ∧ (Builtin.append_ #[t, u] ty #[a, .int k n]).run P w = .ok val w' := by
    intro xT H1 r1 hw hr1 hr1' hs hf hlen hH1 hfz hD
    have main : ∀ (he : TyOk P E e) (hb : (E e).bytes ≤ 256), ∃ z, (zT E e n.toNat).wf ∧ ∃ r2, (zT E e n.toNat).row (E e).size = some r2 ∧ Src P E t u ty e (.int k n) w r2.n (zeroRow z (n.toNat * (E e).size)).toList ∧ (zeroRow z (n.toNat * (E e).size)).toList.length = r2.n * (E e).size ∧ (∀ v ∈ (zeroRow z (n.toNat * (E e).size)).toList, v.oneCell' = true) ∧
        ∀ (j : Nat) (c : T), r2.cs[j]? = some c → ∃ v, (zeroRow z (n.toNat * (E e).size)).toList[j]? = some v ∧ RelT m.M c v := by
      intro he hb
      obtain ⟨i, z, hi, h1, h2, h3, h4, h5, h6⟩ := id he.info
      obtain ⟨z1, r2, z2, z3, z4, z5, z6⟩ := zT_row he (fun hu => ⟨(hBy e hu).1, (hBy e hu).2.1⟩) (n := n.toNat) (by unfold maxLen; omega) ⟨i, hi, h3⟩ m.M
      refine ⟨z, z1, r2, z2, ?_, z4, z5, z6⟩
      rw [z3]
      exact src_zeros d du he hn.1 hn.2 hb ⟨i, hi, h3⟩
    unfold appFin at hf
    split at hf
    · rename_i l hcat
      split at hf
      · rename_i hc
        obtain ⟨c1, cb, c4, cl⟩ := hc
        have c2 : l.length ≤ 1099511627776 := by omega
        have c3 : l.length * (E e).bytes ≤ 140737488355328 := Nat.le_trans (Nat.mul_le_mul cl cb) (by decide)
        cases hf
        have hr : (T.by l).row (E e).size = some ⟨l.length, 1, l.map u8⟩ := by simp [T.row, c1]
        have he := hE.size (t := e) rfl (by omega)
        obtain ⟨z, z1, r2, z2, z3, z4, z5, z6⟩ := main he cb
        exact appendz_core hE h d hs hw (hr1 l hcat c1) z2 z3 z4 z5 z6 hcat hr he c2 c3 c4 hlen hH1 hfz hD z1
      · cases hf
    · rename_i sz xs hcat
      split at hf
      · rename_i hc
        obtain ⟨c1, cb, c4, cl⟩ := hc
        have c2 : xs.length ≤ 1099511627776 := by omega
        have c3 : xs.length * (E e).bytes ≤ 140737488355328 := Nat.le_trans (Nat.mul_le_mul cl cb) (by decide)
        cases hf
        have hr : (T.sq sz xs).row (E e).size = some ⟨xs.length, sz, T.cellsL xs⟩ := by simp [T.row, c1]
        have he := hE.size (t := e) rfl hpos
        obtain ⟨z, z1, r2, z2, z3, z4, z5, z6⟩ := main he cb
        exact appendz_core hE h d hs hw (hr1' sz xs hcat c1) z2 z3 z4 z5 z6 hcat hr he c2 c3 c4 hlen hH1 hfz hD z1
      · cases hf
    · cases hf
  split at hv
  · cases hx.t_inv
    exact fin .nil H ⟨0, (E e).size, []⟩ (by simp [T.wf]) (fun _ _ _ => rfl) (fun _ _ _ _ => rfl) (.inl ⟨rfl, rfl, rfl⟩) hv rfl (fun k B hk hl => ⟨hk, fun b hb h => by cases h⟩) (fun k B hk _ => .inl hk) (fun b hb => by cases hb)
  · rename_i i
    obtain ⟨rfl, hin⟩ := hx.own_inv
    have kills : ∀ (B0 : Blk), H[i]? = some B0 → B0.live = true →
        (∀ (k : Nat) (B : Blk), (H.set i .no)[k]? = some B → B.live = true → H[k]? = some B ∧ ∀ b, blk (m.η k) = some b → blk (m.η i) ≠ some b) ∧
        (∀ (k : Nat) (B : Blk), (H.set i .no)[k]? = some B → B.live = false → H[k]? = some B ∨ B = .no) ∧ (∀ b, blk (m.η i) = some b → m.M b = none ∧ (c.w0.heap.size ≤ b ∨ c.O b)) := by
      intro B0 hB0 hl0
      refine ⟨fun k B hk hl => ?_, fun k B hk hl => ?_, fun b hb => ⟨((h.ok i B0 hB0).at hl0 hb).1, h.own i B0 b hB0 hl0 hb⟩⟩
      · rw [List.getElem?_set] at hk
        split at hk
        · split at hk
          · cases hk; simp [Blk.live] at hl
          · cases hk
        · rename_i hne
          exact ⟨hk, fun b hb hi => hne (h.disj i k B0 B b hB0 hk hl0 hl hi hb)⟩
      · rw [List.getElem?_set] at hk
        split at hk
        · split at hk
          · cases hk; exact .inr rfl
          · cases hk
        · exact .inl hk
    split at hv
    · rename_i l hB
      obtain ⟨k1, k2, k3⟩ := kills _ hB rfl
      have hok := h.ok _ _ hB
      have hlw : l.length ≤ maxLen := by
        rcases hok with ⟨_, rfl⟩ | ⟨b, cap, cur, e', _, _, _, h1, h2, _⟩
        · exact Nat.zero_le _
        · omega
      by_cases hsz : (E e).size = 1
      · have hr : (T.by l).row (E e).size = some ⟨l.length, 1, l.map u8⟩ := by simp [T.row, hsz]
        exact fin (.by l) _ _ hlw (fun _ _ _ => hr) (fun _ _ _ _ => hr) (BlkOk.row rfl hok hr) hv (by simp) k1 k2 k3
      · exfalso
        unfold zT at hv
        split at hv
        · rename_i h8; exact hsz (hBy e h8).1
        · simp [catT, appFin] at hv
    · rename_i sz xs hB
      obtain ⟨k1, k2, k3⟩ := kills _ hB rfl
      have hok := h.ok _ _ hB
      by_cases hsz : sz = (E e).size
      · have hr : (T.sq sz xs).row (E e).size = some ⟨xs.length, sz, T.cellsL xs⟩ := by simp [T.row, hsz]
        exact fin (.sq sz xs) _ _ hok.1 (fun _ _ _ => hr) (fun _ _ _ _ => hr) (BlkOk.row rfl hok hr) hv (by simp) k1 k2 k3
      · exfalso
        unfold appFin zT at hv
        split at hv
        · rename_i l hcat; split at hcat <;> simp [catT] at hcat
        · rename_i sz' xs' hcat
          split at hcat
          · simp [catT] at hcat
          · simp [catT, hsz] at hcat
        · cases hv
    · cases hv
  · cases hv

end Go.Fw

end
