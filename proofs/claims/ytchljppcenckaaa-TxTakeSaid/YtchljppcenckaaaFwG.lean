/- The abstract machine, and the contracts of the code: part 8. -/
import Derived.Test.YtchljppcenckaaaFwF

section
/- Append and copy, by what they make of rows. -/
namespace Go.Fw
set_option linter.unusedVariables false
set_option linter.unusedSimpArgs false
open Go

mutual
theorem T.cells_flat : ∀ (x : T), ∀ c ∈ x.cells, c.isAgg = false
  | .ba n l, c, h => by simp [T.cells] at h; obtain ⟨d, _, rfl⟩ := h; rfl
  | .ar n sz xs, c, h => T.cellsL_flat xs c (by simpa only [T.cells] using h)
  | .st xs, c, h => T.cellsL_flat xs c (by simpa only [T.cells] using h)
  | .int k n, c, h => by simp [T.cells] at h; subst h; rfl
  | .bool b, c, h => by simp [T.cells] at h; subst h; rfl
  | .str l, c, h => by simp [T.cells] at h; subst h; rfl
  | .nilp, c, h => by simp [T.cells] at h; subst h; rfl
  | .nilf, c, h => by simp [T.cells] at h; subst h; rfl
  | .nil, c, h => by simp [T.cells] at h; subst h; rfl
  | .fn f, c, h => by simp [T.cells] at h; subst h; rfl
  | .op v, c, h => by simp [T.cells] at h; subst h; rfl
  | .by l, c, h => by simp [T.cells] at h; subst h; rfl
  | .sq sz xs, c, h => by simp [T.cells] at h; subst h; rfl
theorem T.cellsL_flat : ∀ (xs : List T), ∀ c ∈ T.cellsL xs, c.isAgg = false
  | [], c, h => by simp [T.cellsL] at h
  | x :: xs, c, h => by
    simp only [T.cellsL, List.mem_append] at h
    rcases h with h | h
    · exact T.cells_flat x c h
    · exact T.cellsL_flat xs c h
end

theorem RelT.oneCell {M : Nat → Option Obj} {c : T} {u : Value} (h : RelT M c u) (hc : c.isAgg = false) : u.oneCell' = true := by
  cases h <;> first | rfl | assumption | simp [T.isAgg] at hc

/-- The elements of a row: how many, each how long, and its cells. -/
structure Row where
  n : Nat
  sz : Nat
  cs : List T

def T.row (e : Nat) : T → Option Row
  | .nil => some ⟨0, e, []⟩
  | .by l => if e = 1 then some ⟨l.length, 1, l.map u8⟩ else none
  | .sq sz xs => if sz = e then some ⟨xs.length, sz, T.cellsL xs⟩ else none
  | .str l => if e = 1 then some ⟨l.length, 1, l.map u8⟩ else none
  | _ => none

/-- The cells of a slice (or string) as the model reads them. -/
theorem firstCells_none {P : Program} (w : World) (a : Option Addr) (k : Nat) : (Builtin.firstCells k 0 (.slice a 0 0)).run P w = .ok #[] w := by
  cases a with
  | none => simp [Builtin.firstCells]
  | some a =>
    have := run_loadCells_list (P := P) w a [] (by simp)
    simpa [Builtin.firstCells] using this

theorem RelR.firstCells {P : Program} {M : Nat → Option Obj} {w w' : World} {x : T} {u : Value} (h : RelR w M x u) (hw : w'.heap = w.heap) {e : Nat} {r : Row} (hr : x.row e = some r) :
    r.sz = e ∧ r.n ≤ maxLen ∧ ∃ news : List Value, news.length = r.n * e ∧ (Builtin.lenOf u).run P w' = .ok r.n w' ∧ (Builtin.firstCells e r.n u).run P w' = .ok news.toArray w' ∧
      (∀ v ∈ news, v.oneCell' = true) ∧ ∀ (j : Nat) (c : T), r.cs[j]? = some c → ∃ v, news[j]? = some v ∧ RelT M c v := by
  cases x with
  | nil =>
    cases hr; cases h
    exact ⟨rfl, Nat.zero_le _, [], by simp, by simp [Builtin.lenOf], by simp [Builtin.firstCells], by simp, by simp⟩
  | «by» l =>
    simp only [T.row] at hr
    split at hr
    · rename_i he
      subst he
      cases hr
      have hwf : l.length ≤ maxLen := by cases h <;> first | exact Nat.zero_le _ | omega
      refine ⟨rfl, hwf, l.map vu8, by simp, ?_, ?_, by simp [vu8, Value.oneCell'], ?_⟩
      · cases h <;> simp [Builtin.lenOf]
      · cases h with
        | byn => exact firstCells_none w' _ 1
        | «by» hM hl hm hc =>
          rename_i b off cap cur ty fr
          have hM' : w'.heap[b]? = some (.cells cur ty fr) := by rw [hw]; exact hM
          simp only [Builtin.firstCells, Nat.mul_one]
          rw [show l.length = (l.map vu8).length by simp]
          refine run_loadCells_list w' _ _ fun j v hj => ?_
          simp only [List.getElem?_map, Option.map_eq_some_iff] at hj
          obtain ⟨c, hc', rfl⟩ := hj
          rw [addr_add, cell_at hM']
          exact hc j c hc'
      · intro j c hj
        simp only [List.getElem?_map, Option.map_eq_some_iff] at hj ⊢
        obtain ⟨d, hd, rfl⟩ := hj
        exact ⟨_, ⟨d, hd, rfl⟩, RelT_u8 d⟩
    · cases hr
  | str l =>
    simp only [T.row] at hr
    split at hr
    · rename_i he
      subst he
      cases hr
      cases h with
      | str hm =>
      have hsz : (⟨l.toArray⟩ : ByteArray).size = l.length := rfl
      refine ⟨rfl, hm, l.map vu8, by simp, by simp [Builtin.lenOf, hsz], ?_, by simp [vu8, Value.oneCell'], ?_⟩
      · simp [Builtin.firstCells, ByteArray.extract_mk]
        intro a _; rfl
      · intro j c hj
        simp only [List.getElem?_map, Option.map_eq_some_iff] at hj ⊢
        obtain ⟨d, hd, rfl⟩ := hj
        exact ⟨_, ⟨d, hd, rfl⟩, RelT_u8 d⟩
    · cases hr
  | sq sz xs =>
    simp only [T.row] at hr
    split at hr
    · rename_i he
      subst he
      cases hr
      cases h with
      | sqn => exact ⟨rfl, Nat.zero_le _, [], by simp, by simp [Builtin.lenOf], firstCells_none w' _ _, by simp, by simp [T.cellsL]⟩
      | sq hM hwf hl hm hr =>
        rename_i b off cap cur ty fr
        obtain ⟨hw1, hw2, hw3, hw4⟩ := (by simpa only [T.wf] using hwf : 0 < sz ∧ xs.length ≤ maxLen ∧ (∀ x ∈ xs, x.size = sz) ∧ T.wfL xs)
        have hlen : (T.cellsL xs).length = xs.length * sz := by rw [T.cellsL_len xs hw4, T.sizeL_const xs sz hw3]
        have hM' : w'.heap[b]? = some (.cells cur ty fr) := by rw [hw]; exact hM
        have hnl : ((List.range (xs.length * sz)).map fun j => cur.getD (off + j) undef).length = xs.length * sz := by simp
        have hget : ∀ j v, ((List.range (xs.length * sz)).map fun j => cur.getD (off + j) undef)[j]? = some v → ∃ c, (T.cellsL xs)[j]? = some c ∧ cur[off + j]? = some v ∧ RelT M c v := by
          intro j v hj
          have hlt := (List.getElem?_eq_some_iff.1 hj).1
          rw [hnl] at hlt
          have h1 : (T.cellsL xs)[j]? = some ((T.cellsL xs)[j]'(by omega)) := List.getElem?_eq_getElem _
          obtain ⟨u, hu, hu2⟩ := hr j _ h1
          simp [hlt, hu] at hj
          subst hj
          exact ⟨_, h1, hu, hu2⟩
        refine ⟨rfl, hw2, _, hnl, by simp [Builtin.lenOf], ?_, ?_, ?_⟩
        · simp only [Builtin.firstCells]
          have := run_loadCells_list (P := P) w' ⟨b, off, none⟩ ((List.range (xs.length * sz)).map fun j => cur.getD (off + j) undef) (by
            intro j v hj
            obtain ⟨c, _, h2, _⟩ := hget j v hj
            rw [addr_add, cell_at hM']
            exact h2)
          rw [hnl] at this
          exact this
        · intro v hv
          obtain ⟨j, hj⟩ := List.getElem?_of_mem hv
          obtain ⟨c, h1, _, h3⟩ := hget j v hj
          exact h3.oneCell (T.cellsL_flat _ _ (List.mem_of_getElem? h1))
        · intro j c hj
          have hlt : j < (T.cellsL xs).length := (List.getElem?_eq_some_iff.1 hj).1
          rw [hlen] at hlt
          obtain ⟨u, hu, hu2⟩ := hr j c hj
          exact ⟨u, by simp [hlt, hu], hu2⟩
    · cases hr
  | _ => simp [T.row] at hr

section
variable {P : Program}

theorem run_append_in {E : Env} {t u ty e : TypeId} (ht : P.underlying t = some (.slice e)) (hu : ∃ d, P.underlying u = some d ∧ ∀ k, d ≠ .int k) (he : TyOk P E e) {w : World}
    {g sLen sCap m : Nat} {cur : Array Value} {e' : TypeId} (hg : w.heap[g]? = some (.cells cur e' (0, 0))) {x : Value} {news : List Value}
    (hlen : (Builtin.lenOf x).run P w = .ok m w) (hnews : (Builtin.firstCells (E e).size m x).run P w = .ok news.toArray w) (h1 : ∀ v ∈ news, v.oneCell' = true)
    (hroom : sLen + m ≤ sCap) (hfit : sLen * (E e).size + news.length ≤ cur.size) :
    (Builtin.append_ #[t, u] ty #[.slice (some ⟨g, 0, none⟩) sLen sCap, x]).run P w =
      .ok (.slice (some ⟨g, 0, none⟩) (sLen + m) sCap) (w.setRow g (cur.toList.take (sLen * (E e).size) ++ news ++ cur.toList.drop (sLen * (E e).size + news.length)).toArray) := by
  obtain ⟨d, hd, hk⟩ := hu
  have hst := run_storeCells_at P g (sLen * (E e).size) e' news 0 cur w hg (by simpa using hfit) h1
  simp only [Nat.add_zero] at hst
  have hz : (match d with | .int _ => true | _ => false) = false := by
    cases d <;> first | rfl | exact (hk _ rfl).elim
  simp only [Builtin.append_, Sem.run_bind, Sem.run_pure, List.getElem?_toArray, List.getElem?_cons_zero, List.getElem?_cons_succ, run_underlying ht, run_underlying hd, he.sizeOf, Result.andThen_ok, hz,
    Bool.false_eq_true, if_false, hlen, hroom, if_true, Bool.not_false, hnews, addr_add, Nat.zero_add]
  simp [hst]

theorem run_append_new {E : Env} {t u ty e : TypeId} (ht : P.underlying t = some (.slice e)) (hu : ∃ d, P.underlying u = some d ∧ ∀ k, d ≠ .int k) (he : TyOk P E e) {w : World}
    {s : Value} {base : Option Addr} {sLen sCap m : Nat} (hs : s = .slice base sLen sCap) {x : Value} {olds news : List Value}
    (hlen : (Builtin.lenOf x).run P w = .ok m w) (holds : (Builtin.firstCells (E e).size sLen s).run P w.drew = .ok olds.toArray w.drew)
    (hnews : (Builtin.firstCells (E e).size m x).run P w.drew = .ok news.toArray w.drew)
    (hroom : ¬ sLen + m ≤ sCap) (hsz : (sLen + m) * (E e).bytes ≤ 140737488355328) (hmx : sLen + m ≤ maxLen) (hb : 0 < (E e).bytes) :
    ∃ cap rest, sLen + m ≤ cap ∧ cap ≤ maxLen ∧ rest.size = (cap - (sLen + m)) * (E e).size ∧ (Builtin.append_ #[t, u] ty #[s, x]).run P w =
      .ok (.slice (some ⟨w.heap.size, 0, none⟩) (sLen + m) cap) (w.drew.alloc (.cells (olds.toArray ++ news.toArray ++ rest) e)) := by
  obtain ⟨d, hd, hk⟩ := hu
  obtain ⟨i, z, hi, g1, g2, g3, g4, g5, g6⟩ := he.info
  have hz : (match d with | .int _ => true | _ => false) = false := by
    cases d <;> first | rfl | exact (hk _ rfl).elim
  have hzs : z.cells.size = (E e).size := by rw [g4.value_cells.1, g5]
  refine ⟨grownCap w (sLen + m) sCap e, Builtin.zeroCells z.cells (grownCap w (sLen + m) sCap e - (sLen + m)), grownCap_ge _ _ _ _, grownCap_le_maxLen _ _ _ _ hmx, by rw [size_zeroCells, hzs], ?_⟩
  have hfit : ¬ 281474976710656 < Builtin.nextslicecap (sLen + m) sCap * (E e).bytes := by
    have := growslice_fits (need := sLen + m) (old := sCap) (by omega) hsz; omega
  have h63 : ¬ (IntKind.i64.max < ((sLen + m : Nat) : Int)) := by
    unfold maxLen at hmx; simp only [IntKind.max, IntKind.signed, IntKind.bits]; simp; omega
  subst hs
  have hb' : (E e).bytes ≠ 0 := by omega
  simp only [Builtin.append_, Sem.run_bind, Sem.run_pure, List.getElem?_toArray, List.getElem?_cons_zero, List.getElem?_cons_succ, run_underlying ht, run_underlying hd, he.sizeOf, Result.andThen_ok, hz,
    Bool.false_eq_true, if_false, hlen, hroom, Bool.not_false, if_true]
  simp [typeInfo, hi, g2, hfit, Question.forced, holds, hnews, zeroValue, g3, newRow, grownCap, hb', -Nat.not_le]
  rw [← Array.append_assoc]
  simp
end

end Go.Fw

end
