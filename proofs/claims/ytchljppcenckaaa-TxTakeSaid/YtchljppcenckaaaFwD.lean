/- The abstract machine, and the contracts of the code: part 5. -/
import Derived.Test.YtchljppcenckaaaFwC

section
/- Loads, addresses, conversions, lengths: operations that turn no memory, all of them in one function and one theorem. -/
namespace Go.Fw
set_option linter.unusedVariables false
set_option linter.unusedSimpArgs false
open Go

def Ty.isAgg : Ty → Bool
  | .arr _ _ | .st _ => true
  | _ => false

theorem run_isAgg {P : Program} {E : Env} {t : TypeId} (h : TyOk P E t) (w : World) : (isAgg t).run P w = .ok (E t).ty.isAgg w := by
  have hd := h.desc
  unfold isAgg
  cases e : (E t).ty <;> rw [e] at hd <;> simp only [DescOk] at hd
  case st fs => obtain ⟨f, hf, _⟩ := hd; simp [run_underlying hf, Ty.isAgg]
  case fn => obtain ⟨a, b, c, hf⟩ := hd; simp [run_underlying hf, Ty.isAgg]
  all_goals simp [run_underlying hd, Ty.isAgg]

/-- What lies in so many cells, loaded as a value. -/
theorem run_loadT {P : Program} {E : Env} {t : TypeId} (ht : TyOk P E t) {M : Nat → Option Obj} {w : World} {x : T} (hw : x.wf) {b o : Nat} {cur : Array Value} {ty : TypeId} {fr : Nat × Nat}
    (hb : w.heap[b]? = some (.cells cur ty fr)) (hr : ∀ i c, x.cells[i]? = some c → ∃ u, cur[o + i]? = some u ∧ RelT M c u)
    (hagg : x.isAgg = (E t).ty.isAgg) (hsz : x.size = (E t).size) : ∃ u, RelT M x u ∧ (loadVar t ⟨b, o, none⟩).run P w = .ok u w := by
  have hlen := T.cells_len x hw
  cases ha : (E t).ty.isAgg with
  | false =>
    rw [ha] at hagg
    obtain ⟨u, h1, h2⟩ := hr 0 x (by rw [T.cells_leaf hagg]; rfl)
    have hc : w.cell? ⟨b, o, none⟩ = some u := by rw [cell_at hb]; simpa using h1
    exact ⟨u, h2, by simp [loadVar, run_isAgg ht, ha, hc]⟩
  | true =>
    rw [ha] at hagg
    let arr : List Value := (List.range x.size).map fun i => cur.getD (o + i) undef
    have hl : arr.length = x.size := by simp [arr]
    have hload : (loadCells ⟨b, o, none⟩ arr.length).run P w = .ok arr.toArray w := by
      refine run_loadCells_list w ⟨b, o, none⟩ arr ?_
      intro j v hj
      have hlt := (List.getElem?_eq_some_iff.1 hj).1
      rw [hl] at hlt
      simp [arr, hlt] at hj
      rw [addr_add, cell_at hb]
      obtain ⟨c, hc⟩ : ∃ c, x.cells[j]? = some c := ⟨x.cells[j]'(by omega), List.getElem?_eq_getElem _⟩
      obtain ⟨u, h1, _⟩ := hr j c hc
      rw [h1] at hj ⊢
      simpa using hj
    rw [hl] at hload
    have hget : ∀ i c, x.cells[i]? = some c → RelT M c (arr.toArray.getD i undef) := by
      intro i c hc
      have hlt := (List.getElem?_eq_some_iff.1 hc).1
      rw [hlen] at hlt
      obtain ⟨u, h1, h2⟩ := hr i c hc
      have : arr.toArray.getD i undef = u := by simp [arr, hlt, h1]
      rw [this]; exact h2
    refine ⟨.agg arr.toArray, ?_, by simp [loadVar, run_isAgg ht, ha, ht.sizeOf, ← hsz, hload]⟩
    cases x with
    | ba n l =>
      simp only [T.wf] at hw
      have e : arr = l.map vu8 := by
        apply List.ext_getElem?
        intro i
        rcases Nat.lt_or_ge i l.length with hlt | hge
        · have := u8_rel (hget i (u8 l[i]) (by simp [T.cells, hlt]))
          have h2 : i < arr.length := by rw [hl]; simp [T.size]; omega
          simp only [List.getElem?_map, List.getElem?_eq_getElem hlt, Option.map_some, ← this]
          simp [List.getElem?_eq_getElem h2]
        · rw [List.getElem?_eq_none (by rw [hl]; simp [T.size]; omega), List.getElem?_eq_none (by simp; omega)]
      rw [e]; exact .ba hw
    | ar n sz xs => exact .ar hw (by simp [hl, T.size]) (by simpa only [T.cells] using hget)
    | st xs => exact .st hw (by simp [hl, T.size]) (by simpa only [T.cells] using hget)
    | _ => simp [T.isAgg] at hagg

def AV.isAgg : AV → Bool
  | .t x => x.isAgg
  | .st _ => true
  | _ => false

theorem AV.cells_leaf {x : AV} (h : x.isAgg = false) : x.cells = [x] := by
  cases x with
  | t x => simp only [AV.isAgg] at h; simp [AV.cells, T.cells_leaf h]
  | st xs => simp [AV.isAgg] at h
  | _ => rfl

theorem run_loadA {P : Program} {E : Env} {t : TypeId} (ht : TyOk P E t) {m : Mem} {w : World} {x : AV} (hw : x.wf) {b o : Nat} {cur : Array Value} {ty : TypeId} {fr : Nat × Nat}
    (hb : w.heap[b]? = some (.cells cur ty fr)) (hr : ∀ i c, x.cells[i]? = some c → ∃ u, cur[o + i]? = some u ∧ RelA m c u)
    (hagg : x.isAgg = (E t).ty.isAgg) (hsz : x.size = (E t).size) : ∃ u, RelA m x u ∧ (loadVar t ⟨b, o, none⟩).run P w = .ok u w := by
  by_cases hT : ∃ y, x = .t y
  · obtain ⟨y, rfl⟩ := hT
    obtain ⟨u, h1, h2⟩ := run_loadT (M := m.M) ht (by simpa only [AV.wf] using hw) hb (x := y) (o := o) (by
      intro i c hc
      obtain ⟨u, h1, h2⟩ := hr i (.t c) (by simp [AV.cells, hc])
      exact ⟨u, h1, h2.t_inv⟩) hagg hsz
    exact ⟨u, .t h1, h2⟩
  · have hlen := AV.cells_len x hw
    cases ha : (E t).ty.isAgg with
    | false =>
      rw [ha] at hagg
      obtain ⟨u, h1, h2⟩ := hr 0 x (by rw [AV.cells_leaf hagg]; rfl)
      have hc : w.cell? ⟨b, o, none⟩ = some u := by rw [cell_at hb]; simpa using h1
      exact ⟨u, h2, by simp [loadVar, run_isAgg ht, ha, hc]⟩
    | true =>
      rw [ha] at hagg
      obtain ⟨xs, rfl⟩ : ∃ xs, x = .st xs := by
        cases x <;> first | exact ⟨_, rfl⟩ | exact (hT ⟨_, rfl⟩).elim | simp [AV.isAgg] at hagg
      let arr : List Value := (List.range (AV.st xs).size).map fun i => cur.getD (o + i) undef
      have hl : arr.length = (AV.st xs).size := by simp [arr]
      have hload : (loadCells ⟨b, o, none⟩ arr.length).run P w = .ok arr.toArray w := by
        refine run_loadCells_list w ⟨b, o, none⟩ arr ?_
        intro j v hj
        have hlt := (List.getElem?_eq_some_iff.1 hj).1
        rw [hl] at hlt
        simp [arr, hlt] at hj
        rw [addr_add, cell_at hb]
        obtain ⟨c, hc⟩ : ∃ c, (AV.st xs).cells[j]? = some c := ⟨(AV.st xs).cells[j]'(by omega), List.getElem?_eq_getElem _⟩
        obtain ⟨u, h1, _⟩ := hr j c hc
        rw [h1] at hj ⊢
        simpa using hj
      rw [hl] at hload
      refine ⟨.agg arr.toArray, .st (by simpa only [AV.wf] using hw) (by simp [hl, AV.size]) ?_, by simp [loadVar, run_isAgg ht, ha, ht.sizeOf, ← hsz, hload]⟩
      intro i c hc
      have hlt := (List.getElem?_eq_some_iff.1 hc).1
      simp only [AV.cells] at hlen
      obtain ⟨u, h1, h2⟩ := hr i c (by simpa only [AV.cells] using hc)
      have hi' : i < (AV.st xs).size := by omega
      have : arr.toArray.getD i undef = u := by simp [arr, hi', h1]
      rw [this]; exact h2

def aLoad (E : Env) (H : List Blk) (t : TypeId) (x : AV) : Option AV :=
  match x with
  | .ip y => if y.isAgg = (E t).ty.isAgg ∧ y.size = (E t).size ∧ 0 < (E t).size then some (.t y) else none
  | .ptr i off p => match H[i]? with
    | none => none
    | some B => match B.get p with
      | none => none
      | some y => if B.off p = some off ∧ y.isAgg = (E t).ty.isAgg ∧ y.size = (E t).size ∧ 0 < (E t).size then some y else none
  | _ => none

theorem aLoad_ok {P : Program} {E : Env} (hE : EnvOk P E) {c : Ctx} {m : Mem} {w : World} {H : List Blk} (h : Inv c m w H) {t : TypeId} {x v : AV} {a : Value}
    (hx : RelA m x a) (hv : aLoad E H t x = some v) : ∃ val, RelA m v val ∧ (Instr.loadAt t a).run P w = .ok val w := by
  unfold aLoad at hv
  split at hv
  · split at hv
    · rename_i y hc
      obtain ⟨h1, h2, h3⟩ := hc
      cases hv
      cases hx with
      | ip hM hw hr =>
        obtain ⟨u, g1, g2⟩ := run_loadT (hE.size rfl h3) hw (h.imm _ _ hM) hr h1 h2
        exact ⟨u, .t g1, by simpa [Instr.loadAt, Instr.sureAddr] using g2⟩
    · cases hv
  · rename_i i off p
    split at hv
    · cases hv
    · rename_i B hB
      split at hv
      · cases hv
      · rename_i y hy
        split at hv
        · rename_i hc
          obtain ⟨h0, h1, h2, h3⟩ := hc
          cases hv
          obtain ⟨b, rfl, hi, hb⟩ := hx.ptr_inv
          obtain ⟨b', cur, e, fr, hb', hh, hw, hr⟩ := Blk.get_ok h.imm (h.ok _ _ hB) hy h0
          rw [hb] at hb'; cases hb'
          obtain ⟨u, g1, g2⟩ := run_loadA (hE.size rfl h3) hw hh hr h1 h2
          exact ⟨u, g1, by simpa [Instr.loadAt, Instr.sureAddr] using g2⟩
        · cases hv
  · cases hv

/-- An element's address. -/
def aIndexAddr (E : Env) (H : List Blk) (t : TypeId) (x ix : AV) : Option AV :=
  match ix with
  | .t (.int _ j) => match (E t).ty with
    | .sl e => match x with
      | .t (.by l) => if 0 ≤ j ∧ j < l.length ∧ (E e).size = 1 then some (.ip (u8 (l.getD j.toNat 0))) else none
      | .t (.sq sz xs) => if 0 ≤ j ∧ j < xs.length ∧ (E e).size = sz then some (.ip (xs.getD j.toNat default)) else none
      | .own i => match H[i]? with
        | some (.by l) => if 0 ≤ j ∧ j < l.length ∧ (E e).size = 1 then some (.ptr i j.toNat [j.toNat]) else none
        | some (.sq sz xs) => if 0 ≤ j ∧ j < xs.length ∧ (E e).size = sz then some (.ptr i (j.toNat * sz) [j.toNat]) else none
        | some (.fz (.by l)) => if 0 ≤ j ∧ j < l.length ∧ (E e).size = 1 then some (.ip (u8 (l.getD j.toNat 0))) else none
        | some (.fz (.sq sz xs)) => if 0 ≤ j ∧ j < xs.length ∧ (E e).size = sz then some (.ip (xs.getD j.toNat default)) else none
        | _ => none
      | .sub i p sz off lo len => if 0 ≤ j ∧ j < len ∧ (E e).size = sz ∧ 0 < sz then some (.ptr i (off + (lo + j.toNat) * sz) (p ++ [lo + j.toNat])) else none
      | _ => none
    | .arr n e => match x with
      | .ptr i off p => if 0 ≤ j ∧ j < n ∧ 0 < (E e).size then some (.ptr i (off + j.toNat * (E e).size) (p ++ [j.toNat])) else none
      | .ip (.ba n' l) => if 0 ≤ j ∧ j < n ∧ n = n' ∧ (E e).size = 1 then some (.ip (u8 (l.getD j.toNat 0))) else none
      | .ip (.ar n' sz xs) => if 0 ≤ j ∧ j < n ∧ n = n' ∧ (E e).size = sz ∧ 0 < sz then some (.ip (xs.getD j.toNat default)) else none
      | _ => none
    | _ => none
  | _ => none

theorem run_indexAt_sl {P : Program} {E : Env} {t e : TypeId} (ht : P.underlying t = some (.slice e)) (he : TyOk P E e) {w : World} {b o n cap : Nat} {k : IntKind} {j : Int}
    (h0 : 0 ≤ j) (hn : j < n) : (Instr.indexAt t (.slice (some ⟨b, o, none⟩) n cap) (.int k j)).run P w = .ok (.pointer (some ⟨b, o + j.toNat * (E e).size, none⟩)) w := by
  simp [Instr.indexAt, asIntOf, run_underlying ht, h0, hn, he.sizeOf, addr_add]

theorem run_indexAt_arr {P : Program} {E : Env} {t e : TypeId} {n : Nat} (ht : P.underlying t = some (.array n e)) (he : TyOk P E e) {w : World} {b o : Nat} {k : IntKind} {j : Int}
    (h0 : 0 ≤ j) (hn : j < n) : (Instr.indexAt t (.pointer (some ⟨b, o, none⟩)) (.int k j)).run P w = .ok (.pointer (some ⟨b, o + j.toNat * (E e).size, none⟩)) w := by
  simp [Instr.indexAt, Instr.sureAddr, asIntOf, run_underlying ht, h0, hn, he.sizeOf, addr_add]

theorem RelT.idx_by {m : Mem} {l : List UInt8} {a : Option Addr} {n cap : Nat} (h : RelT m.M (.by l) (.slice a n cap)) {j : Nat} (hj : j < l.length) :
    ∃ b o, a = some ⟨b, o, none⟩ ∧ RelA m (.ip (u8 (l.getD j 0))) (.pointer (some ⟨b, o + j * 1, none⟩)) := by
  cases h with
  | byn => simp at hj
  | «by» hM hl hm hc =>
    refine ⟨_, _, rfl, .ip hM (u8_wf _) fun i c hi => ?_⟩
    simp only [u8, T.cells] at hi
    have hlt := (List.getElem?_eq_some_iff.1 hi).1
    simp at hlt; subst hlt
    simp at hi; subst hi
    refine ⟨vu8 (l.getD j 0), by simpa using hc j (l.getD j 0) (by simp [hj]), ?_⟩
    have := RelT_u8 (M := m.M) (l.getD j 0)
    simpa [u8] using this

theorem RelT.idx_sq {m : Mem} {sz : Nat} {xs : List T} {a : Option Addr} {n cap : Nat} (h : RelT m.M (.sq sz xs) (.slice a n cap)) {j : Nat} (hj : j < xs.length) :
    ∃ b o, a = some ⟨b, o, none⟩ ∧ RelA m (.ip (xs.getD j default)) (.pointer (some ⟨b, o + j * sz, none⟩)) := by
  cases h with
  | sqn => simp at hj
  | sq hM hw hl hm g hc hr =>
    obtain ⟨hw1, hw2, hw3, hw4⟩ := (by simpa only [T.wf] using hw : 0 < sz ∧ xs.length ≤ maxLen ∧ (∀ x ∈ xs, x.size = sz) ∧ T.wfL xs)
    have hz : xs[j]? = some (xs.getD j default) := by simp [hj]
    refine ⟨_, _, rfl, .ip hM (wfL_get hw4 hz) fun i c hi => ?_⟩
    have := cellsL_get hw4 hz i c hi
    rw [sizeL_take_const hw3 j (by omega)] at this
    exact ⟨_, by rw [Nat.add_assoc]; exact hc _ _ this, hr _ _ this⟩

theorem aIndexAddr_ok {P : Program} {E : Env} (hE : EnvOk P E) {c : Ctx} {m : Mem} {w : World} {H : List Blk} (h : Inv c m w H) {t : TypeId} {x ix v : AV} {a i : Value}
    (hx : RelA m x a) (hi : RelA m ix i) (hv : aIndexAddr E H t x ix = some v) : ∃ val, RelA m v val ∧ (Instr.indexAt t a i).run P w = .ok val w := by
  unfold aIndexAddr at hv
  split at hv
  case h_2 => cases hv
  rename_i k j
  obtain ⟨rfl, _⟩ := hi.int_inv
  have hnat : ∀ {n : Nat}, 0 ≤ j → j < (n : Int) → j.toNat < n := fun h0 h1 => by omega
  split at hv
  · rename_i e ht
    obtain ⟨hd, _⟩ := hE.ty ht (by simp)
    simp only [DescOk] at hd
    have byc : ∀ l, RelT m.M (.by l) a → 0 ≤ j ∧ j < l.length ∧ (E e).size = 1 → ∃ val, RelA m (.ip (u8 (l.getD j.toNat 0))) val ∧ (Instr.indexAt t a (.int k j)).run P w = .ok val w := by
      intro l hr hc
      obtain ⟨c1, c2, c3⟩ := hc
      rcases alen_ok h (RelA.t hr) rfl with ⟨a', cap, rfl, _⟩ | ⟨_, hf, _⟩
      · obtain ⟨b, o, rfl, g⟩ := RelT.idx_by hr (hnat c1 c2)
        rw [← c3] at g
        exact ⟨_, g, run_indexAt_sl hd (hE.size c3 (by omega)) c1 c2⟩
      · cases hf
    have sqc : ∀ sz xs, RelT m.M (.sq sz xs) a → 0 ≤ j ∧ j < xs.length ∧ (E e).size = sz → ∃ val, RelA m (.ip (xs.getD j.toNat default)) val ∧ (Instr.indexAt t a (.int k j)).run P w = .ok val w := by
      intro sz xs hr hc
      obtain ⟨c1, c2, c3⟩ := hc
      have hw := hr.wf
      simp only [T.wf] at hw
      rcases alen_ok h (RelA.t hr) rfl with ⟨a', cap, rfl, _⟩ | ⟨_, hf, _⟩
      · obtain ⟨b, o, rfl, g⟩ := RelT.idx_sq hr (hnat c1 c2)
        rw [← c3] at g
        exact ⟨_, g, run_indexAt_sl hd (hE.size c3 hw.1) c1 c2⟩
      · cases hf
    split at hv
    · split at hv
      · rename_i hc; cases hv; exact byc _ hx.t_inv hc
      · cases hv
    · split at hv
      · rename_i hc; cases hv; exact sqc _ _ hx.t_inv hc
      · cases hv
    · rename_i i
      obtain ⟨rfl, hin⟩ := hx.own_inv
      split at hv
      · rename_i l hB
        split at hv
        · rename_i hc
          obtain ⟨c1, c2, c3⟩ := hc
          cases hv
          rcases h.ok _ _ hB with ⟨_, rfl⟩ | ⟨b, cap, cur, e', hd', hh, _⟩
          · simp at c2; omega
          · have g := run_indexAt_sl (b := b) (o := 0) (cap := cap) (k := k) (w := w) hd (hE.size c3 (by omega)) c1 c2
            rw [hd']
            rw [c3] at g
            simp only [Nat.zero_add, Nat.mul_one] at g
            exact ⟨_, .ptr hin (by rw [hd']; rfl), g⟩
        · cases hv
      · rename_i sz xs hB
        split at hv
        · rename_i hc
          obtain ⟨c1, c2, c3⟩ := hc
          cases hv
          obtain ⟨hw, hok⟩ := h.ok _ _ hB
          simp only [T.wf] at hw
          rcases hok with ⟨_, rfl⟩ | ⟨b, cap, cur, e', hd', hh, _⟩
          · simp at c2; omega
          · have g := run_indexAt_sl (b := b) (o := 0) (cap := cap) (k := k) (w := w) hd (hE.size c3 hw.1) c1 c2
            rw [hd']
            rw [c3] at g
            simp only [Nat.zero_add] at g
            exact ⟨_, .ptr hin (by rw [hd']; rfl), g⟩
        · cases hv
      · rename_i l hB
        split at hv
        · rename_i hc; cases hv; exact byc _ (h.ok _ _ hB).1 hc
        · cases hv
      · rename_i sz xs hB
        split at hv
        · rename_i hc; cases hv; exact sqc _ _ (h.ok _ _ hB).1 hc
        · cases hv
      · cases hv
    · rename_i i p sz off lo len
      obtain ⟨a', cap, rfl, hin, h1, h2, h3⟩ := hx.sub_inv
      split at hv
      · rename_i hc
        obtain ⟨c1, c2, c3, c4⟩ := hc
        cases hv
        rcases h3 with ⟨rfl, rfl, h0⟩ | ⟨b, o, hb, rfl, ho⟩
        · omega
        · have g := run_indexAt_sl (b := b) (o := o) (cap := cap) (k := k) (w := w) hd (hE.size c3 c4) c1 c2
          rw [ho (by omega), c3] at g
          rw [show off + lo * sz + j.toNat * sz = off + (lo + j.toNat) * sz by rw [Nat.add_mul]; omega] at g
          rw [ho (by omega)]
          exact ⟨_, .ptr hin hb, g⟩
      · cases hv
    · cases hv
  · rename_i n e ht
    obtain ⟨hd, _⟩ := hE.ty ht (by simp)
    simp only [DescOk] at hd
    split at hv
    · rename_i i off p
      obtain ⟨b, rfl, hin, hb⟩ := hx.ptr_inv
      split at hv
      · rename_i hc
        obtain ⟨c1, c2, c3⟩ := hc
        cases hv
        exact ⟨_, .ptr hin hb, run_indexAt_arr hd (hE.size rfl c3) c1 c2⟩
      · cases hv
    · split at hv
      · rename_i n' l hc
        obtain ⟨c1, c2, rfl, c3⟩ := hc
        cases hv
        cases hx with
        | ip hM hw hr =>
          rename_i b o cur ty fr
          simp only [T.wf] at hw
          have hlt : j.toNat < l.length := by omega
          refine ⟨_, .ip (off := o + j.toNat * (E e).size) hM (u8_wf _) fun i c hi => ?_, run_indexAt_arr hd (hE.size c3 (by omega)) c1 c2⟩
          simp only [u8, T.cells] at hi
          have hl0 := (List.getElem?_eq_some_iff.1 hi).1
          simp at hl0; subst hl0
          simp at hi; subst hi
          obtain ⟨u, h1, h2⟩ := hr j.toNat (u8 (l.getD j.toNat 0)) (by simp [T.cells, hlt])
          exact ⟨u, by rw [c3]; simpa using h1, by simpa [u8] using h2⟩
      · cases hv
    · split at hv
      · rename_i n' sz xs hc
        obtain ⟨c1, c2, rfl, c3, c4⟩ := hc
        cases hv
        cases hx with
        | ip hM hw hr =>
          rename_i b o cur ty fr
          simp only [T.wf] at hw
          obtain ⟨hw1, hw2, hw3⟩ := hw
          have hz : xs[j.toNat]? = some (xs.getD j.toNat default) := by
            have : j.toNat < xs.length := by omega
            simp [this]
          refine ⟨_, .ip (off := o + j.toNat * (E e).size) hM (wfL_get hw3 hz) fun i c hi => ?_, run_indexAt_arr hd (hE.size c3 c4) c1 c2⟩
          have := cellsL_get hw3 hz i c hi
          rw [sizeL_take_const hw2 j.toNat (by omega)] at this
          obtain ⟨u, h1, h2⟩ := hr _ c (by simpa only [T.cells] using this)
          exact ⟨u, by rw [c3, Nat.add_assoc]; exact h1, h2⟩
      · cases hv
    · cases hv
  · cases hv

end Go.Fw

end
