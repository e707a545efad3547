/- The abstract machine, and the contracts of the code: part 25. -/
import Derived.Test.YtchljppcenckaaaFwT2

section
/- Parts of structs and arrays taken out, structs and arrays built. -/
namespace Go.Fw
set_option linter.unusedVariables false
set_option linter.unusedSimpArgs false
open Go

theorem part_ok {P : Program} {E : Env} {t : TypeId} (ht : TyOk P E t) {m : Mem} {w : World} {arr : Array Value} {o : Nat} {x : AV} (hw : x.wf)
    (hr : ∀ (j : Nat) (c : AV), x.cells[j]? = some c → RelA m c (arr.getD (o + j) undef)) (hfit : o + x.size ≤ arr.size) (hagg : x.isAgg = (E t).ty.isAgg) (hsz : x.size = (E t).size) (hxt : x.isAgg = true → (∃ y, x = .t y) ∨ ∃ ys, x = .st ys) :
    ∃ u, RelA m x u ∧ (part t arr o).run P w = .ok u w := by
  have hlen := AV.cells_len x hw
  cases ha : (E t).ty.isAgg with
  | false =>
    rw [ha] at hagg
    have hpos : 0 < x.size := by rw [← hlen, AV.cells_leaf hagg]; simp
    have h0 := hr 0 x (by rw [AV.cells_leaf hagg]; rfl)
    have hc : arr[o]? = some (arr.getD (o + 0) undef) := by
      have : o < arr.size := by omega
      rw [Nat.add_zero, Array.getD_eq_getD_getElem?, Array.getElem?_eq_getElem this]; rfl
    refine ⟨_, h0, ?_⟩
    simp only [part, Sem.run_bind, run_isAgg ht, ha, Result.andThen_ok, Bool.false_eq_true, if_false, hc, Sem.run_pure]
  | true =>
    rw [ha] at hagg
    have hex : (arr.extract o (o + (E t).size)).size = x.size := by simp; omega
    have hget : ∀ (j : Nat) (c : AV), x.cells[j]? = some c → RelA m c ((arr.extract o (o + (E t).size)).getD j undef) := by
      intro j c hj
      have hlt := (List.getElem?_eq_some_iff.1 hj).1
      have := hr j c hj
      have e : (arr.extract o (o + (E t).size)).getD j undef = arr.getD (o + j) undef := by
        have h1 : j < (arr.extract o (o + (E t).size)).size := by omega
        have h2 : o + j < arr.size := by omega
        simp only [Array.getD_eq_getD_getElem?]
        rw [Array.getElem?_eq_getElem h1, Array.getElem?_eq_getElem h2, Array.getElem_extract]
      rw [e]; exact this
    refine ⟨.agg (arr.extract o (o + (E t).size)), ?_, by simp [part, run_isAgg ht, ha, ht.sizeOf]⟩
    rcases hxt hagg with ⟨y, rfl⟩ | ⟨ys, rfl⟩
    · have hg : ∀ (j : Nat) (c : T), y.cells[j]? = some c → RelT m.M c ((arr.extract o (o + (E t).size)).getD j undef) := fun j c hj => (hget j (.t c) (by simp [AV.cells, hj])).t_inv
      cases y with
      | ba n l =>
        simp only [AV.wf, T.wf] at hw
        simp only [AV.size, T.size] at hex
        have e : arr.extract o (o + (E t).size) = (l.map vu8).toArray := by
          apply Array.ext_getElem?
          intro i
          rcases Nat.lt_or_ge i l.length with hlt | hge
          · have h1 := u8_rel (hg i (u8 l[i]) (by simp [T.cells, hlt]))
            have h2 : i < (arr.extract o (o + (E t).size)).size := by omega
            rw [Array.getD_eq_getD_getElem?, Array.getElem?_eq_getElem h2] at h1
            rw [Array.getElem?_eq_getElem h2]
            simp only [Option.getD_some] at h1
            rw [h1]; simp [hlt]
          · rw [Array.getElem?_eq_none (by omega), List.getElem?_toArray, List.getElem?_eq_none (by simp; omega)]
        rw [e]; exact .t (.ba hw)
      | ar n sz xs => exact .t (.ar (by simpa only [AV.wf] using hw) (by simpa only [AV.size, T.size] using hex) (by simpa only [T.cells] using hg))
      | st xs => exact .t (.st (by simpa only [AV.wf] using hw) (by simpa only [AV.size, T.size] using hex) (by simpa only [T.cells] using hg))
      | _ => simp [AV.isAgg, T.isAgg] at hagg
    · exact .st (by simpa only [AV.wf] using hw) (by simpa only [AV.size] using hex) (by simpa only [AV.cells] using hget)

theorem AV.agg_form {x : AV} (h : x.isAgg = true) : (∃ y, x = .t y) ∨ ∃ ys, x = .st ys := by
  cases x with
  | t y => exact .inl ⟨y, rfl⟩
  | st ys => exact .inr ⟨ys, rfl⟩
  | _ => simp [AV.isAgg] at h

/-- What stands for a struct value, cell by cell. -/
theorem RelA.st_cells {m : Mem} {xs : List AV} {v : Value} (h : RelA m (.st xs) v) : ∃ arr, v = .agg arr ∧ AV.wfL xs ∧ arr.size = AV.sizeL xs ∧ ∀ (i : Nat) (c : AV), (AV.cellsL xs)[i]? = some c → RelA m c (arr.getD i undef) := by
  generalize hx : AV.st xs = x at h
  cases h <;> cases hx
  exact ⟨_, rfl, by assumption, by assumption, by assumption⟩

theorem RelT.st_cells {M : Nat → Option Obj} {xs : List T} {v : Value} (h : RelT M (.st xs) v) : ∃ arr, v = .agg arr ∧ T.wfL xs ∧ arr.size = T.sizeL xs ∧ ∀ (i : Nat) (c : T), (T.cellsL xs)[i]? = some c → RelT M c (arr.getD i undef) := by
  generalize hx : T.st xs = x at h
  cases h <;> cases hx
  rename_i arr hw ha hr
  exact ⟨_, rfl, by simpa only [T.wf] using hw, ha, hr⟩

theorem RelT.ar_cells {M : Nat → Option Obj} {n sz : Nat} {xs : List T} {v : Value} (h : RelT M (.ar n sz xs) v) : ∃ arr, v = .agg arr ∧ arr.size = n * sz ∧ ∀ (i : Nat) (c : T), (T.cellsL xs)[i]? = some c → RelT M c (arr.getD i undef) := by
  generalize hx : T.ar n sz xs = x at h
  cases h <;> cases hx
  exact ⟨_, rfl, by assumption, by assumption⟩

theorem RelT.ba_form {M : Nat → Option Obj} {n : Nat} {l : List UInt8} {v : Value} (h : RelT M (.ba n l) v) : v = .agg (l.map vu8).toArray ∧ l.length = n := by
  generalize hx : T.ba n l = x at h
  cases h <;> cases hx
  exact ⟨rfl, by assumption⟩

def aField (E : Env) (t : TypeId) (x : AV) (f : Nat) : Option AV :=
  match (E t).ty with
  | .st fs => match fs[f]? with
    | some (o, ft) => match x with
      | .t (.st xs) => match xs[f]? with
        | some y => if T.sizeL (xs.take f) = o ∧ y.size = (E ft).size ∧ y.isAgg = (E ft).ty.isAgg ∧ 0 < (E ft).size then some (.t y) else none
        | none => none
      | .st xs => match xs[f]? with
        | some y => if AV.sizeL (xs.take f) = o ∧ y.size = (E ft).size ∧ y.isAgg = (E ft).ty.isAgg ∧ 0 < (E ft).size then some y else none
        | none => none
      | _ => none
    | none => none
  | _ => none

theorem aField_ok {P : Program} {E : Env} (hE : EnvOk P E) {m : Mem} {w : World} {t : TypeId} {x v : AV} {a : Value} {f : Nat}
    (hx : RelA m x a) (hv : aField E t x f = some v) : ∃ val, RelA m v val ∧ (Instr.field t a f).run P w = .ok val w := by
  unfold aField at hv
  split at hv
  case h_2 => cases hv
  rename_i fs ht
  obtain ⟨fields, hd, hfs⟩ := (hE.ty ht (by simp)).1
  split at hv
  case h_2 => cases hv
  rename_i o ft hf
  rw [← hfs, List.getElem?_map, Option.map_eq_some_iff] at hf
  obtain ⟨fl, hfl, he⟩ := hf
  simp at he
  obtain ⟨ho, hft⟩ := he
  have hfl' : fields[f]? = some fl := by simpa using hfl
  have run : ∀ arr u, (part ft arr o).run P w = .ok u w → (Instr.field t (.agg arr) f).run P w = .ok u w := by
    intro arr u h
    simp [Instr.field, run_underlying hd, hfl', asAgg, hft, ho, h]
  split at hv
  · rename_i xs
    split at hv
    · rename_i y hy
      split at hv
      · rename_i hc
        obtain ⟨c1, c2, c3, c4⟩ := hc
        cases hv
        obtain ⟨arr, rfl, hw, hs, hr⟩ := hx.t_inv.st_cells
        have hyw := wfL_get hw hy
        have hat := AV.sizeL_at (xs := xs.map AV.t) (i := f) (x := .t y) (by simp [hy])
        rw [← List.map_take, (AV.mapT _).2.1, (AV.mapT _).2.1] at hat
        simp only [AV.size] at hat
        obtain ⟨u, g1, g2⟩ := part_ok (hE.size (t := ft) rfl c4) (m := m) (w := w) (arr := arr) (o := o) (x := .t y) (by simpa only [AV.wf] using hyw)
          (fun j c hj => by
            simp only [AV.cells, List.getElem?_map, Option.map_eq_some_iff] at hj
            obtain ⟨d, hd, rfl⟩ := hj
            have := cellsL_get hw hy j d hd
            rw [c1] at this
            exact .t (hr _ _ this)) (by simp only [AV.size]; omega) c3 c2 AV.agg_form
        exact ⟨u, g1, run _ _ g2⟩
      · cases hv
    · cases hv
  · rename_i xs
    split at hv
    · rename_i y hy
      split at hv
      · rename_i hc
        obtain ⟨c1, c2, c3, c4⟩ := hc
        cases hv
        obtain ⟨arr, rfl, hw, hs, hr⟩ := hx.st_cells
        have hyw := (AV.wfL_iff _).1 hw _ (List.mem_of_getElem? hy)
        have hat := AV.sizeL_at hy
        obtain ⟨u, g1, g2⟩ := part_ok (hE.size (t := ft) rfl c4) (m := m) (w := w) (arr := arr) (o := o) (x := v) hyw
          (fun j c hj => by
            have := AV.cellsL_get hw hy j c hj
            rw [c1] at this
            exact hr _ _ this) (by omega) c3 c2 AV.agg_form
        exact ⟨u, g1, run _ _ g2⟩
      · cases hv
    · cases hv
  · cases hv

def aIndex (E : Env) (t : TypeId) (x ix : AV) : Option AV :=
  match ix with
  | .t (.int _ j) => match (E t).ty with
    | .arr n e => match x with
      | .t (.ba n' l) => if 0 ≤ j ∧ j < n ∧ n = n' ∧ (E e).size = 1 ∧ (E e).ty.isAgg = false then some (.t (u8 (l.getD j.toNat 0))) else none
      | .t (.ar n' sz xs) => if 0 ≤ j ∧ j < n ∧ n = n' ∧ (E e).size = sz ∧ 0 < sz ∧ (xs.getD j.toNat default).isAgg = (E e).ty.isAgg then some (.t (xs.getD j.toNat default)) else none
      | _ => none
    | .str => match x with
      | .t (.str l) => if 0 ≤ j ∧ j < l.length then some (.t (u8 (l.getD j.toNat 0))) else none
      | _ => none
    | _ => none
  | _ => none

theorem aIndex_ok {P : Program} {E : Env} (hE : EnvOk P E) {m : Mem} {w : World} {t : TypeId} {x ix v : AV} {a i : Value}
    (hx : RelA m x a) (hi : RelA m ix i) (hv : aIndex E t x ix = some v) : ∃ val, RelA m v val ∧ (Instr.index t a i).run P w = .ok val w := by
  unfold aIndex at hv
  split at hv
  case h_2 => cases hv
  rename_i k j
  obtain ⟨rfl, _⟩ := hi.int_inv
  split at hv
  · rename_i n e ht
    have hd := (hE.ty ht (by simp)).1
    simp only [DescOk] at hd
    split at hv
    · rename_i n' l
      split at hv
      · rename_i hc
        obtain ⟨c1, c2, rfl, c3, c4⟩ := hc
        cases hv
        obtain ⟨rfl, hl⟩ := hx.t_inv.ba_form
        have hlt : j.toNat < l.length := by omega
        have he := hE.size c3 (by omega)
        refine ⟨vu8 (l.getD j.toNat 0), .t (RelT_u8 _), ?_⟩
        have hg : ((l.map vu8).toArray)[j.toNat]? = some (vu8 (l.getD j.toNat 0)) := by simp [hlt]
        simp only [Instr.index, asIntOf, Sem.run_bind, Sem.run_pure, Result.andThen_ok, run_underlying hd]
        rw [if_pos ⟨c1, c2⟩]
        simp only [Sem.run_bind, he.sizeOf, c3, Result.andThen_ok, Nat.mul_one, part, run_isAgg he, c4, Bool.false_eq_true, if_false, hg, Sem.run_pure]
      · cases hv
    · rename_i n' sz xs
      split at hv
      · rename_i hc
        obtain ⟨c1, c2, rfl, c3, c5, c4⟩ := hc
        cases hv
        have hw := hx.t_inv.wf
        obtain ⟨arr, rfl, hs, hr⟩ := hx.t_inv.ar_cells
        simp only [T.wf] at hw
        obtain ⟨hw1, hw2, hw3⟩ := hw
        have hlt : j.toNat < xs.length := by omega
        have hz : xs[j.toNat]? = some (xs.getD j.toNat default) := by simp [hlt]
        have he := hE.size c3 c5
        have hsz : (xs.getD j.toNat default).size = sz := hw2 _ (List.mem_of_getElem? hz)
        have hfit : j.toNat * sz + sz ≤ n * sz := by
          have h1 : (j.toNat + 1) * sz ≤ n * sz := Nat.mul_le_mul_right sz (by omega)
          rw [Nat.add_mul] at h1; omega
        obtain ⟨u, g1, g2⟩ := part_ok he (m := m) (w := w) (arr := arr) (o := j.toNat * sz) (x := .t (xs.getD j.toNat default)) (by simpa only [AV.wf] using wfL_get hw3 hz)
          (fun i c hi => by
            simp only [AV.cells, List.getElem?_map, Option.map_eq_some_iff] at hi
            obtain ⟨d, hd, rfl⟩ := hi
            have := cellsL_get hw3 hz i d hd
            rw [sizeL_take_const hw2 j.toNat (by omega)] at this
            exact .t (hr _ _ this)) (by simp only [AV.size]; omega) (by simpa only [AV.isAgg] using c4) (by simp only [AV.size]; omega) AV.agg_form
        refine ⟨u, g1, ?_⟩
        simp only [Instr.index, asIntOf, Sem.run_bind, Sem.run_pure, Result.andThen_ok, run_underlying hd]
        rw [if_pos ⟨c1, c2⟩]
        simp only [Sem.run_bind, he.sizeOf, c3, Result.andThen_ok, g2]
      · cases hv
    · cases hv
  · rename_i ht
    have hd := (hE.ty ht (by simp)).1
    simp only [DescOk] at hd
    split at hv
    · rename_i l
      split at hv
      · rename_i hc
        obtain ⟨c1, c2⟩ := hc
        cases hv
        obtain ⟨rfl, hm⟩ := hx.str_inv
        have hlt : j.toNat < l.length := by omega
        refine ⟨vu8 (l.getD j.toNat 0), .t (RelT_u8 _), ?_⟩
        have hg : (⟨l.toArray⟩ : ByteArray)[j.toNat]? = some (l.getD j.toNat 0) := by
          have hsz : (⟨l.toArray⟩ : ByteArray).size = l.length := rfl
          rw [getElem?_pos (⟨l.toArray⟩ : ByteArray) j.toNat (by rw [hsz]; exact hlt)]
          simp [hlt]
          rfl
        simp only [Instr.index, asIntOf, Sem.run_bind, Sem.run_pure, Result.andThen_ok, run_underlying hd]
        rw [if_pos c1, hg]
        simp [vu8]
      · cases hv
    · cases hv
  · cases hv

end Go.Fw

end
