/- The abstract machine, and the contracts of the code: part 29. -/
import Derived.Test.YtchljppcenckaaaFwT6

section
/- Structs and arrays built of parts; literals of slices whose elements are values of several cells. -/
namespace Go.Fw
set_option linter.unusedVariables false
set_option linter.unusedSimpArgs false
open Go

def AV.sum : List Nat → Nat
  | [] => 0
  | n :: r => n + AV.sum r

theorem AV.sizeL_sum (xs : List AV) : AV.sizeL xs = AV.sum (xs.map AV.size) := by
  induction xs with
  | nil => rfl
  | cons x xs ih => simp [AV.sizeL, AV.sum, ih]

/-- Offsets and sizes of a struct's fields, held against its zero. -/
def fitL (E : Env) : List (Nat × TypeId) → List T → Nat → Bool
  | [], [], _ => true
  | f :: fs, z :: zs, k => (f.1 == k) && (z.size == (E f.2).size) && (decide (0 < z.size)) && fitL E fs zs (k + z.size)
  | _, _, _ => false

def FitOk (E : Env) : Prop := ∀ t fs zs, (E t).ty = .st fs → (E t).zero = .st zs → fitL E fs zs 0 = true

theorem fitL_ok {E : Env} : ∀ (fs : List (Nat × TypeId)) (zs : List T) (k : Nat), fitL E fs zs k = true → fs.length = zs.length ∧
    ∀ (i : Nat) (f : Nat × TypeId), fs[i]? = some f → ∃ z, zs[i]? = some z ∧ f.1 = k + T.sizeL (zs.take i) ∧ z.size = (E f.2).size ∧ 0 < z.size
  | [], [], k, h => by simp
  | [], _ :: _, k, h => by simp [fitL] at h
  | _ :: _, [], k, h => by simp [fitL] at h
  | f :: fs, z :: zs, k, h => by
    simp only [fitL, Bool.and_eq_true, beq_iff_eq, decide_eq_true_eq] at h
    obtain ⟨⟨⟨h1, h2⟩, h3⟩, h4⟩ := h
    obtain ⟨g1, g2⟩ := fitL_ok fs zs (k + z.size) h4
    refine ⟨by simp [g1], fun i f' hi => ?_⟩
    cases i with
    | zero => simp at hi; subst hi; exact ⟨z, rfl, by simp [T.sizeL, h1], h2, h3⟩
    | succ i =>
      obtain ⟨z', k1, k2, k3⟩ := g2 i f' (by simpa using hi)
      exact ⟨z', by simpa using k1, by simp only [List.take_succ_cons, T.sizeL]; omega, k3⟩

/-- Parts laid into a list of values of given sizes. -/
def setParts (H : List Blk) (s : Slots) : List (Nat × Operand) → List AV → Option (List AV)
  | [], xs => some xs
  | (i, o) :: r, xs => match xs[i]? with
    | some x => if (ev s o).solid H = true ∧ (ev s o).size = x.size then setParts H s r (xs.set i (ev s o)) else none
    | none => none

theorem setParts_ok {c : Ctx} {m : Mem} {w : World} {H : List Blk} (h : Inv c m w H) {s : Slots} {ρ : Operand → Value} (hs : ∀ x, RelA m (ev s x) (ρ x)) {place : Nat → Option (Nat × Nat)} : ∀ (parts : List (Nat × Operand)) (xs ys : List AV) (arr : Array Value),
    setParts H s parts xs = some ys → AV.wfL xs → arr.size = AV.sizeL xs → (∀ (j : Nat) (d : AV), (AV.cellsL xs)[j]? = some d → RelA m d (arr.getD j undef)) →
    (∀ (i : Nat) (x : AV), xs[i]? = some x → place i = some (AV.sizeL (xs.take i), x.size)) →
    ∃ arr', Instr.fill place arr (parts.map fun p => (p.1, ρ p.2)) = some arr' ∧ AV.wfL ys ∧ arr'.size = AV.sizeL ys ∧ AV.sizeL ys = AV.sizeL xs ∧ ys.map AV.size = xs.map AV.size ∧ ∀ (j : Nat) (d : AV), (AV.cellsL ys)[j]? = some d → RelA m d (arr'.getD j undef) := by
  intro parts
  induction parts with
  | nil => intro xs ys arr hp hw ha hr hpl; cases hp; exact ⟨arr, rfl, hw, ha, rfl, rfl, hr⟩
  | cons p r ih =>
    intro xs ys arr hp hw ha hr hpl
    obtain ⟨i, o⟩ := p
    simp only [setParts] at hp
    split at hp
    · rename_i x hx
      split at hp
      · rename_i hc
        obtain ⟨c1, c2⟩ := hc
        have hv := hs o
        obtain ⟨v1, v2, v3⟩ := hv.value_cells h c1
        have hat := AV.sizeL_at hx
        obtain ⟨k1, k2, k3⟩ := AV.cellsL_set hw hx hv.wf c2
        have hmap : (xs.set i (ev s o)).map AV.size = xs.map AV.size := by
          rw [List.map_set, c2]
          exact set_same (by simp [hx])
        obtain ⟨arr1, e1, s1, g1⟩ := put_cells (ρ o).cells.toList 0 (AV.sizeL (xs.take i)) arr (by simp [v1]; omega)
        have hlen := AV.cells_len _ hv.wf
        obtain ⟨arr', f1, f2, f3, f4, f5, f6⟩ := ih (xs.set i (ev s o)) ys arr1 hp k2 (by rw [s1, ha, k3]) (by
          intro j d hj
          rw [k1 j] at hj
          have hg := g1 j
          simp only [Nat.add_zero, Array.length_toList] at hg
          by_cases hr' : AV.sizeL (xs.take i) ≤ j ∧ j < AV.sizeL (xs.take i) + (ev s o).cells.length
          · rw [if_pos hr'] at hj
            rw [if_pos (by rw [v1]; omega)] at hg
            obtain ⟨u, hu, hur⟩ := v2 _ d hj
            rw [Array.getD_eq_getD_getElem?, hg]
            have : (ρ o).cells.toList[j - AV.sizeL (List.take i xs)]? = some u := by simpa using hu
            rw [this]; exact hur
          · rw [if_neg hr'] at hj
            rw [if_neg (by rw [v1]; omega)] at hg
            rw [Array.getD_eq_getD_getElem?, hg, ← Array.getD_eq_getD_getElem?]
            exact hr j d hj) (by
          intro i' x' hi'
          have hsz : (xs.set i (ev s o))[i']?.map AV.size = xs[i']?.map AV.size := by
            have := congrArg (fun l => l[i']?) hmap
            simpa only [List.getElem?_map] using this
          rw [hi'] at hsz
          cases hx' : xs[i']? with
          | none => rw [hx'] at hsz; cases hsz
          | some x2 =>
            rw [hx'] at hsz
            simp only [Option.map_some, Option.some.injEq] at hsz
            rw [hpl i' x2 hx']
            congr 2
            · rw [AV.sizeL_sum, AV.sizeL_sum, List.map_take, List.map_take, hmap]
            · exact hsz.symm)
        refine ⟨arr', ?_, f2, f3, by rw [f4, k3], by rw [f5, hmap], f6⟩
        simp only [List.map_cons, Instr.fill, hpl i x hx]
        have hno : ¬ ((ρ o).cells.size ≠ x.size ∨ AV.sizeL (xs.take i) + (ρ o).cells.size > arr.size) := by
          rw [v1, c2, ha]
          intro hh
          rcases hh with hh | hh
          · exact hh rfl
          · omega
        have hno' : (decide ((ρ o).cells.size ≠ x.size) || decide (AV.sizeL (xs.take i) + (ρ o).cells.size > arr.size)) = false := by
          rw [Bool.eq_false_iff]
          intro hh
          simp only [Bool.or_eq_true, decide_eq_true_eq] at hh
          exact hno hh
        rw [hno', if_neg (by simp)]
        have hfold : (ρ o).cells.zipIdx.foldl (fun cs (q : Value × Nat) => cs.setIfInBounds (AV.sizeL (xs.take i) + q.2) q.1) arr = arr1 := by
          rw [← Array.foldl_toList, Array.toList_zipIdx]; exact e1
        rw [← f1]
        congr 1
      · cases hp
    · cases hp

/-- All of them trees? -/
def allT : List AV → Option (List T)
  | [] => some []
  | x :: xs => match x.asT with
    | some y => match allT xs with
      | some ys => some (y :: ys)
      | none => none
    | none => none

theorem allT_ok : ∀ (xs : List AV) (ys : List T), allT xs = some ys → xs = ys.map .t
  | [], ys, h => by cases h; rfl
  | x :: xs, ys, h => by
    simp only [allT] at h
    split at h
    · rename_i y hy
      split at h
      · rename_i ys' hys
        cases h
        rw [AV.asT_some hy, allT_ok xs ys' hys]; rfl
      · cases h
    · cases h

def packV (xs : List AV) : AV :=
  match allT xs with
  | some ys => .t (.st ys)
  | none => .st xs

theorem packV_ok {m : Mem} {xs : List AV} {v : Value} (h : RelA m (.st xs) v) : RelA m (packV xs) v := by
  unfold packV
  split
  · rename_i ys hys
    have := allT_ok xs ys hys
    subst this
    obtain ⟨arr, rfl, hw, hs, hr⟩ := h.st_cells
    obtain ⟨m1, m2, m3⟩ := AV.mapT ys
    refine .t (.st (by simp only [T.wf]; exact m3.1 hw) (by rw [hs, m2]) fun i c hi => ?_)
    exact (hr i (.t c) (by rw [m1]; simp [hi])).t_inv
  · exact h

def aBuild (E : Env) (H : List Blk) (s : Slots) (t : TypeId) (parts : List (Nat × Operand)) : Option AV :=
  match (E t).ty with
  | .st _ => match (E t).zero with
    | .st zs => match setParts H s parts (zs.map .t) with
      | some xs => some (packV xs)
      | none => none
    | _ => none
  | .arr _ e => if 0 < (E e).size then
      match (E t).zero with
      | .ar n sz zs => if sz = (E e).size then
          (match (if isEnum 0 parts = true ∧ parts.length = zs.length then setEnum H s sz parts else setParts H s parts (zs.map .t)) with
          | some xs => match allT xs with
            | some ys => some (.t (.ar n sz ys))
            | none => none
          | none => none) else none
      | .ba n l => if (E e).size = 1 ∧ (E e).ty = .int .u8 then
          (match byteParts s parts l with
          | some l' => some (.t (.ba n l'))
          | none => none) else none
      | _ => none
    else none
  | _ => none
where
  setEnum (H : List Blk) (s : Slots) (sz : Nat) : List (Nat × Operand) → Option (List AV)
  | [] => some []
  | (_, o) :: r => if (ev s o).solid H = true ∧ (ev s o).size = sz then
      match setEnum H s sz r with
      | some ys => some (ev s o :: ys)
      | none => none
    else none

theorem setEnum_ok {H : List Blk} {s : Slots} {sz : Nat} : ∀ (parts : List (Nat × Operand)) (k : Nat) (pre xs ys : List AV), isEnum k parts = true → pre.length = k → xs.length = parts.length → (∀ x ∈ xs, x.size = sz) →
    aBuild.setEnum H s sz parts = some ys → setParts H s parts (pre ++ xs) = some (pre ++ ys) := by
  intro parts
  induction parts with
  | nil =>
    intro k pre xs ys hi hp hx hz he
    simp only [aBuild.setEnum] at he; cases he
    obtain rfl := List.eq_nil_of_length_eq_zero hx
    rfl
  | cons p r ih =>
    intro k pre xs ys hi hp hx hz he
    obtain ⟨i, o⟩ := p
    simp only [isEnum, Bool.and_eq_true, beq_iff_eq] at hi
    obtain ⟨rfl, hi⟩ := hi
    simp only [aBuild.setEnum] at he
    split at he
    · rename_i hc
      split at he
      · rename_i ys' hys
        cases he
        cases xs with
        | nil => simp at hx
        | cons x xs =>
          simp only [setParts]
          rw [List.getElem?_append_right (by omega)]
          simp only [hp, Nat.sub_self, List.getElem?_cons_zero]
          rw [if_pos ⟨hc.1, by rw [hc.2]; exact (hz x (by simp)).symm⟩]
          have hset : (pre ++ x :: xs).set i (ev s o) = (pre ++ [ev s o]) ++ xs := by
            rw [← hp, List.set_append_right _ _ (Nat.le_refl _)]; simp
          rw [hset]
          have := ih (i + 1) (pre ++ [ev s o]) xs ys' hi (by simp [hp]) (by simpa using hx) (fun y hy => hz y (by simp [hy])) hys
          rw [this]; simp
      · cases he
    · cases he

theorem run_mapM_fields {P : Program} {E : Env} {w : World} : ∀ (fields : List Field), (∀ f ∈ fields, TyOk P E f.type) →
    (fields.mapM (fun f => do pure (f.offset, ← Go.sizeOf f.type)) : Sem (List (Nat × Nat))).run P w = .ok (fields.map fun f => (f.offset, (E f.type).size)) w := by
  intro fields
  induction fields with
  | nil => intro _; simp
  | cons f fields ih =>
    intro h
    have h1 := (h f (by simp)).sizeOf w
    simp only [List.mapM_cons, Sem.run_bind, h1, Result.andThen_ok, Sem.run_pure, ih (fun g hg => h g (by simp [hg])), List.map_cons]

theorem aBuild_ok {P : Program} {E : Env} (hE : EnvOk P E) (hB : ByteOk E) (hF : FitOk E) {c : Ctx} {m : Mem} {w : World} {H : List Blk} (h : Inv c m w H) {s : Slots} {ρ : Operand → Value} (hs : ∀ x, RelA m (ev s x) (ρ x))
    {t : TypeId} {parts : Array (Nat × Operand)} {v : AV} (hv : aBuild E H s t parts.toList = some v) :
    ∃ val, RelA m v val ∧ (Instr.build t (parts.map fun (i, x) => (i, ρ x))).run P w = .ok val w := by
  have hpm : (parts.map fun (i, x) => (i, ρ x)).toList = parts.toList.map fun p => (p.1, ρ p.2) := by simp
  unfold aBuild at hv
  split at hv
  · rename_i fs ht
    obtain ⟨⟨fields, d, hfs⟩, hto⟩ := hE.ty ht (by simp)
    split at hv
    case h_2 => cases hv
    rename_i zs hz
    split at hv
    case h_2 => cases hv
    rename_i xs hxs
    cases hv
    obtain ⟨i, z, hi, g1, g2, g3, g4, g5, g6⟩ := hto.info
    rw [hz] at g4
    obtain ⟨arr, rfl, hzw, hzs, hzr⟩ := g4.st_cells
    obtain ⟨m1, m2, m3⟩ := AV.mapT zs
    obtain ⟨fl1, fl2⟩ := fitL_ok fs zs 0 (hF t fs zs ht hz)
    have hfi : ∀ (i : Nat) (f : Field), fields.toList[i]? = some f → ∃ z, zs[i]? = some z ∧ f.offset = T.sizeL (zs.take i) ∧ z.size = (E f.type).size ∧ 0 < z.size := by
      intro i f hf
      obtain ⟨z, k1, k2, k3, k4⟩ := fl2 i (f.offset, f.type) (by rw [← hfs, List.getElem?_map, hf]; rfl)
      exact ⟨z, k1, by simpa using k2, k3, k4⟩
    have hty : ∀ f ∈ fields.toList, TyOk P E f.type := by
      intro f hf
      obtain ⟨i, hi⟩ := List.getElem?_of_mem hf
      obtain ⟨z, _, _, k3, k4⟩ := hfi i f hi
      exact hE.size k3.symm k4
    obtain ⟨arr', f1, f2, f3, f4, f5, f6⟩ := setParts_ok h hs (place := fun i => ((fields.toList.map fun f => (f.offset, (E f.type).size)).toArray)[i]?) parts.toList (zs.map .t) xs arr hxs (m3.2 hzw) (by rw [hzs, m2])
      (by
        intro j d hj
        rw [m1, List.getElem?_map, Option.map_eq_some_iff] at hj
        obtain ⟨d', hd', rfl⟩ := hj
        exact .t ((hzr j d' hd').mono (noM_le _)))
      (by
        intro i x hx
        rw [List.getElem?_map, Option.map_eq_some_iff] at hx
        obtain ⟨z, hz', rfl⟩ := hx
        have hlt := (List.getElem?_eq_some_iff.1 hz').1
        have hfl : fields.toList.length = zs.length := by rw [← fl1, ← hfs]; simp
        obtain ⟨z2, k1, k2, k3, k4⟩ := hfi i (fields.toList[i]'(by omega)) (List.getElem?_eq_getElem _)
        rw [hz'] at k1; cases k1
        simp only [List.getElem?_toArray, List.getElem?_map, List.getElem?_eq_getElem (show i < fields.toList.length by omega), Option.map_some]
        rw [← List.map_take, (AV.mapT _).2.1, k2, ← k3]; rfl)
    refine ⟨.agg arr', packV_ok (.st f2 f3 f6), ?_⟩
    have hmapM := run_mapM_fields (P := P) (E := E) (w := w) fields.toList hty
    simp only [Instr.build, Sem.run_bind, zeroValue, typeInfo, run_program, hi, g3, Sem.run_pure, Result.andThen_ok, Value.cells, run_underlying d]
    rw [Array.mapM_eq_mapM_toList]
    simp only [Sem.run_map, hmapM, hpm]
    simp only [Result.andThen_ok]
    rw [f1]; rfl
  · rename_i n0 e ht
    obtain ⟨d, hto⟩ := hE.ty ht (by simp)
    simp only [DescOk] at d
    split at hv
    case isFalse => cases hv
    rename_i hp
    have he := hE.size (t := e) rfl hp
    obtain ⟨i, z, hi, g1, g2, g3, g4, g5, g6⟩ := hto.info
    split at hv
    · rename_i n sz zs hz
      split at hv
      case isFalse => cases hv
      rename_i hsz
      subst hsz
      rw [hz] at g4
      have hzw := g4.wf
      simp only [T.wf] at hzw
      obtain ⟨hn, hzz, hzwl⟩ := hzw
      obtain ⟨arr, rfl, hzs, hzr⟩ := g4.ar_cells
      obtain ⟨m1, m2, m3⟩ := AV.mapT zs
      have hxs : ∃ xs ys, setParts H s parts.toList (zs.map .t) = some xs ∧ allT xs = some ys ∧ v = .t (.ar n (E e).size ys) := by
        split at hv
        · rename_i xs hx
          split at hv
          · rename_i ys hys
            cases hv
            split at hx
            · rename_i hc
              have := setEnum_ok parts.toList 0 [] (zs.map .t) xs hc.1 rfl (by simp [hc.2]) (by
                intro x hx; rw [List.mem_map] at hx; obtain ⟨z, hz, rfl⟩ := hx; exact hzz z hz) hx
              exact ⟨xs, ys, by simpa using this, hys, rfl⟩
            · exact ⟨xs, ys, hx, hys, rfl⟩
          · cases hv
        · cases hv
      obtain ⟨xs, ys, hx, hys, rfl⟩ := hxs
      obtain ⟨arr', f1, f2, f3, f4, f5, f6⟩ := setParts_ok h hs (place := fun i => some (i * (E e).size, (E e).size)) parts.toList (zs.map .t) xs arr hx (m3.2 hzwl) (by rw [hzs, m2, T.sizeL_const zs _ hzz, hn])
        (by
          intro j d hj
          rw [m1, List.getElem?_map, Option.map_eq_some_iff] at hj
          obtain ⟨d', hd', rfl⟩ := hj
          exact .t ((hzr j d' hd').mono (noM_le _)))
        (by
          intro i x hx
          rw [List.getElem?_map, Option.map_eq_some_iff] at hx
          obtain ⟨z, hz', rfl⟩ := hx
          have hlt := (List.getElem?_eq_some_iff.1 hz').1
          rw [← List.map_take, (AV.mapT _).2.1, sizeL_take_const hzz i (by omega)]
          simp only [AV.size, hzz z (List.mem_of_getElem? hz')])
      have hxe := allT_ok xs ys hys
      subst hxe
      obtain ⟨k1, k2, k3⟩ := AV.mapT ys
      have hyz : ∀ y ∈ ys, y.size = (E e).size := by
        intro y hy
        obtain ⟨j, hj⟩ := List.getElem?_of_mem hy
        have := congrArg (fun l => l[j]?) f5
        simp only [List.map_map, List.getElem?_map, hj, Option.map_some, Function.comp] at this
        cases hzj : zs[j]? with
        | none => rw [hzj] at this; cases this
        | some z =>
          rw [hzj] at this
          simp only [Option.map_some, Option.some.injEq, AV.size] at this
          rw [this]; exact hzz z (List.mem_of_getElem? hzj)
      have hyl : ys.length = n := by
        have := congrArg List.length f5
        simpa [hn] using this
      refine ⟨.agg arr', .t (.ar (by simp only [T.wf]; exact ⟨hyl, hyz, k3.1 f2⟩) (by rw [f3, k2, T.sizeL_const ys _ hyz, hyl]) fun i c hi => (f6 i (.t c) (by rw [k1]; simp [hi])).t_inv), ?_⟩
      simp only [Instr.build, Sem.run_bind, zeroValue, typeInfo, run_program, hi, g3, Sem.run_pure, Result.andThen_ok, Value.cells, run_underlying d, he.sizeOf, hpm]
      rw [f1]; rfl
    · rename_i n l hz
      split at hv
      case isFalse => cases hv
      rename_i hc
      obtain ⟨hs1, hu⟩ := hc
      split at hv
      case h_2 => cases hv
      rename_i l' hl'
      cases hv
      rw [hz] at g4
      obtain ⟨rfl, hl⟩ := g4.ba_form
      obtain ⟨p1, p2⟩ := byteParts_ok hs parts.toList _ _ hl'
      refine ⟨.agg (l'.map vu8).toArray, .t (.ba (by omega)), ?_⟩
      simp only [Instr.build, Sem.run_bind, zeroValue, typeInfo, run_program, hi, g3, Sem.run_pure, Result.andThen_ok, Value.cells, run_underlying d, he.sizeOf, hpm, hs1]
      rw [p2]; rfl
    · cases hv
  · cases hv

/-! ### Literals of slices. -/

def aBuildListG (E : Env) (H : List Blk) (s : Slots) (t : TypeId) (len : Nat) (parts : List (Nat × Operand)) : Option (AV × List Blk) :=
  match (E t).ty with
  | .sl e =>
    match immVL (freezeOnes H (AV.rowsL (parts.map fun p => ev s p.2))) (parts.map fun p => ev s p.2) with
    | some ys =>
      if isEnum 0 parts = true ∧ parts.length = len ∧ allSz (E e).size (ys.map fun y => tydT E y e) = true ∧ len ≤ 65536 ∧ 0 < len ∧ 0 < (E e).size ∧ (E e).size ≤ 256 then
        some (.own (freezeOnes H (AV.rowsL (parts.map fun p => ev s p.2))).length, freezeOnes H (AV.rowsL (parts.map fun p => ev s p.2)) ++ [.sq (E e).size (ys.map fun y => tydT E y e)])
      else none
    | none => none
  | _ => none

theorem immVL_list {c : Ctx} {m : Mem} {w : World} {H : List Blk} (h : Inv c m w H) : ∀ (xs : List AV) (us : List Value) (ys : List T), us.length = xs.length →
    (∀ (i : Nat) (x : AV), xs[i]? = some x → ∃ u, us[i]? = some u ∧ RelA m x u) → immVL H xs = some ys →
    us.length = ys.length ∧ ∀ (i : Nat) (t : T), ys[i]? = some t → ∃ u, us[i]? = some u ∧ RelT m.M t u := by
  intro xs
  induction xs with
  | nil => intro us ys hl hr hx; simp only [immVL] at hx; cases hx; exact ⟨by simpa using hl, fun i t h => by simp at h⟩
  | cons x xs ih =>
    intro us ys hl hr hx
    simp only [immVL] at hx
    split at hx
    · rename_i y hy
      split at hx
      · rename_i ys' hys
        cases hx
        cases us with
        | nil => simp at hl
        | cons u us =>
          obtain ⟨h1, h2⟩ := ih us ys' (by simpa using hl) (fun i x hi => by simpa using hr (i + 1) x (by simpa using hi)) hys
          refine ⟨by simp [h1], fun i t hi => ?_⟩
          cases i with
          | zero =>
            simp at hi; subst hi
            obtain ⟨u', hu', hr'⟩ := hr 0 x rfl
            simp at hu'; subst hu'
            exact ⟨u, rfl, immV_rel h hr' hy⟩
          | succ i => simpa using h2 i t (by simpa using hi)
      · cases hx
    · cases hx

theorem aBuildListG_ok {P : Program} {E : Env} (hE : EnvOk P E) {c : Ctx} {m : Mem} {w : World} {H : List Blk} (h : Inv c m w H) {s : Slots} {ρ : Operand → Value}
    (hs : ∀ x, RelA m (ev s x) (ρ x)) {t : TypeId} {len : Nat} {parts : Array (Nat × Operand)} {v : AV} {H' : List Blk} (hv : aBuildListG E H s t len parts.toList = some (v, H')) :
    ∃ m' w' val, Ext m m' ∧ Inv c m' w' H' ∧ RelA m' v val ∧ (Instr.buildSlice t len (parts.map fun (i, x) => (i, ρ x))).run P w = .ok val w' := by
  unfold aBuildListG at hv
  split at hv
  case h_2 => cases hv
  rename_i e ht
  split at hv
  case h_2 => cases hv
  rename_i ys hxs
  split at hv
  case isFalse => cases hv
  rename_i hc
  obtain ⟨hidx, hpl0, hall, hlen, hpos, hsz, hsz2⟩ := hc
  cases hv
  have d := (hE.ty ht (by simp)).1
  simp only [DescOk] at d
  obtain ⟨m1, e1, h1⟩ := freezeOnes_ok (AV.rowsL (parts.toList.map fun p => ev s p.2)) m H h
  obtain ⟨q1, q2⟩ := immVL_list h1 (parts.toList.map fun p => ev s p.2) (parts.toList.map fun p => ρ p.2) ys (by simp)
    (fun i x hi => by
      rw [List.getElem?_map] at hi
      cases hp : parts.toList[i]? with
      | none => rw [hp] at hi; cases hi
      | some p => rw [hp] at hi; cases hi; exact ⟨ρ p.2, by rw [List.getElem?_map, hp]; rfl, (hs p.2).mono e1⟩) hxs
  replace q2 : ∀ (i : Nat) (t : T), (ys.map fun y => tydT E y e)[i]? = some t → ∃ u, (parts.toList.map fun p => ρ p.2)[i]? = some u ∧ RelT m1.M t u := by
    intro i t hi
    rw [List.getElem?_map, Option.map_eq_some_iff] at hi
    obtain ⟨y, hy, rfl⟩ := hi
    obtain ⟨u, hu, hr⟩ := q2 i y hy
    exact ⟨u, hu, hr.typed E e⟩
  replace q1 : (parts.toList.map fun p => ρ p.2).length = (ys.map fun y => tydT E y e).length := by rw [q1, List.length_map]
  generalize (ys.map fun y => tydT E y e) = xs at *
  have hidx' : parts.toList.map (·.1) = List.range len := by rw [isEnum_ok _ _ hidx, hpl0, List.range_eq_range']
  have hpl : parts.toList.length = len := by have := congrArg List.length hidx'; simpa using this
  have hxl : xs.length = len := by rw [← q1]; simpa using hpl
  have hxz : ∀ x ∈ xs, x.size = (E e).size := allSz_ok xs hall
  have he := hE.size (t := e) rfl hsz
  obtain ⟨i, z, hi, g1, g2, g3, g4, g5, g6⟩ := he.info
  obtain ⟨v1, v2⟩ := g4.value_cells
  have hwf : ∀ x ∈ xs, x.wf := by
    intro x hx
    obtain ⟨j, hj⟩ := List.getElem?_of_mem hx
    obtain ⟨u, _, hu⟩ := q2 j x hj
    exact hu.wf
  have hus : ∀ u ∈ parts.toList.map (fun p => ρ p.2), u.cells.size = (E e).size := by
    intro u hu
    obtain ⟨j, hj⟩ := List.getElem?_of_mem hu
    have hjl : j < xs.length := by rw [← q1]; exact (List.getElem?_eq_some_iff.1 hj).1
    obtain ⟨u', hu', hr⟩ := q2 j xs[j] (List.getElem?_eq_getElem hjl)
    rw [hj] at hu'; cases hu'
    rw [hr.value_cells.1, hxz _ (List.getElem_mem hjl)]
  have hplist : (parts.map fun (i, x) => (i, ρ x)).toList = ((parts.toList.map fun p => ρ p.2).zipIdx 0).map fun x => (x.2, x.1) := by
    apply List.ext_getElem?
    intro j
    simp only [Array.toList_map, List.getElem?_map, List.getElem?_zipIdx]
    cases hp : parts.toList[j]? with
    | none => simp
    | some p =>
      have : (parts.toList.map (·.1))[j]? = some p.1 := by rw [List.getElem?_map, hp]; rfl
      rw [hidx', List.getElem?_range (by have := (List.getElem?_eq_some_iff.1 hp).1; omega)] at this
      have := Option.some.inj this
      simp [this]
  obtain ⟨arr, f1, f2, f3, f4⟩ := fill_list hsz (parts.toList.map fun p => ρ p.2) 0 ((Array.range (len * (E e).size)).map fun i => z.cells[i % z.cells.size]!) (by simp [hpl]) hus
  refine ⟨m1.push (.slice (some ⟨w.heap.size, 0, none⟩) len len), w.alloc (.cells arr e), .slice (some ⟨w.heap.size, 0, none⟩) len len, e1.trans (Ext.push m1 _),
    h1.fresh (w' := w.alloc (.cells arr e)) rfl rfl rfl (by simp) (fun b hb => heap_alloc_old w _ hb) ?_ (fun b _ hb => by cases hb; exact Nat.le_refl _), push_own h1.len _, ?_⟩
  · refine ⟨by simp only [T.wf]; exact ⟨hsz, by unfold maxLen; omega, hxz, (T.wfL_iff _).2 hwf⟩, .inr ⟨w.heap.size, len, arr, e, by rw [hxl], heap_alloc_new w _, by rw [f2]; simp, by omega, by unfold maxLen; omega, M_fresh h1 (Nat.le_refl _), fun j c' hj => ?_⟩⟩
    have hwl : T.wfL xs := (T.wfL_iff _).2 hwf
    have hjl := (List.getElem?_eq_some_iff.1 hj).1
    rw [T.cellsL_len xs hwl, T.sizeL_const xs _ hxz] at hjl
    have hdiv : j / (E e).size < xs.length := by rw [Nat.div_lt_iff_lt_mul hsz]; exact hjl
    have hmod := Nat.mod_lt j hsz
    have hdm := Nat.div_add_mod j (E e).size
    obtain ⟨u, hu1, hu2⟩ := q2 (j / (E e).size) xs[j / (E e).size] (List.getElem?_eq_getElem hdiv)
    have hcell := cellsL_get hwl (List.getElem?_eq_getElem hdiv) (j % (E e).size)
    have hcl : xs[j / (E e).size].cells.length = (E e).size := by rw [T.cells_len _ (hwf _ (List.getElem_mem hdiv)), hxz _ (List.getElem_mem hdiv)]
    have hcj := hcell _ (List.getElem?_eq_getElem (by rw [hcl]; exact hmod))
    have hpre : T.sizeL (xs.take (j / (E e).size)) + j % (E e).size = j := by
      rw [T.sizeL_const (xs.take _) _ (fun x hx => hxz x (List.mem_of_mem_take hx)), List.length_take, Nat.min_eq_left (by omega), Nat.mul_comm]; exact hdm
    rw [hpre, hj] at hcj
    obtain ⟨u', hu', hr'⟩ := hu2.value_cells.2 (j % (E e).size) c' (by rw [List.getElem?_eq_getElem (by rw [hcl]; exact hmod)]; exact hcj.symm)
    have := f4 (j / (E e).size) u hu1 (j % (E e).size) hmod
    rw [Nat.zero_add, Nat.mul_comm, hdm, hu'] at this
    exact ⟨u', this, hr'.mono (by intro b o hb; exact hb)⟩
  · simp only [Instr.buildSlice, Sem.run_bind, run_underlying d, he.sizeOf, Result.andThen_ok]
    rw [if_neg (by have := Nat.mul_le_mul hlen hsz2; omega)]
    have h0 : ¬ len * (E e).size = 0 := by
      intro h0; rcases Nat.mul_eq_zero.1 h0 with h | h <;> omega
    simp only [h0, if_false, Sem.run_bind, Sem.run_pure, Result.andThen_ok, zeroValue, typeInfo, run_program, hi, g3, hplist, newRow]
    rw [f1]
    simp


end Go.Fw

end
