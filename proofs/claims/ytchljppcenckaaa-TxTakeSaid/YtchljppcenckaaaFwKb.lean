/- The abstract machine, and the contracts of the code: part 13. -/
import Derived.Test.YtchljppcenckaaaFwK

section
/- A literal of a slice whose elements are trees; what lies in memory of the call's own and goes into it is read only from then on. -/
namespace Go.Fw
open Go
set_option linter.unusedVariables false
set_option linter.unusedSimpArgs false

theorem put_cells : ∀ (l : List Value) (k off : Nat) (cells : Array Value), off + k + l.length ≤ cells.size →
    ∃ cells', (l.zipIdx k).foldl (fun cs (x : Value × Nat) => cs.setIfInBounds (off + x.2) x.1) cells = cells' ∧ cells'.size = cells.size ∧
      ∀ j, cells'[j]? = if off + k ≤ j ∧ j < off + k + l.length then l[j - (off + k)]? else cells[j]? := by
  intro l
  induction l with
  | nil => intro k off cells h; exact ⟨cells, rfl, rfl, fun j => by simp; omega⟩
  | cons x l ih =>
    intro k off cells h
    simp only [List.length_cons] at h
    obtain ⟨c', e, hs, hg⟩ := ih (k + 1) off (cells.setIfInBounds (off + k) x) (by simp; omega)
    refine ⟨c', by simpa [List.zipIdx_cons] using e, by simpa using hs, fun j => ?_⟩
    rw [hg j]
    by_cases h1 : off + (k + 1) ≤ j ∧ j < off + (k + 1) + l.length
    · rw [if_pos h1, if_pos (by simp only [List.length_cons]; omega)]
      rw [show j - (off + k) = j - (off + (k + 1)) + 1 by omega, List.getElem?_cons_succ]
    · rw [if_neg h1, Array.getElem?_setIfInBounds]
      by_cases h2 : off + k = j
      · rw [if_pos h2, if_pos (by omega), if_pos (by simp only [List.length_cons]; omega)]
        rw [show j - (off + k) = 0 by omega]; rfl
      · rw [if_neg h2, if_neg (by simp only [List.length_cons]; omega)]

theorem fill_list {sz : Nat} (hsz : 0 < sz) : ∀ (us : List Value) (k : Nat) (arr : Array Value), (k + us.length) * sz ≤ arr.size → (∀ u ∈ us, u.cells.size = sz) →
    ∃ arr', Instr.fill (fun i => some (i * sz, sz)) arr ((us.zipIdx k).map fun x => (x.2, x.1)) = some arr' ∧ arr'.size = arr.size ∧ (∀ j, j < k * sz → arr'[j]? = arr[j]?) ∧
      ∀ i u, us[i]? = some u → ∀ j, j < sz → arr'[(k + i) * sz + j]? = u.cells[j]? := by
  intro us
  induction us with
  | nil => intro k arr h hs; exact ⟨arr, rfl, rfl, fun _ _ => rfl, fun i u h => by simp at h⟩
  | cons u us ih =>
    intro k arr h hs
    have hu := hs u (by simp)
    have e1 : (k + (u :: us).length) * sz = k * sz + sz + us.length * sz := by simp only [List.length_cons, Nat.add_mul]; omega
    rw [e1] at h
    obtain ⟨c', e, hcs, hcg⟩ := put_cells u.cells.toList 0 (k * sz) arr (by simp [hu]; omega)
    obtain ⟨arr', f1, f2, f3, f4⟩ := ih (k + 1) c' (by rw [hcs]; simp only [Nat.add_mul]; omega) (fun v hv => hs v (by simp [hv]))
    have hfold : u.cells.zipIdx.foldl (fun cs (x : Value × Nat) => cs.setIfInBounds (k * sz + x.2) x.1) arr = c' := by
      rw [← Array.foldl_toList, Array.toList_zipIdx]; exact e
    refine ⟨arr', ?_, by rw [f2, hcs], fun j hj => ?_, fun i v hi j hj => ?_⟩
    · simp only [List.zipIdx_cons, List.map_cons, Instr.fill]
      rw [if_neg (by simp [hu]; omega)]
      rw [← f1]; congr 1
    · rw [f3 j (by rw [Nat.add_mul]; omega), hcg j, if_neg (by omega)]
    · cases i with
      | zero =>
        simp only [List.getElem?_cons_zero, Option.some.injEq] at hi; subst hi
        rw [Nat.add_zero, f3 _ (by rw [Nat.add_mul]; omega), hcg, if_pos (by simp [hu]; omega)]
        rw [show k * sz + j - (k * sz + 0) = j by omega]; simp
      | succ i =>
        rw [show k + (i + 1) = k + 1 + i by omega]
        exact f4 i v (by simpa using hi) j hj

def isEnum : Nat → List (Nat × Operand) → Bool
  | _, [] => true
  | k, (i, _) :: r => i == k && isEnum (k + 1) r

theorem isEnum_ok : ∀ (l : List (Nat × Operand)) (k : Nat), isEnum k l = true → l.map (·.1) = List.range' k l.length
  | [], _, _ => rfl
  | (i, x) :: r, k, h => by
    simp only [isEnum, Bool.and_eq_true, beq_iff_eq] at h
    simp [List.range'_succ, isEnum_ok r (k + 1) h.2, h.1]

def allSz (sz : Nat) : List T → Bool
  | [] => true
  | x :: xs => x.size == sz && allSz sz xs

theorem allSz_ok {sz : Nat} : ∀ (xs : List T), allSz sz xs = true → ∀ x ∈ xs, x.size = sz
  | [], _ => by simp
  | y :: ys, h => by
    simp only [allSz, Bool.and_eq_true, beq_iff_eq] at h
    intro x hx
    rcases List.mem_cons.1 hx with rfl | hx
    · exact h.1
    · exact allSz_ok ys h.2 x hx

def aBuildList (E : Env) (H : List Blk) (s : Slots) (t : TypeId) (len : Nat) (parts : List (Nat × Operand)) : Option (AV × List Blk) :=
  match (E t).ty with
  | .sl e =>
    match immArgs (freezeAll H (parts.map fun p => ev s p.2)) (parts.map fun p => ev s p.2) with
    | some xs =>
      if isEnum 0 parts = true ∧ parts.length = len ∧ allSz (E e).size xs = true ∧ len ≤ 65536 ∧ 0 < len ∧ 0 < (E e).size ∧ (E e).size ≤ 256 then
        some (.own (freezeAll H (parts.map fun p => ev s p.2)).length, freezeAll H (parts.map fun p => ev s p.2) ++ [.sq (E e).size xs])
      else none
    | none => none
  | _ => none

theorem aBuildList_ok {P : Program} {E : Env} (hE : EnvOk P E) {c : Ctx} {m : Mem} {w : World} {H : List Blk} (h : Inv c m w H) {s : Slots} {ρ : Operand → Value}
    (hs : ∀ x, RelA m (ev s x) (ρ x)) {t : TypeId} {len : Nat} {parts : Array (Nat × Operand)} {v : AV} {H' : List Blk} (hv : aBuildList E H s t len parts.toList = some (v, H')) :
    ∃ m' w' val, Ext m m' ∧ Inv c m' w' H' ∧ RelA m' v val ∧ (Instr.buildSlice t len (parts.map fun (i, x) => (i, ρ x))).run P w = .ok val w' := by
  unfold aBuildList at hv
  split at hv
  case h_2 => cases hv
  rename_i e ht
  split at hv
  case h_2 => cases hv
  rename_i xs hxs
  split at hv
  case isFalse => cases hv
  rename_i hc
  obtain ⟨hidx, hpl0, hall, hlen, hpos, hsz, hsz2⟩ := hc
  cases hv
  have d := (hE.ty ht (by simp)).1
  simp only [DescOk] at d
  obtain ⟨m1, e1, h1⟩ := freezeAll_ok (parts.toList.map fun p => ev s p.2) m H h
  obtain ⟨q1, q2⟩ := immArgs_ok h1 (parts.toList.map fun p => ev s p.2) (parts.toList.map fun p => ρ p.2) xs (by simp)
    (fun i x hi => by
      rw [List.getElem?_map] at hi
      cases hp : parts.toList[i]? with
      | none => rw [hp] at hi; cases hi
      | some p => rw [hp] at hi; cases hi; exact ⟨ρ p.2, by rw [List.getElem?_map, hp]; rfl, (hs p.2).mono e1⟩) hxs
  have hidx' : parts.toList.map (·.1) = List.range len := by rw [isEnum_ok _ _ hidx, hpl0, List.range_eq_range']
  have hpl : parts.toList.length = len := by have := congrArg List.length hidx'; simpa using this
  have hxl : xs.length = len := by rw [← q1]; simpa using hpl
  have hxz : ∀ x ∈ xs, x.size = (E e).size := allSz_ok xs hall
  have he := hE.size (t := e) rfl hsz
  obtain ⟨i, z, hi, g1, g2, g3, g4, g5, g6⟩ := he.info
  obtain ⟨v1, v2⟩ := g4.value_cells
  have hwf : ∀ x ∈ xs, x.wf := by
    intro x hx
    obtain ⟨j, hj⟩ := List.getElem?_of_mem hx
    obtain ⟨u, _, hu⟩ := q2 j x hj
    exact hu.wf
  have hus : ∀ u ∈ parts.toList.map (fun p => ρ p.2), u.cells.size = (E e).size := by
    intro u hu
    obtain ⟨j, hj⟩ := List.getElem?_of_mem hu
    have hjl : j < xs.length := by rw [← q1]; exact (List.getElem?_eq_some_iff.1 hj).1
    obtain ⟨u', hu', hr⟩ := q2 j xs[j] (List.getElem?_eq_getElem hjl)
    rw [hj] at hu'; cases hu'
    rw [hr.value_cells.1, hxz _ (List.getElem_mem hjl)]
  have hplist : (parts.map fun (i, x) => (i, ρ x)).toList = ((parts.toList.map fun p => ρ p.2).zipIdx 0).map fun x => (x.2, x.1) := by
    apply List.ext_getElem?
    intro j
    simp only [Array.toList_map, List.getElem?_map, List.getElem?_zipIdx]
    cases hp : parts.toList[j]? with
    | none => simp
    | some p =>
      have : (parts.toList.map (·.1))[j]? = some p.1 := by rw [List.getElem?_map, hp]; rfl
      rw [hidx', List.getElem?_range (by have := (List.getElem?_eq_some_iff.1 hp).1; omega)] at this
      have := Option.some.inj this
      simp [this]
  obtain ⟨arr, f1, f2, f3, f4⟩ := fill_list hsz (parts.toList.map fun p => ρ p.2) 0 ((Array.range (len * (E e).size)).map fun i => z.cells[i % z.cells.size]!) (by simp [hpl]) hus
  refine ⟨m1.push (.slice (some ⟨w.heap.size, 0, none⟩) len len), w.alloc (.cells arr e), .slice (some ⟨w.heap.size, 0, none⟩) len len, e1.trans (Ext.push m1 _),
    h1.fresh (w' := w.alloc (.cells arr e)) rfl rfl rfl (by simp) (fun b hb => heap_alloc_old w _ hb) ?_ (fun b _ hb => by cases hb; exact Nat.le_refl _), push_own h1.len _, ?_⟩
  · refine ⟨by simp only [T.wf]; exact ⟨hsz, by unfold maxLen; omega, hxz, (T.wfL_iff _).2 hwf⟩, .inr ⟨w.heap.size, len, arr, e, by rw [hxl], heap_alloc_new w _, by rw [f2]; simp, by omega, by unfold maxLen; omega, M_fresh h1 (Nat.le_refl _), fun j c' hj => ?_⟩⟩
    have hwl : T.wfL xs := (T.wfL_iff _).2 hwf
    have hjl := (List.getElem?_eq_some_iff.1 hj).1
    rw [T.cellsL_len xs hwl, T.sizeL_const xs _ hxz] at hjl
    have hdiv : j / (E e).size < xs.length := by rw [Nat.div_lt_iff_lt_mul hsz]; exact hjl
    have hmod := Nat.mod_lt j hsz
    have hdm := Nat.div_add_mod j (E e).size
    obtain ⟨u, hu1, hu2⟩ := q2 (j / (E e).size) xs[j / (E e).size] (List.getElem?_eq_getElem hdiv)
    have hcell := cellsL_get hwl (List.getElem?_eq_getElem hdiv) (j % (E e).size)
    have hcl : xs[j / (E e).size].cells.length = (E e).size := by rw [T.cells_len _ (hwf _ (List.getElem_mem hdiv)), hxz _ (List.getElem_mem hdiv)]
    have hcj := hcell _ (List.getElem?_eq_getElem (by rw [hcl]; exact hmod))
    have hpre : T.sizeL (xs.take (j / (E e).size)) + j % (E e).size = j := by
      rw [T.sizeL_const (xs.take _) _ (fun x hx => hxz x (List.mem_of_mem_take hx)), List.length_take, Nat.min_eq_left (by omega), Nat.mul_comm]; exact hdm
    rw [hpre, hj] at hcj
    obtain ⟨u', hu', hr'⟩ := hu2.value_cells.2 (j % (E e).size) c' (by rw [List.getElem?_eq_getElem (by rw [hcl]; exact hmod)]; exact hcj.symm)
    have := f4 (j / (E e).size) u hu1 (j % (E e).size) hmod
    rw [Nat.zero_add, Nat.mul_comm, hdm, hu'] at this
    exact ⟨u', this, hr'.mono (by intro b o hb; exact hb)⟩
  · simp only [Instr.buildSlice, Sem.run_bind, run_underlying d, he.sizeOf, Result.andThen_ok]
    rw [if_neg (by have := Nat.mul_le_mul hlen hsz2; omega)]
    have h0 : ¬ len * (E e).size = 0 := by
      intro h0; rcases Nat.mul_eq_zero.1 h0 with h | h <;> omega
    simp only [h0, if_false, Sem.run_bind, Sem.run_pure, Result.andThen_ok, zeroValue, typeInfo, run_program, hi, g3, hplist, newRow]
    rw [f1]
    simp

end Go.Fw

end
