/- The abstract machine, and the contracts of the code: part 23. -/
import Derived.Test.YtchljppcenckaaaFwS

section
/- Stores into rows and boxes, new boxes, values seen as trees. -/
namespace Go.Fw
set_option linter.unusedVariables false
set_option linter.unusedSimpArgs false
open Go

/-! ### nil, by the type that it stands for, in all parts of a value. -/

mutual
def tydT (E : Env) : T → TypeId → T
  | .nil, t => match (E t).ty with
    | .sl e => if (E e).ty = .int .u8 then .by [] else if 0 < (E e).size then .sq (E e).size [] else .nil
    | _ => .nil
  | .st xs, t => match (E t).ty with
    | .st fs => .st (tydTL E xs fs)
    | _ => .st xs
  | x, _ => x
def tydTL (E : Env) : List T → List (Nat × TypeId) → List T
  | [], _ => []
  | x :: xs, [] => x :: xs
  | x :: xs, f :: fs => tydT E x f.2 :: tydTL E xs fs
end

def TyTo (x y : T) : Prop := y.size = x.size ∧ (x.wf → y.wf ∧ ∀ (i : Nat) (d : T), y.cells[i]? = some d → ∃ c, x.cells[i]? = some c ∧ ∀ (M : Nat → Option Obj) (u : Value), RelT M c u → RelT M d u)

theorem TyTo.refl (x : T) : TyTo x x := ⟨rfl, fun h => ⟨h, fun i d h => ⟨d, h, fun _ _ h => h⟩⟩⟩

mutual
theorem tydT_ok (E : Env) : ∀ (x : T) (t : TypeId), TyTo x (tydT E x t)
  | .nil, t => by
    simp only [tydT]
    split
    · split
      · refine ⟨rfl, fun _ => ⟨by simp [T.wf], fun i d h => ?_⟩⟩
        have hlt := (List.getElem?_eq_some_iff.1 h).1
        simp [T.cells] at hlt; subst hlt
        simp [T.cells] at h; subst h
        exact ⟨.nil, rfl, fun M u hu => by cases hu; exact .byn⟩
      · split
        · rename_i hp
          refine ⟨rfl, fun _ => ⟨by simp [T.wf, T.wfL, hp], fun i d h => ?_⟩⟩
          have hlt := (List.getElem?_eq_some_iff.1 h).1
          simp [T.cells] at hlt; subst hlt
          simp [T.cells] at h; subst h
          exact ⟨.nil, rfl, fun M u hu => by cases hu; exact .sqn hp⟩
        · exact .refl _
    · exact .refl _
  | .st xs, t => by
    simp only [tydT]
    split
    · rename_i fs _
      obtain ⟨h1, h2⟩ := tydTL_ok E xs fs
      exact ⟨by simpa only [T.size] using h1, by simpa only [T.wf, T.cells] using h2⟩
    · exact .refl _
  | .int _ _, t => .refl _
  | .bool _, t => .refl _
  | .str _, t => .refl _
  | .nilp, t => .refl _
  | .nilf, t => .refl _
  | .fn _, t => .refl _
  | .op _, t => .refl _
  | .by _, t => .refl _
  | .sq _ _, t => .refl _
  | .ba _ _, t => .refl _
  | .ar _ _ _, t => .refl _
theorem tydTL_ok (E : Env) : ∀ (xs : List T) (fs : List (Nat × TypeId)), T.sizeL (tydTL E xs fs) = T.sizeL xs ∧ (T.wfL xs → T.wfL (tydTL E xs fs) ∧
    ∀ (i : Nat) (d : T), (T.cellsL (tydTL E xs fs))[i]? = some d → ∃ c, (T.cellsL xs)[i]? = some c ∧ ∀ (M : Nat → Option Obj) (u : Value), RelT M c u → RelT M d u)
  | [], _ => by rw [tydTL]; exact ⟨rfl, fun h => ⟨h, fun i d h => ⟨d, h, fun _ _ h => h⟩⟩⟩
  | x :: xs, [] => by rw [tydTL]; exact ⟨rfl, fun h => ⟨h, fun i d h => ⟨d, h, fun _ _ h => h⟩⟩⟩
  | x :: xs, f :: fs => by
    obtain ⟨h1, h2⟩ := tydT_ok E x f.2
    obtain ⟨g1, g2⟩ := tydTL_ok E xs fs
    simp only [tydTL, T.sizeL, T.wfL, T.cellsL]
    refine ⟨by omega, fun hw => ⟨⟨(h2 hw.1).1, (g2 hw.2).1⟩, fun i d h => ?_⟩⟩
    have e1 := T.cells_len x hw.1
    have e2 := T.cells_len _ (h2 hw.1).1
    rcases Nat.lt_or_ge i x.size with hlt | hge
    · rw [List.getElem?_append_left (by omega)] at h
      obtain ⟨c, hc, hr⟩ := (h2 hw.1).2 i d h
      exact ⟨c, by rw [List.getElem?_append_left (by omega)]; exact hc, hr⟩
    · rw [List.getElem?_append_right (by omega)] at h
      obtain ⟨c, hc, hr⟩ := (g2 hw.2).2 _ d h
      exact ⟨c, by rw [List.getElem?_append_right (by omega), show i - x.cells.length = i - (tydT E x f.2).cells.length by omega]; exact hc, hr⟩
end

theorem RelT.typed {M : Nat → Option Obj} {x : T} {v : Value} (h : RelT M x v) (E : Env) (t : TypeId) : RelT M (tydT E x t) v := by
  obtain ⟨h1, h2⟩ := tydT_ok E x t
  have hw := h.wf
  obtain ⟨h3, h4⟩ := h2 hw
  cases h with
  | nil =>
    obtain ⟨c, hc, hr⟩ := h4 0 (tydT E .nil t) (by
      have := T.cells_len _ h3
      simp only [tydT] at *
      split
      · split
        · rfl
        · split <;> rfl
      · rfl)
    simp [T.cells] at hc; subst hc
    exact hr M _ .nil
  | st hw' ha hr =>
    rename_i xs arr
    simp only [tydT] at *
    split
    · rename_i fs hfs
      rw [hfs] at h3 h4 h1
      refine .st h3 (by simp only [T.size] at h1; rw [ha, h1]) fun i d hd => ?_
      obtain ⟨c, hc, hcr⟩ := h4 i d (by simpa only [T.cells] using hd)
      exact hcr M _ (hr i c (by simpa only [T.cells] using hc))
    · exact .st hw' ha hr
  | int h => exact .int h
  | bool => exact .bool
  | str h => exact .str h
  | nilp => exact .nilp
  | nilf => exact .nilf
  | fn => exact .fn
  | op h => exact .op h
  | byn => exact .byn
  | «by» a b c d => exact .by a b c d
  | sqn h => exact .sqn h
  | sq a b c d g e f => exact .sq a b c d g e f
  | ba h => exact .ba h
  | ar a b c => exact .ar a b c

mutual
def tydV (E : Env) : AV → TypeId → AV
  | .t x, t => .t (tydT E x t)
  | .st xs, t => match (E t).ty with
    | .st fs => .st (tydVL E xs fs)
    | _ => .st xs
  | x, _ => x
def tydVL (E : Env) : List AV → List (Nat × TypeId) → List AV
  | [], _ => []
  | x :: xs, [] => x :: xs
  | x :: xs, f :: fs => tydV E x f.2 :: tydVL E xs fs
end

def VTo (x y : AV) : Prop := y.size = x.size ∧ (x.wf → y.wf ∧ ∀ (i : Nat) (d : AV), y.cells[i]? = some d → ∃ c, x.cells[i]? = some c ∧ ∀ (m : Mem) (u : Value), RelA m c u → RelA m d u)

theorem VTo.refl (x : AV) : VTo x x := ⟨rfl, fun h => ⟨h, fun i d h => ⟨d, h, fun _ _ h => h⟩⟩⟩

mutual
theorem tydV_ok (E : Env) : ∀ (x : AV) (t : TypeId), VTo x (tydV E x t)
  | .t x, t => by
    obtain ⟨h1, h2⟩ := tydT_ok E x t
    simp only [tydV]
    refine ⟨by simpa only [AV.size] using h1, fun hw => ⟨by simpa only [AV.wf] using (h2 (by simpa only [AV.wf] using hw)).1, fun i d h => ?_⟩⟩
    simp only [AV.cells, List.getElem?_map, Option.map_eq_some_iff] at h ⊢
    obtain ⟨d', hd, rfl⟩ := h
    obtain ⟨c, hc, hr⟩ := (h2 (by simpa only [AV.wf] using hw)).2 i d' hd
    exact ⟨.t c, ⟨c, hc, rfl⟩, fun m u hu => .t (hr m.M u hu.t_inv)⟩
  | .st xs, t => by
    simp only [tydV]
    split
    · rename_i fs _
      obtain ⟨h1, h2⟩ := tydVL_ok E xs fs
      exact ⟨by simpa only [AV.size] using h1, by simpa only [AV.wf, AV.cells] using h2⟩
    · exact .refl _
  | .any, t => .refl _
  | .und, t => .refl _
  | .own _, t => .refl _
  | .sub _ _ _ _ _ _, t => .refl _
  | .ptr _ _ _, t => .refl _
  | .ip _, t => .refl _
  | .ex _, t => .refl _
  | .tup _, t => .refl _
  | .clo _ _, t => .refl _
theorem tydVL_ok (E : Env) : ∀ (xs : List AV) (fs : List (Nat × TypeId)), AV.sizeL (tydVL E xs fs) = AV.sizeL xs ∧ (AV.wfL xs → AV.wfL (tydVL E xs fs) ∧
    ∀ (i : Nat) (d : AV), (AV.cellsL (tydVL E xs fs))[i]? = some d → ∃ c, (AV.cellsL xs)[i]? = some c ∧ ∀ (m : Mem) (u : Value), RelA m c u → RelA m d u)
  | [], _ => by rw [tydVL]; exact ⟨rfl, fun h => ⟨h, fun i d h => ⟨d, h, fun _ _ h => h⟩⟩⟩
  | x :: xs, [] => by rw [tydVL]; exact ⟨rfl, fun h => ⟨h, fun i d h => ⟨d, h, fun _ _ h => h⟩⟩⟩
  | x :: xs, f :: fs => by
    obtain ⟨h1, h2⟩ := tydV_ok E x f.2
    obtain ⟨g1, g2⟩ := tydVL_ok E xs fs
    simp only [tydVL, AV.sizeL, AV.wfL, AV.cellsL]
    refine ⟨by omega, fun hw => ⟨⟨(h2 hw.1).1, (g2 hw.2).1⟩, fun i d h => ?_⟩⟩
    have e1 := AV.cells_len x hw.1
    have e2 := AV.cells_len _ (h2 hw.1).1
    rcases Nat.lt_or_ge i x.size with hlt | hge
    · rw [List.getElem?_append_left (by omega)] at h
      obtain ⟨c, hc, hr⟩ := (h2 hw.1).2 i d h
      exact ⟨c, by rw [List.getElem?_append_left (by omega)]; exact hc, hr⟩
    · rw [List.getElem?_append_right (by omega)] at h
      obtain ⟨c, hc, hr⟩ := (g2 hw.2).2 _ d h
      exact ⟨c, by rw [List.getElem?_append_right (by omega), show i - x.cells.length = i - (tydV E x f.2).cells.length by omega]; exact hc, hr⟩
end

theorem RelA.typed {m : Mem} {x : AV} {v : Value} (h : RelA m x v) (E : Env) (t : TypeId) : RelA m (tydV E x t) v := by
  cases x with
  | t x => simp only [tydV]; exact .t (h.t_inv.typed E t)
  | st xs =>
    generalize hx0 : AV.st xs = x0 at h
    cases h <;> cases hx0
    rename_i arr hw ha hr
    simp only [tydV]
    split
    · rename_i fs hfs
      obtain ⟨h1, h2⟩ := tydVL_ok E xs fs
      obtain ⟨h3, h4⟩ := h2 hw
      refine .st h3 (by rw [ha, h1]) fun i d hd => ?_
      obtain ⟨c, hc, hcr⟩ := h4 i d hd
      exact hcr m _ (hr i c hc)
    · exact .st hw ha hr
  | _ => exact h

/-! ### A value as a tree, rows of the call's own in it being read only. -/

mutual
def AV.rows : AV → List Nat
  | .own i => [i]
  | .sub i _ _ _ _ _ => [i]
  | .st xs => AV.rowsL xs
  | _ => []
def AV.rowsL : List AV → List Nat
  | [] => []
  | x :: xs => x.rows ++ AV.rowsL xs
end

def immLeaf (o : Option T) : Option T :=
  match o with
  | some y => if y.isAgg = true then none else some y
  | none => none

mutual
def immV (H : List Blk) : AV → Option T
  | .t x => some x
  | .st xs => match immVL H xs with
    | some ys => some (.st ys)
    | none => none
  | v => immLeaf (immT H v)
def immVL (H : List Blk) : List AV → Option (List T)
  | [] => some []
  | x :: xs => match immV H x with
    | some y => match immVL H xs with
      | some ys => some (y :: ys)
      | none => none
    | none => none
end

theorem RelT.leaf_cells {M : Nat → Option Obj} {y : T} {u : Value} (h : RelT M y u) (ha : y.isAgg = false) : y.cells = [y] := T.cells_leaf ha

theorem T.size_leaf {y : T} (h : y.isAgg = false) : y.size = 1 := by cases y <;> first | rfl | simp [T.isAgg] at h

def ImmTo (c : Ctx) (m : Mem) (w : World) (H : List Blk) (x : AV) (y : T) : Prop :=
  y.size = x.size ∧ ((∀ (i : Nat) (d : AV), x.cells[i]? = some d → ∃ u, RelA m d u) → x.wf → y.wf ∧ ∀ (i : Nat) (d : T), y.cells[i]? = some d → ∃ c, x.cells[i]? = some c ∧ ∀ u, RelA m c u → RelT m.M d u)

mutual
theorem immV_ok {c : Ctx} {m : Mem} {w : World} {H : List Blk} (h : Inv c m w H) : ∀ (x : AV) (y : T), immV H x = some y → ImmTo c m w H x y
  | .t x, y, hy => by
    simp only [immV] at hy; cases hy
    refine ⟨rfl, fun _ hw => ⟨by simpa only [AV.wf] using hw, fun i d hd => ⟨.t d, by simp [AV.cells, hd], fun u hu => hu.t_inv⟩⟩⟩
  | .st xs, y, hy => by
    simp only [immV] at hy
    split at hy
    · rename_i ys hys
      cases hy
      obtain ⟨h1, h2⟩ := immVL_ok h xs ys hys
      exact ⟨by simpa only [T.size, AV.size] using h1, by simpa only [T.wf, AV.wf, T.cells, AV.cells] using h2⟩
    · cases hy
  | .any, y, hy => by simp [immV, immT, immLeaf] at hy
  | .und, y, hy => by simp [immV, immT, immLeaf] at hy
  | .own i, y, hy => immV_leaf h (.own i) y (by simpa only [immV] using hy) rfl rfl
  | .sub i p sz off lo len, y, hy => immV_leaf h (.sub i p sz off lo len) y (by simpa only [immV] using hy) rfl rfl
  | .ptr i o p, y, hy => by simp [immV, immT, immLeaf] at hy
  | .ip x, y, hy => by simp [immV, immT, immLeaf] at hy
  | .ex x, y, hy => immV_leaf h (.ex x) y (by simpa only [immV] using hy) rfl rfl
  | .tup xs, y, hy => by simp [immV, immT, immLeaf] at hy
  | .clo f xs, y, hy => by simp [immV, immT, immLeaf] at hy
theorem immV_leaf {c : Ctx} {m : Mem} {w : World} {H : List Blk} (h : Inv c m w H) (x : AV) (y : T) (hy : immLeaf (immT H x) = some y) (hc : x.cells = [x]) (hs : x.size = 1) : ImmTo c m w H x y := by
  unfold immLeaf at hy
  split at hy
  · rename_i y' hy'
    split at hy
    · cases hy
    · rename_i ha
      cases hy
      have ha' : y.isAgg = false := by simpa using ha
      refine ⟨by rw [T.size_leaf ha', hs], fun hex hw => ?_⟩
      obtain ⟨u, hu⟩ := hex 0 x (by rw [hc]; rfl)
      have hr := immT_ok h hu hy'
      refine ⟨hr.wf, fun i d hd => ?_⟩
      rw [T.cells_leaf ha'] at hd
      have hlt := (List.getElem?_eq_some_iff.1 hd).1
      simp at hlt; subst hlt
      simp at hd; subst hd
      exact ⟨x, by rw [hc]; rfl, fun u hu => immT_ok h hu hy'⟩
  · cases hy
theorem immVL_ok {c : Ctx} {m : Mem} {w : World} {H : List Blk} (h : Inv c m w H) : ∀ (xs : List AV) (ys : List T), immVL H xs = some ys → T.sizeL ys = AV.sizeL xs ∧
    ((∀ (i : Nat) (d : AV), (AV.cellsL xs)[i]? = some d → ∃ u, RelA m d u) → AV.wfL xs → T.wfL ys ∧ ∀ (i : Nat) (d : T), (T.cellsL ys)[i]? = some d → ∃ c, (AV.cellsL xs)[i]? = some c ∧ ∀ u, RelA m c u → RelT m.M d u)
  | [], ys, hy => by simp only [immVL] at hy; cases hy; exact ⟨rfl, fun _ _ => ⟨trivial, fun i d h => by simp [T.cellsL] at h⟩⟩
  | x :: xs, ys, hy => by
    simp only [immVL] at hy
    split at hy
    · rename_i y hy1
      split at hy
      · rename_i ys' hys
        cases hy
        obtain ⟨h1, h2⟩ := immV_ok h x y hy1
        obtain ⟨g1, g2⟩ := immVL_ok h xs ys' hys
        simp only [T.sizeL, AV.sizeL, T.wfL, AV.wfL, T.cellsL, AV.cellsL]
        refine ⟨by omega, fun hex hw => ?_⟩
        have e1 := AV.cells_len x hw.1
        have hex1 : ∀ (i : Nat) (d : AV), x.cells[i]? = some d → ∃ u, RelA m d u := fun i d hd => hex i d (by
          rw [List.getElem?_append_left (List.getElem?_eq_some_iff.1 hd).1]; exact hd)
        have hex2 : ∀ (i : Nat) (d : AV), (AV.cellsL xs)[i]? = some d → ∃ u, RelA m d u := fun i d hd => hex (x.cells.length + i) d (by
          rw [List.getElem?_append_right (by omega), show x.cells.length + i - x.cells.length = i by omega]; exact hd)
        obtain ⟨k1, k2⟩ := h2 hex1 hw.1
        obtain ⟨l1, l2⟩ := g2 hex2 hw.2
        have e2 := T.cells_len y k1
        refine ⟨⟨k1, l1⟩, fun i d hd => ?_⟩
        rcases Nat.lt_or_ge i x.size with hlt | hge
        · rw [List.getElem?_append_left (by omega)] at hd
          obtain ⟨c, hc, hr⟩ := k2 i d hd
          exact ⟨c, by rw [List.getElem?_append_left (by omega)]; exact hc, hr⟩
        · rw [List.getElem?_append_right (by omega)] at hd
          obtain ⟨c, hc, hr⟩ := l2 _ d hd
          exact ⟨c, by rw [List.getElem?_append_right (by omega), show i - x.cells.length = i - y.cells.length by omega]; exact hc, hr⟩
      · cases hy
    · cases hy
end

theorem immV_rel {c : Ctx} {m : Mem} {w : World} {H : List Blk} (h : Inv c m w H) {x : AV} {y : T} {v : Value} (hx : RelA m x v) (hy : immV H x = some y) : RelT m.M y v := by
  cases x with
  | t x => simp only [immV] at hy; cases hy; exact hx.t_inv
  | st xs =>
    have h0 := immV_ok h _ _ hy
    generalize hx0 : AV.st xs = x0 at hx
    cases hx <;> cases hx0
    rename_i arr hw ha hr
    simp only [immV] at hy
    split at hy
    · rename_i ys hys
      cases hy
      obtain ⟨h1, h2⟩ := h0
      simp only [T.size, AV.size, AV.cells, T.cells] at h1 h2
      obtain ⟨k1, k2⟩ := h2 (fun i d hd => ⟨_, hr i d hd⟩) (by simpa only [AV.wf] using hw)
      refine .st k1 (by rw [ha, h1]) fun i d hd => ?_
      obtain ⟨c, hc, hcr⟩ := k2 i d hd
      exact hcr _ (hr i c hc)
    · cases hy
  | _ =>
    simp only [immV] at hy
    unfold immLeaf at hy
    split at hy
    · rename_i y' hy'
      split at hy
      · cases hy
      · cases hy; exact immT_ok h hx hy'
    · cases hy

end Go.Fw

end
