/- The abstract machine, and the contracts of the code: part 26. -/
import Derived.DeepKeys
import Derived.Laws.StructEq
import Derived.Test.YtchljppcenckaaaFwT3

section
/- Equality of values of several cells. -/
namespace Go.Fw
set_option linter.unusedVariables false
set_option linter.unusedSimpArgs false
open Go

mutual
def T.dep : T → Nat
  | .st xs => 1 + T.depL xs
  | .ar _ _ xs => 1 + T.depL xs
  | .ba _ _ => 2
  | _ => 1
def T.depL : List T → Nat
  | [] => 1
  | x :: xs => x.dep + T.depL xs
end

mutual
def eqT (E : Env) (q : List TypeId) : T → T → TypeId → Option Bool
  | .int k a, y, t => match y with
    | .int k' b => if (E t).ty = .int k ∧ k = k' then some (a == b) else none
    | _ => none
  | .bool a, y, t => match y with
    | .bool b => if (E t).ty = .bool then some (a == b) else none
    | _ => none
  | .str a, y, t => match y with
    | .str b => if (E t).ty = .str then some (a == b) else none
    | _ => none
  | .ba n l, y, t => match y with
    | .ba n' l' => match (E t).ty with
      | .arr m e => if m = n ∧ n = n' ∧ (E e).ty = .int .u8 then some (l == l') else none
      | _ => none
    | _ => none
  | .st xs, y, t => match y with
    | .st ys => match (E t).ty with
      | .st fs => if q.contains t = true then eqTL E q xs ys fs 0 else none
      | _ => none
    | _ => none
  | .ar n sz xs, y, t => match y with
    | .ar n' sz' ys => match (E t).ty with
      | .arr m e => if m = n ∧ n = n' ∧ sz = sz' ∧ (E e).size = sz ∧ 0 < sz then eqTA E q xs ys e else none
      | _ => none
    | _ => none
  | _, _, _ => none
def eqTL (E : Env) (q : List TypeId) : List T → List T → List (Nat × TypeId) → Nat → Option Bool
  | [], ys, fs, k => match ys, fs with
    | [], [] => some true
    | _, _ => none
  | x :: xs, ys, fs, k => match ys, fs with
    | y :: ys, f :: fs => if f.1 = k ∧ x.size = (E f.2).size ∧ y.size = x.size ∧ x.isAgg = (E f.2).ty.isAgg ∧ y.isAgg = x.isAgg ∧ 0 < (E f.2).size then
        match eqT E q x y f.2 with
        | some a => match eqTL E q xs ys fs (k + x.size) with
          | some b => some (a && b)
          | none => none
        | none => none
      else none
    | _, _ => none
def eqTA (E : Env) (q : List TypeId) : List T → List T → TypeId → Option Bool
  | [], ys, e => match ys with
    | [] => some true
    | _ => none
  | x :: xs, ys, e => match ys with
    | y :: ys => if x.isAgg = (E e).ty.isAgg ∧ y.isAgg = x.isAgg then
        match eqT E q x y e with
        | some a => match eqTA E q xs ys e with
          | some b => some (a && b)
          | none => none
        | none => none
      else none
    | _ => none
end

/-- What equality needs of a type. -/
def EqTy (P : Program) (t : TypeId) : Prop := P.eqGuardType P.depth t = false ∧ (∀ fs, P.underlying t = some (.struct fs) → P.stoodInHeld t = false ∧ ∀ f ∈ fs.toList, f.name ≠ "_")

theorem part_T {P : Program} {E : Env} {t : TypeId} (ht : TyOk P E t) {M : Nat → Option Obj} {w : World} {arr : Array Value} {o : Nat} {x : T} (hw : x.wf)
    (hr : ∀ (j : Nat) (c : T), x.cells[j]? = some c → RelT M c (arr.getD (o + j) undef)) (hfit : o + x.size ≤ arr.size) (hagg : x.isAgg = (E t).ty.isAgg) (hsz : x.size = (E t).size) :
    ∃ u, RelT M x u ∧ (part t arr o).run P w = .ok u w := by
  obtain ⟨u, g1, g2⟩ := part_ok ht (m := ⟨M, fun _ => undef, 0⟩) (w := w) (arr := arr) (o := o) (x := .t x) (by simpa only [AV.wf] using hw) (fun j c hj => by
    simp only [AV.cells, List.getElem?_map, Option.map_eq_some_iff] at hj
    obtain ⟨d, hd, rfl⟩ := hj
    exact .t (hr j d hd)) (by simpa only [AV.size] using hfit) (by simpa only [AV.isAgg] using hagg) (by simpa only [AV.size] using hsz) AV.agg_form
  exact ⟨u, g1.t_inv, g2⟩

theorem cellsOf_eq {P : Program} {E : Env} {t : TypeId} (ht : TyOk P E t) : P.cellsOf t = (E t).size := by
  obtain ⟨i, z, hi, h1, _⟩ := ht.info
  simp [Program.cellsOf, hi, h1]

theorem dep_pos : ∀ x : T, 0 < x.dep := by intro x; cases x <;> simp [T.dep] <;> omega
theorem depL_pos : ∀ xs : List T, 0 < T.depL xs := by
  intro xs; cases xs <;> simp [T.depL]
  rename_i x xs; have := dep_pos x; omega

mutual
theorem eqT_ok {P : Program} {E : Env} (hE : EnvOk P E) (hB : ByteOk E) {q : List TypeId} (hq : ∀ t ∈ q, EqTy P t) {M : Nat → Option Obj} : ∀ (x y : T) (t : TypeId) (r : Bool) (d : Nat) (w : World) (a b : Value), eqT E q x y t = some r → x.dep ≤ d → RelT M x a → RelT M y b →
    (Op.equalIn d t a b).run P w = .ok r w
  | .int k n, y, t, r, d, w, a, b, h, hd, hx, hy => by
    simp only [eqT] at h
    split at h
    · rename_i k' n'
      split at h
      · rename_i hc
        obtain ⟨ht, rfl⟩ := hc
        cases h
        have du := (hE.ty ht (by simp)).1
        simp only [DescOk] at du
        cases hx; cases hy
        obtain ⟨d, rfl⟩ : ∃ e, d = e + 1 := ⟨d - 1, by simp [T.dep] at hd; omega⟩
        simp [Op.equalIn, run_underlying du]
      · cases h
    · cases h
  | .bool n, y, t, r, d, w, a, b, h, hd, hx, hy => by
    simp only [eqT] at h
    split at h
    · split at h
      · rename_i ht
        cases h
        have du := (hE.ty ht (by simp)).1
        simp only [DescOk] at du
        cases hx; cases hy
        obtain ⟨d, rfl⟩ : ∃ e, d = e + 1 := ⟨d - 1, by simp [T.dep] at hd; omega⟩
        simp [Op.equalIn, run_underlying du]
      · cases h
    · cases h
  | .str n, y, t, r, d, w, a, b, h, hd, hx, hy => by
    simp only [eqT] at h
    split at h
    · rename_i n'
      split at h
      · rename_i ht
        cases h
        have du := (hE.ty ht (by simp)).1
        simp only [DescOk] at du
        cases hx; cases hy
        obtain ⟨d, rfl⟩ : ∃ e, d = e + 1 := ⟨d - 1, by simp [T.dep] at hd; omega⟩
        have : ((⟨n.toArray⟩ : ByteArray) == ⟨n'.toArray⟩) = (n == n') := by
          rw [beq_toListBytes]; simp [ByteArray.toList_eq]
        simp [Op.equalIn, run_underlying du, this]
      · cases h
    · cases h
  | .ba n l, y, t, r, d, w, a, b, h, hd, hx, hy => by
    simp only [eqT] at h
    split at h
    · rename_i n' l'
      split at h
      · rename_i m e ht
        split at h
        · rename_i hc
          obtain ⟨rfl, rfl, he⟩ := hc
          cases h
          obtain ⟨du, _⟩ := hE.ty ht (by simp)
          obtain ⟨de, heo⟩ := hE.ty he (by simp)
          simp only [DescOk] at du de
          obtain ⟨rfl, h1⟩ := hx.ba_form
          obtain ⟨rfl, h2⟩ := hy.ba_form
          obtain ⟨d, rfl⟩ : ∃ e, d = e + 1 + 1 := ⟨d - 2, by simp [T.dep] at hd; omega⟩
          obtain ⟨i, z, hi, g1, _⟩ := heo.info
          rw [run_equalIn_array w (d + 1) _ _ du hi]
          have key : ∀ (n k : Nat) (xs ys : List UInt8), xs.length = k + n → ys.length = k + n → (Op.eqItems (d + 1) e (P.cellsOf e) (xs.map vu8).toArray (ys.map vu8).toArray (List.range' k n)).run P w = .ok (xs.drop k == ys.drop k) w := by
            intro n
            induction n with
            | zero => intro k xs ys hx hy; simp [Op.eqItems, List.drop_eq_nil_of_le (show xs.length ≤ k by omega), List.drop_eq_nil_of_le (show ys.length ≤ k by omega)]
            | succ n ih =>
              intro k xs ys hx hy
              have hkx : k < xs.length := by omega
              have hky : k < ys.length := by omega
              have ec : P.cellsOf e = 1 := by rw [cellsOf_eq heo]; exact (hB e he).1
              have px : ∀ (zs : List UInt8) (hz : k < zs.length), (part e (zs.map vu8).toArray (k * P.cellsOf e)).run P w = .ok (vu8 zs[k]) w := by
                intro zs hz
                have hg : ((zs.map vu8).toArray)[k * P.cellsOf e]? = some (vu8 zs[k]) := by simp [ec, hz]
                simp only [part, Sem.run_bind, run_isAgg heo, he, Ty.isAgg, Result.andThen_ok, Bool.false_eq_true, if_false, hg, Sem.run_pure]
              rw [List.range'_succ]
              simp only [Op.eqItems, Sem.run_bind, px xs hkx, px ys hky, Result.andThen_ok]
              have e0 : (Op.equalIn (d + 1) e (vu8 xs[k]) (vu8 ys[k])).run P w = .ok (xs[k] == ys[k]) w := by
                have : ((xs[k].toNat : Int) == (ys[k].toNat : Int)) = (xs[k] == ys[k]) := by
                  rw [Bool.eq_iff_iff]
                  simp only [beq_iff_eq]
                  constructor
                  · intro h; exact UInt8.toNat_inj.1 (by omega)
                  · intro h; rw [h]
                simp [Op.equalIn, run_underlying de, vu8, this]
              rw [e0]
              have hdx : xs.drop k = xs[k] :: xs.drop (k + 1) := List.drop_eq_getElem_cons hkx
              have hdy : ys.drop k = ys[k] :: ys.drop (k + 1) := List.drop_eq_getElem_cons hky
              rw [hdx, hdy]
              simp only [Result.andThen_ok]
              by_cases hh : xs[k] = ys[k]
              · simp only [hh, beq_self_eq_true, Bool.not_true, Bool.false_eq_true, if_false]
                rw [ih (k + 1) xs ys (by omega) (by omega)]
                congr 1
                rw [Bool.eq_iff_iff]
                simp only [beq_iff_eq, List.cons.injEq, true_and]
              · have : (xs[k] == ys[k]) = false := by simpa using hh
                simp only [this, Bool.not_false, if_true, Sem.run_pure]
                congr 1
                symm
                rw [beq_eq_false_iff_ne]
                intro h0
                exact hh (List.cons.inj h0).1
          have := key m 0 l l' (by omega) (by omega)
          rw [List.range_eq_range']
          simpa using this
        · cases h
      · cases h
    · cases h
  | .st xs, y, t, r, d, w, a, b, h, hd, hx, hy => by
    simp only [eqT] at h
    split at h
    · rename_i ys
      split at h
      · rename_i fs ht
        split at h
        · rename_i hqt
          obtain ⟨⟨fields, du, hfs⟩, _⟩ := hE.ty ht (by simp)
          obtain ⟨_, hst⟩ := hq t (by simpa using hqt)
          obtain ⟨hsi, hnm⟩ := hst fields du
          obtain ⟨ax, rfl, wx, sx, rx⟩ := hx.st_cells
          obtain ⟨ay, rfl, wy, sy, ry⟩ := hy.st_cells
          obtain ⟨d, rfl⟩ : ∃ e, d = e + 1 := ⟨d - 1, by simp [T.dep] at hd; omega⟩
          have hfo : P.fieldsOf t = fields := by simp [Program.fieldsOf, du]
          rw [run_equalIn_struct w d t ax ay (by rw [hfo]; exact du) hsi, hfo]
          exact eqTL_ok hE hB hq xs ys fs 0 r d w ax ay fields.toList h (by simp only [T.dep] at hd; omega) hfs hnm wx wy
            (fun j c hj => by simpa using rx j c hj) (fun j c hj => by simpa using ry j c hj) (by omega) (by omega)
        · cases h
      · cases h
    · cases h
  | .ar n sz xs, y, t, r, d, w, a, b, h, hd, hx, hy => by
    simp only [eqT] at h
    split at h
    · rename_i n' sz' ys
      split at h
      · rename_i m e ht
        split at h
        · rename_i hc
          obtain ⟨rfl, rfl, rfl, hes, hp⟩ := hc
          obtain ⟨du, _⟩ := hE.ty ht (by simp)
          simp only [DescOk] at du
          have heo := hE.size hes hp
          have hwx := hx.wf
          have hwy := hy.wf
          simp only [T.wf] at hwx hwy
          obtain ⟨ax, rfl, sx, rx⟩ := hx.ar_cells
          obtain ⟨ay, rfl, sy, ry⟩ := hy.ar_cells
          obtain ⟨d, rfl⟩ : ∃ e, d = e + 1 := ⟨d - 1, by simp [T.dep] at hd; omega⟩
          obtain ⟨i, z, hi, g1, _⟩ := heo.info
          rw [run_equalIn_array w d _ _ du hi, List.range_eq_range']
          have := eqTA_ok hE hB hq xs ys e r d w ax ay 0 h (by simp only [T.dep] at hd; omega) heo hwx.2.2 hwy.2.2 (by rw [hes]; exact hwx.2.1) (by rw [hes]; exact hwy.2.1)
            (fun j c hj => by simpa using rx j c hj) (fun j c hj => by simpa using ry j c hj) (by rw [sx, hes, Nat.zero_add, hwx.1]; omega) (by rw [sy, hes, Nat.zero_add, hwy.1]; omega) (by rw [hwx.1, hwy.1])
          rw [hwx.1] at this
          exact this
        · cases h
      · cases h
    · cases h
  | .nilp, y, t, r, d, w, a, b, h, hd, hx, hy => by simp [eqT] at h
  | .nilf, y, t, r, d, w, a, b, h, hd, hx, hy => by simp [eqT] at h
  | .nil, y, t, r, d, w, a, b, h, hd, hx, hy => by simp [eqT] at h
  | .fn _, y, t, r, d, w, a, b, h, hd, hx, hy => by simp [eqT] at h
  | .op _, y, t, r, d, w, a, b, h, hd, hx, hy => by simp [eqT] at h
  | .by _, y, t, r, d, w, a, b, h, hd, hx, hy => by simp [eqT] at h
  | .sq _ _, y, t, r, d, w, a, b, h, hd, hx, hy => by simp [eqT] at h
theorem eqTL_ok {P : Program} {E : Env} (hE : EnvOk P E) (hB : ByteOk E) {q : List TypeId} (hq : ∀ t ∈ q, EqTy P t) {M : Nat → Option Obj} : ∀ (xs ys : List T) (fs : List (Nat × TypeId)) (k : Nat) (r : Bool) (d : Nat) (w : World) (ax ay : Array Value) (fields : List Field),
    eqTL E q xs ys fs k = some r → T.depL xs ≤ d → fields.map (fun f => (f.offset, f.type)) = fs → (∀ f ∈ fields, f.name ≠ "_") → T.wfL xs → T.wfL ys →
    (∀ (j : Nat) (c : T), (T.cellsL xs)[j]? = some c → RelT M c (ax.getD (k + j) undef)) → (∀ (j : Nat) (c : T), (T.cellsL ys)[j]? = some c → RelT M c (ay.getD (k + j) undef)) → k + T.sizeL xs ≤ ax.size → k + T.sizeL ys ≤ ay.size →
    (Op.eqFields d ax ay fields).run P w = .ok r w
  | [], ys, fs, k, r, d, w, ax, ay, fields, h, hd, hf, hn, wx, wy, rx, ry, sx, sy => by
    simp only [eqTL] at h
    split at h
    · cases h
      simp at hf; subst hf
      simp [Op.eqFields]
    · cases h
  | x :: xs, ys, fs, k, r, d, w, ax, ay, fields, h, hd, hf, hn, wx, wy, rx, ry, sx, sy => by
    simp only [eqTL] at h
    split at h
    · rename_i y ys' f fs'
      split at h
      · rename_i hc
        obtain ⟨c1, c2, c3, c4, c5, c6⟩ := hc
        split at h
        · rename_i ra hra
          split at h
          · rename_i rb hrb
            cases h
            cases fields with
            | nil => simp at hf
            | cons fl fields =>
              simp only [List.map_cons, List.cons.injEq] at hf
              obtain ⟨hf1, hf2⟩ := hf
              subst hf1
              simp only at c1 c2 c4 c6 hra
              simp only [T.wfL] at wx wy
              simp only [T.sizeL] at sx sy
              simp only [T.depL] at hd
              have ex := T.cells_len x wx.1
              have ey := T.cells_len y wy.1
              have ht := hE.size (t := fl.type) rfl c6
              obtain ⟨ux, gx1, gx2⟩ := part_T ht (M := M) (w := w) (arr := ax) (o := k) wx.1 (fun j c hj => rx j c (by
                simp only [T.cellsL]; rw [List.getElem?_append_left (List.getElem?_eq_some_iff.1 hj).1]; exact hj)) (by omega) c4 c2
              obtain ⟨uy, gy1, gy2⟩ := part_T ht (M := M) (w := w) (arr := ay) (o := k) wy.1 (fun j c hj => ry j c (by
                simp only [T.cellsL]; rw [List.getElem?_append_left (List.getElem?_eq_some_iff.1 hj).1]; exact hj)) (by omega) (by rw [c5, c4]) (by rw [c3, c2])
              have h1 := eqT_ok hE hB hq x y fl.type ra d w ux uy hra (by have := depL_pos xs; omega) gx1 gy1
              have h2 := eqTL_ok hE hB hq xs ys' fs' (k + x.size) rb d w ax ay fields hrb (by have := dep_pos x; omega) hf2 (fun f hf => hn f (by simp [hf])) wx.2 wy.2
                (fun j c hj => by
                  have := rx (x.size + j) c (by simp only [T.cellsL]; rw [List.getElem?_append_right (by omega), show x.size + j - x.cells.length = j by omega]; exact hj)
                  rwa [← Nat.add_assoc] at this)
                (fun j c hj => by
                  have := ry (y.size + j) c (by simp only [T.cellsL]; rw [List.getElem?_append_right (by omega), show y.size + j - y.cells.length = j by omega]; exact hj)
                  rwa [← Nat.add_assoc, c3] at this) (by omega) (by omega)
              have hne : fl.name ≠ "_" := hn fl (by simp)
              simp only [Op.eqFields, if_pos hne, Sem.run_bind, c1, gx2, gy2, Result.andThen_ok, h1]
              cases ra
              · simp
              · simp [h2]
          · cases h
        · cases h
      · cases h
    · cases h
theorem eqTA_ok {P : Program} {E : Env} (hE : EnvOk P E) (hB : ByteOk E) {q : List TypeId} (hq : ∀ t ∈ q, EqTy P t) {M : Nat → Option Obj} : ∀ (xs ys : List T) (e : TypeId) (r : Bool) (d : Nat) (w : World) (ax ay : Array Value) (k : Nat),
    eqTA E q xs ys e = some r → T.depL xs ≤ d → TyOk P E e → T.wfL xs → T.wfL ys → (∀ x ∈ xs, x.size = (E e).size) → (∀ x ∈ ys, x.size = (E e).size) →
    (∀ (j : Nat) (c : T), (T.cellsL xs)[j]? = some c → RelT M c (ax.getD (k * (E e).size + j) undef)) → (∀ (j : Nat) (c : T), (T.cellsL ys)[j]? = some c → RelT M c (ay.getD (k * (E e).size + j) undef)) →
    (k + xs.length) * (E e).size ≤ ax.size → (k + ys.length) * (E e).size ≤ ay.size → xs.length = ys.length → (Op.eqItems d e (P.cellsOf e) ax ay (List.range' k xs.length)).run P w = .ok r w
  | [], ys, e, r, d, w, ax, ay, k, h, hd, ht, wx, wy, zx, zy, rx, ry, sx, sy, hl => by
    simp only [eqTA] at h
    split at h
    · cases h; simp [Op.eqItems]
    · cases h
  | x :: xs, ys, e, r, d, w, ax, ay, k, h, hd, ht, wx, wy, zx, zy, rx, ry, sx, sy, hl => by
    simp only [eqTA] at h
    split at h
    · rename_i y ys'
      split at h
      · rename_i hc
        obtain ⟨c4, c5⟩ := hc
        split at h
        · rename_i ra hra
          split at h
          · rename_i rb hrb
            cases h
            simp only [T.wfL] at wx wy
            simp only [T.depL] at hd
            have ex := T.cells_len x wx.1
            have ey := T.cells_len y wy.1
            have hx0 := zx x (by simp)
            have hy0 := zy y (by simp)
            simp only [List.length_cons] at sx sy hl
            have m1 : (k + (xs.length + 1)) * (E e).size = k * (E e).size + (E e).size + xs.length * (E e).size := by rw [Nat.add_mul, Nat.add_mul]; omega
            have m2 : (k + (ys'.length + 1)) * (E e).size = k * (E e).size + (E e).size + ys'.length * (E e).size := by rw [Nat.add_mul, Nat.add_mul]; omega
            have m3 : (k + 1) * (E e).size = k * (E e).size + (E e).size := by rw [Nat.add_mul]; omega
            obtain ⟨ux, gx1, gx2⟩ := part_T ht (M := M) (w := w) (arr := ax) (o := k * (E e).size) wx.1 (fun j c hj => rx j c (by
              simp only [T.cellsL]; rw [List.getElem?_append_left (List.getElem?_eq_some_iff.1 hj).1]; exact hj)) (by omega) c4 hx0
            obtain ⟨uy, gy1, gy2⟩ := part_T ht (M := M) (w := w) (arr := ay) (o := k * (E e).size) wy.1 (fun j c hj => ry j c (by
              simp only [T.cellsL]; rw [List.getElem?_append_left (List.getElem?_eq_some_iff.1 hj).1]; exact hj)) (by omega) (by rw [c5, c4]) hy0
            have h1 := eqT_ok hE hB hq x y e ra d w ux uy hra (by have := depL_pos xs; omega) gx1 gy1
            have h2 := eqTA_ok hE hB hq xs ys' e rb d w ax ay (k + 1) hrb (by have := dep_pos x; omega) ht wx.2 wy.2 (fun x hx => zx x (by simp [hx])) (fun x hx => zy x (by simp [hx]))
              (fun j c hj => by
                have := rx (x.size + j) c (by simp only [T.cellsL]; rw [List.getElem?_append_right (by omega), show x.size + j - x.cells.length = j by omega]; exact hj)
                rw [m3]; rwa [← Nat.add_assoc, hx0] at this)
              (fun j c hj => by
                have := ry (y.size + j) c (by simp only [T.cellsL]; rw [List.getElem?_append_right (by omega), show y.size + j - y.cells.length = j by omega]; exact hj)
                rw [m3]; rwa [← Nat.add_assoc, hy0] at this) (by rw [Nat.add_mul, m3]; omega) (by rw [Nat.add_mul, m3]; omega) (by omega)
            simp only [List.length_cons, List.range'_succ, Op.eqItems, Sem.run_bind, cellsOf_eq ht, gx2, gy2, Result.andThen_ok, h1]
            rw [cellsOf_eq ht] at h2
            cases ra
            · simp
            · simp [h2]
          · cases h
        · cases h
      · cases h
    · cases h
end

end Go.Fw

end
