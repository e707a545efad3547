/- The abstract machine, and the contracts of the code: part 28. -/
import Derived.Test.YtchljppcenckaaaFwT5

section
/- Append to a slice without room; copies into a part of an array or a row. -/
namespace Go.Fw
set_option linter.unusedVariables false
set_option linter.unusedSimpArgs false
open Go

def exFin (E : Env) (e : TypeId) (z : Option T) : Option AV :=
  match z with
  | some (.by l) => if (E e).size = 1 ∧ (E e).bytes ≤ 256 ∧ 0 < (E e).bytes ∧ l.length ≤ 549755813888 then some (.t (.by l)) else none
  | some (.sq sz xs) => if (E e).size = sz ∧ (E e).bytes ≤ 256 ∧ 0 < (E e).bytes ∧ xs.length ≤ 549755813888 then some (.t (.sq sz xs)) else none
  | _ => none

def aAppendEx (E : Env) (H : List Blk) (t u : TypeId) (x y : AV) : Option AV :=
  match (E t).ty with
  | .sl e => if isSlStr (E u).ty = true then
      match srcT H y with
      | some yT => match x with
        | .ex (.by l) => exFin E e (catT (.by l) yT)
        | .ex (.sq sz xs) => exFin E e (catT (.sq sz xs) yT)
        | _ => none
      | none => none
    else none
  | _ => none

theorem catT_none {x y z : T} (h : catT x y = some z) (hx : x.isRow = true) (hn : x ≠ .nil) {sz : Nat} {r : Row} (hr : y.row sz = some r) (h0 : r.n = 0) : z = x := by
  unfold catT at h
  split at h
  · exact (hn rfl).elim
  · exact (hn rfl).elim
  · exact (hn rfl).elim
  · cases h; rfl
  · cases h
    simp only [T.row] at hr; split at hr <;> cases hr
    rw [List.eq_nil_of_length_eq_zero h0, List.append_nil]
  · cases h
    simp only [T.row] at hr; split at hr <;> cases hr
    rw [List.eq_nil_of_length_eq_zero h0, List.append_nil]
  · cases h; rfl
  · split at h
    · rename_i hs
      cases h
      simp only [T.row] at hr; split at hr <;> cases hr
      rw [List.eq_nil_of_length_eq_zero h0, List.append_nil]
    · cases h
  · cases h

theorem run_append_zero {P : Program} {E : Env} {t u ty e : TypeId} (ht : P.underlying t = some (.slice e)) (hu : ∃ d, P.underlying u = some d ∧ ∀ k, d ≠ .int k) (he : TyOk P E e) {w : World}
    {a : Option Addr} {n cap : Nat} (hn : n ≤ cap) {x : Value} (hlen : (Builtin.lenOf x).run P w = .ok 0 w) (hnews : (Builtin.firstCells (E e).size 0 x).run P w = .ok #[] w) :
    (Builtin.append_ #[t, u] ty #[.slice a n cap, x]).run P w = .ok (.slice a n cap) w := by
  obtain ⟨d, hd, hk⟩ := hu
  have hz : (match d with | .int _ => true | _ => false) = false := by
    cases d <;> first | rfl | exact (hk _ rfl).elim
  simp only [Builtin.append_, Sem.run_bind, Sem.run_pure, List.getElem?_toArray, List.getElem?_cons_zero, List.getElem?_cons_succ, run_underlying ht, run_underlying hd, he.sizeOf, Result.andThen_ok, hz,
    Bool.false_eq_true, if_false, hlen, Nat.add_zero, hn, if_true, Bool.not_false, hnews]
  cases a <;> simp [storeCells]

/-- A row that lies in a block that nobody turns. -/
theorem RowRel.toT {M : Nat → Option Obj} {z : T} {sz : Nat} {r : Row} (hr : z.row sz = some r) (hz : (toBlk z).isRow = true) (hw : z.wf) {b cap : Nat} {cur : Array Value} {ty : TypeId} {fr : Nat × Nat} (hM : M b = some (.cells cur ty fr))
    (hcap : r.n ≤ cap) (hmax : cap ≤ maxLen) (hc : ∀ (j : Nat) (c : T), r.cs[j]? = some c → ∃ v, cur[j]? = some v ∧ RelT M c v) : RelT M z (.slice (some ⟨b, 0, none⟩) r.n cap) := by
  cases z with
  | «by» l =>
    simp only [T.row] at hr; split at hr <;> cases hr
    refine .by hM hcap hmax fun i c hi => ?_
    obtain ⟨v, hv, hrv⟩ := hc i (u8 c) (by simp [hi])
    rw [Nat.zero_add, hv, u8_rel hrv]
  | sq sz' xs =>
    simp only [T.row] at hr; split at hr <;> cases hr
    refine .sq hM hw hcap hmax (fun j => cur.getD j undef) ?_ ?_
    · intro j c hj; obtain ⟨u, hu, _⟩ := hc j c hj; simp [hu]
    · intro j c hj; obtain ⟨u, hu, hr⟩ := hc j c hj; rw [show cur.getD j undef = u by simp [hu]]; exact hr
  | _ => simp [toBlk, Blk.isRow] at hz

theorem aAppendEx_ok {P : Program} {E : Env} (hE : EnvOk P E) {c : Ctx} {m : Mem} {w : World} {H : List Blk} (h : Inv c m w H) {t u ty : TypeId} {x y v : AV} {a b : Value}
    (hx : RelA m x a) (hy : RelA m y b) (hv : aAppendEx E H t u x y = some v) :
    ∃ m' w' val, Ext m m' ∧ Inv c m' w' H ∧ RelA m' v val ∧ (Builtin.append_ #[t, u] ty #[a, b]).run P w = .ok val w' := by
  unfold aAppendEx at hv
  split at hv
  case h_2 => cases hv
  rename_i e ht
  have d := (hE.ty ht (by simp)).1
  simp only [DescOk] at d
  split at hv
  case isFalse => cases hv
  rename_i hu
  have du := isSlStr_ok hE hu
  split at hv
  case h_2 => cases hv
  rename_i yT hyT
  have main : ∀ (xT z : T) (n : Nat) (a0 : Option Addr), a = .slice a0 n n → RelT m.M xT a → (toBlk xT).isRow = true → xT ≠ .nil → xT.isRow = true → catT xT yT = some z → ∀ (r : Row), z.row (E e).size = some r → 0 < (E e).size → r.n ≤ 549755813888 → (E e).bytes ≤ 256 → 0 < (E e).bytes →
      (∀ r1, xT.row (E e).size = some r1 → r1.n = n) →
      ∃ m' w' val, Ext m m' ∧ Inv c m' w' H ∧ RelA m' (.t z) val ∧ (Builtin.append_ #[t, u] ty #[a, b]).run P w = .ok val w' := by
    intro xT z n a0 ha hxr hbl hne hrow hcat r hr hp hlen hbytes hb0 hn
    have he := hE.size (t := e) rfl hp
    have hn' : r.n ≤ maxLen := by unfold maxLen; omega
    -- the second row is read as bytes or elements of this size
    have hyrow : ∃ r2, yT.row (E e).size = some r2 := by
      cases xT <;> cases yT <;> simp [catT] at hcat <;> (try simp [toBlk, Blk.isRow] at hbl)
      all_goals first
        | exact ⟨_, rfl⟩
        | (subst hcat; simp only [T.row] at hr ⊢; split at hr <;> cases hr; rename_i hsz; exact ⟨_, by rw [if_pos hsz]⟩)
        | (obtain ⟨rfl, rfl⟩ := hcat; simp only [T.row] at hr ⊢; split at hr <;> cases hr; rename_i hsz; exact ⟨_, by rw [if_pos hsz]⟩)
    obtain ⟨r2, hr2⟩ := hyrow
    have hyr := srcT_ok h hy hyT hr2
    obtain ⟨z1, z2, r1, r2', q1, q2, q3, q4, q5⟩ := catT_row hcat hxr.wf hyr.wf hr hn'
    rw [hr2] at q2; cases q2
    have hn1 := hn r1 q1
    obtain ⟨_, _, news, hnl, hnlen, hnews, hone, hrel⟩ := hyr.firstCells (P := P) (w' := w) rfl hr2
    by_cases hm0 : r2.n = 0
    · obtain rfl := catT_none hcat hrow hne hr2 hm0
      rw [hm0] at hnlen hnews
      have hn0 : news = [] := List.eq_nil_of_length_eq_zero (by rw [hnl, hm0, Nat.zero_mul])
      subst hn0
      refine ⟨m, w, a, .refl m, h, .t hxr, ?_⟩
      rw [ha]
      exact run_append_zero d du he (Nat.le_refl _) hnlen hnews
    · have hxR := hxr.toR h.snap hrow
      obtain ⟨_, _, olds, hol, holen, holds, hoone, horel⟩ := hxR.firstCells (P := P) (w' := w.drew) rfl q1
      obtain ⟨_, _, news', hnl', hnlen', hnews', hone', hrel'⟩ := hyr.firstCells (P := P) (w' := w.drew) rfl hr2
      have hsz : (n + r2.n) * (E e).bytes ≤ 140737488355328 := by
        have : n + r2.n = r.n := by omega
        rw [this]
        exact Nat.le_trans (Nat.mul_le_mul hlen hbytes) (by decide)
      rw [hn1] at holds
      obtain ⟨cap, rest, g1, g2, g3, g4⟩ := run_append_new (ty := ty) (x := b) (news := news') (olds := olds) d du he ha hnlen holds hnews' (by omega) hsz (by omega) hb0
      obtain ⟨m', e1, h1, hM⟩ := h.publish (w' := w.drew.alloc (.cells (olds.toArray ++ news'.toArray ++ rest) e)) rfl rfl rfl (by simp) (fun b hb => heap_alloc_old w.drew _ hb) (heap_alloc_new w.drew _) (.inl rfl)
      refine ⟨m', _, _, e1, h1, ?_, g4⟩
      have hfin := RowRel.toT (M := m'.M) hr z1 z2 (cap := cap) hM (by omega) g2 (by
        intro j c' hj
        rw [q4] at hj
        have hcl : r1.cs.length = r1.n * (E e).size := (T.row_len q1 hxr.wf).2
        rcases Nat.lt_or_ge j r1.cs.length with hlt | hge
        · rw [List.getElem?_append_left hlt] at hj
          obtain ⟨v, hv, hrv⟩ := horel j c' hj
          refine ⟨v, ?_, hrv.mono e1.M⟩
          rw [Array.getElem?_append_left (by simp [hol]; omega), Array.getElem?_append_left (by simp [hol]; omega)]
          simpa using hv
        · rw [List.getElem?_append_right hge] at hj
          obtain ⟨v, hv, hrv⟩ := hrel' _ c' hj
          have hlt := (List.getElem?_eq_some_iff.1 hv).1
          refine ⟨v, ?_, hrv.mono e1.M⟩
          rw [Array.getElem?_append_left (by simp [hol]; omega), Array.getElem?_append_right (by simp [hol]; omega)]
          simp only [List.size_toArray, hol, List.getElem?_toArray]
          rw [← hcl]; exact hv)
      rw [show n + r2.n = r.n by omega]
      exact .t hfin
  have exv : ∀ y0, x = .ex y0 → ∃ a0 n, a = .slice a0 n n ∧ RelT m.M y0 a := by
    intro y0 hx0
    rw [hx0] at hx
    cases hx
    exact ⟨_, _, rfl, by assumption⟩
  split at hv
  · rename_i l
    obtain ⟨a0, n, ha, hr⟩ := exv _ rfl
    have hn : ∀ r1, (T.by l).row (E e).size = some r1 → r1.n = n := by
      intro r1 h1
      simp only [T.row] at h1; split at h1 <;> cases h1
      rw [ha] at hr; cases hr <;> rfl
    unfold exFin at hv
    split at hv
    · rename_i k hk
      split at hv
      · rename_i hc
        cases hv
        exact main _ _ n a0 ha hr rfl (by simp) rfl hk ⟨k.length, 1, k.map u8⟩ (by simp [T.row, hc.1]) (by omega) hc.2.2.2 hc.2.1 hc.2.2.1 hn
      · cases hv
    · rename_i sz xs hk; cases yT <;> simp [catT] at hk
    · cases hv
  · rename_i sz xs
    obtain ⟨a0, n, ha, hr⟩ := exv _ rfl
    have hn : ∀ r1, (T.sq sz xs).row (E e).size = some r1 → r1.n = n := by
      intro r1 h1
      simp only [T.row] at h1; split at h1 <;> cases h1
      rw [ha] at hr; cases hr <;> rfl
    unfold exFin at hv
    split at hv
    · rename_i k hk; cases yT <;> simp [catT] at hk
    · rename_i sz' ys hk
      split at hv
      · rename_i hc
        cases hv
        have hsz : sz' = sz := by cases yT <;> simp [catT] at hk <;> (first | exact hk.1.symm | exact hk.2.1.symm)
        have hw := hr.wf
        simp only [T.wf] at hw
        exact main _ _ n a0 ha hr rfl (by simp) rfl hk ⟨ys.length, sz', T.cellsL ys⟩ (by simp [T.row, hc.1]) (by omega) hc.2.2.2 hc.2.1 hc.2.2.1 hn
      · cases hv
    · cases hv
  · cases hv

theorem set_same {α : Type} {l : List α} {i : Nat} {x : α} (h : l[i]? = some x) : l.set i x = l := by
  apply List.ext_getElem?
  intro j
  rw [List.getElem?_set]
  split
  · rename_i e; subst e; rw [h]; simp [(List.getElem?_eq_some_iff.1 h).1]
  · rfl

theorem T.set_get (p : List Nat) : ∀ (x y : T), T.get x p = some y → T.set x p y = some x := by
  induction p with
  | nil => intro x y h; simp [T.get] at h; simp [T.set, h]
  | cons i p ih =>
    intro x y h
    cases x with
    | st xs =>
      simp only [T.get] at h; simp only [T.set]
      split at h
      · rename_i x1 hx1
        rw [hx1]
        simp only [ih x1 y h, set_same hx1]
      · cases h
    | ar n sz xs =>
      simp only [T.get] at h; simp only [T.set]
      split at h
      · rename_i x1 hx1
        rw [hx1]
        simp only [ih x1 y h, set_same hx1]
      · cases h
    | ba n l =>
      simp only [T.get] at h; simp only [T.set]
      split at h
      · rename_i c hc
        cases p with
        | nil =>
          simp [T.get, u8] at h
          subst h
          have hlt := (List.getElem?_eq_some_iff.1 hc).1
          simp only [baSet, if_pos hlt]
          congr 2
          have : UInt8.ofNat (c.toNat : Int).toNat = c := by simp
          rw [this]; exact set_same hc
        | cons j q => simp [T.get, u8] at h
      · cases h
    | _ => simp [T.get] at h

theorem AV.set_get (p : List Nat) : ∀ (x y : AV), AV.get x p = some y → AV.set x p y = some x := by
  induction p with
  | nil => intro x y h; simp [AV.get] at h; simp [AV.set, h]
  | cons i p ih =>
    intro x y h
    cases x with
    | st xs =>
      simp only [AV.get] at h; simp only [AV.set]
      split at h
      · rename_i x1 hx1
        rw [hx1]
        simp only [ih x1 y h, set_same hx1]
      · cases h
    | t x =>
      simp only [AV.get, Option.map_eq_some_iff] at h
      obtain ⟨q, hq, rfl⟩ := h
      have h1 := T.set_get (i :: p) x q hq
      cases x <;> first | (simp only [AV.set, AV.asT, h1]; done) | (simp [T.get] at hq; done)
    | _ => simp [AV.get] at h

theorem setSq_get {xs : List T} {p : List Nat} {y : T} (h : getSq xs p = some y) : setSq xs p y = some xs := by
  cases p with
  | nil => simp [getSq] at h
  | cons j q =>
    simp only [getSq] at h; simp only [setSq]
    split at h
    · rename_i hj
      rw [if_pos hj, T.set_get q _ _ h]
      simp only [set_same (show xs[j]? = some (xs.getD j default) by simp [hj])]
    · cases h

/-! ### Copies into a part. -/

/-- The first bytes replaced, from a place on. -/
def laid (l k : List UInt8) (lo n : Nat) : List UInt8 := l.take lo ++ k.take n ++ l.drop (lo + n)

def srcBytes (o : Option T) : Option (List UInt8) :=
  match o with
  | some (.by k) => some k
  | some (.str k) => some k
  | some .nil => some []
  | _ => none

/-- Bytes laid over the bytes at a path. -/
def Blk.lay : Blk → List Nat → List UInt8 → Nat → Nat → Option Blk
  | .by l, p, k, lo, n => match p with
    | [] => some (.by (laid l k lo n))
    | _ => none
  | .sq sz xs, p, k, lo, n => match getSq xs p with
    | some (.ba m l) => match setSq xs p (.ba m (laid l k lo n)) with
      | some xs' => some (.sq sz xs')
      | none => none
    | _ => none
  | .bx v, p, k, lo, n => match AV.get v p with
    | some (.t (.ba m l)) => match AV.set v p (.t (.ba m (laid l k lo n))) with
      | some v' => some (.bx v')
      | none => none
    | _ => none
  | _, _, _, _, _ => none

def Blk.layLen : Blk → List Nat → Option Nat
  | .by l, p => match p with
    | [] => some l.length
    | _ => none
  | .sq _ xs, p => match getSq xs p with
    | some (.ba _ l) => some l.length
    | _ => none
  | .bx v, p => match AV.get v p with
    | some (.t (.ba _ l)) => some l.length
    | _ => none
  | _, _ => none

def Blk.layOff : Blk → List Nat → Option Nat
  | .by _, _ => some 0
  | .sq sz xs, p => offSq sz xs p
  | .bx v, p => AV.off v p
  | _, _ => none

def aCopyG (E : Env) (H : List Blk) (t : TypeId) (x y : AV) : Option (AV × List Blk) :=
  match (E t).ty with
  | .sl e => if (E e).size = 1 then
      match x with
      | .sub i p sz off lo len => match srcBytes (srcT H y) with
        | some k => match H[i]? with
          | some B => match Blk.layLen B p, Blk.layOff B p, Blk.lay B p k lo (Nat.min k.length len) with
            | some m, some o, some B' => if sz = 1 ∧ off = o ∧ lo + len ≤ m then some (.t (.int .i64 (Nat.min k.length len : Nat)), H.set i B') else none
            | _, _, _ => none
          | none => none
        | none => none
      | _ => none
    else none
  | _ => none

theorem laid_len {l k : List UInt8} {lo n : Nat} (h1 : lo + n ≤ l.length) (h2 : n ≤ k.length) : (laid l k lo n).length = l.length := by
  simp only [laid, List.length_append, List.length_take, List.length_drop]; omega

theorem laid_patched {l k : List UInt8} {lo n : Nat} (h1 : lo + n ≤ l.length) (h2 : n ≤ k.length) (j : Nat) : (laid l k lo n)[j]? = if lo ≤ j ∧ j < lo + n then k[j - lo]? else l[j]? := by
  unfold laid
  have e1 : (l.take lo).length = lo := by rw [List.length_take]; omega
  have e2 : (k.take n).length = n := by rw [List.length_take]; omega
  rw [List.append_assoc]
  rcases Nat.lt_or_ge j lo with hlt | hge
  · rw [if_neg (by omega), List.getElem?_append_left (by omega), List.getElem?_take, if_pos hlt]
  · rw [List.getElem?_append_right (by omega), e1]
    rcases Nat.lt_or_ge j (lo + n) with h3 | h3
    · rw [if_pos (by omega), List.getElem?_append_left (by omega), List.getElem?_take, if_pos (by omega)]
    · rw [if_neg (by omega), List.getElem?_append_right (by omega), e2, List.getElem?_drop]
      rw [show lo + n + (j - lo - n) = j by omega]

theorem aCopyG_ok {P : Program} {E : Env} (hE : EnvOk P E) {c : Ctx} {m : Mem} {w : World} {H : List Blk} (h : Inv c m w H) {t u ty : TypeId} {x y v : AV} {a b : Value} {H' : List Blk}
    (hx : RelA m x a) (hy : RelA m y b) (hv : aCopyG E H t x y = some (v, H')) :
    ∃ m' w' val, Ext m m' ∧ Inv c m' w' H' ∧ RelA m' v val ∧ (Builtin.copy_ #[t, u] ty #[a, b]).run P w = .ok val w' := by
  unfold aCopyG at hv
  split at hv
  case h_2 => cases hv
  rename_i e ht
  have d := (hE.ty ht (by simp)).1
  simp only [DescOk] at d
  split at hv
  case isFalse => cases hv
  rename_i hsz
  have he := hE.size hsz (by omega)
  split at hv
  case h_2 => cases hv
  rename_i i p sz off lo len
  split at hv
  case h_2 => cases hv
  rename_i k hk
  split at hv
  case h_2 => cases hv
  rename_i B hB
  split at hv
  case h_2 => cases hv
  rename_i mm o B' hlen hoff hlay
  split at hv
  case isFalse => cases hv
  rename_i hc
  obtain ⟨rfl, rfl, hfit⟩ := hc
  cases hv
  obtain ⟨a', cap, rfl, hin, hl, hm, ha⟩ := hx.sub_inv
  -- the source
  have hsrc : (Builtin.lenOf b).run P w = .ok k.length w ∧ (Builtin.firstCells 1 (Nat.min k.length len) b).run P w = .ok ((k.take (Nat.min k.length len)).map vu8).toArray w := by
    unfold srcBytes at hk
    split at hk
    · rename_i k' hk'
      cases hk
      exact RelR.firstBytes (.inl (srcT_ok h hy hk' (sz := 1) (r := ⟨k.length, 1, k.map u8⟩) (by simp [T.row]))) _ (Nat.min_le_left _ _)
    · rename_i k' hk'
      cases hk
      exact RelR.firstBytes (.inr (srcT_ok h hy hk' (sz := 1) (r := ⟨k.length, 1, k.map u8⟩) (by simp [T.row]))) _ (Nat.min_le_left _ _)
    · rename_i hk'
      cases hk
      have hb := srcT_ok h hy hk' (sz := 1) (r := ⟨0, 1, []⟩) rfl
      cases hb
      have e0 : Nat.min ([] : List UInt8).length len = 0 := Nat.zero_min _
      rw [e0]
      exact ⟨by simp [Builtin.lenOf], by simp [Builtin.firstCells]⟩
    · cases hk
  obtain ⟨s1, s2⟩ := hsrc
  generalize hn : Nat.min k.length len = n at *
  have hnk : n ≤ k.length := by rw [← hn]; exact Nat.min_le_left _ _
  have hnl : n ≤ len := by rw [← hn]; exact Nat.min_le_right _ _
  have hcl : ((k.take n).map vu8).length = n := by rw [List.length_map, List.length_take]; omega
  have hres : RelA m (.t (.int .i64 (n : Nat))) (.int .i64 (n : Nat)) := .t (.int (by
    unfold maxLen at hm
    simp only [inK, IntKind.min, IntKind.max, IntKind.signed, IntKind.bits]; simp; omega))
  rcases ha with ⟨rfl, rfl, rfl⟩ | ⟨g, o', hg, rfl, ho'⟩
  · -- nothing is copied
    obtain rfl : n = 0 := by omega
    have hBB : B' = B := by
      have lz : ∀ l : List UInt8, laid l k lo 0 = l := fun l => by simp [laid]
      cases B with
      | «by» l => simp only [Blk.lay] at hlay; split at hlay <;> cases hlay; rw [lz]
      | sq sz' xs =>
        simp only [Blk.lay] at hlay
        split at hlay
        · rename_i m' l' hgl
          rw [lz] at hlay
          split at hlay
          · rename_i xs' hxs'
            cases hlay
            cases p with
            | nil => simp [getSq] at hgl
            | cons j q =>
              simp only [getSq] at hgl; simp only [setSq] at hxs'
              split at hgl
              · rename_i hj
                rw [if_pos hj] at hxs'
                split at hxs'
                · rename_i z hz
                  cases hxs'
                  have := T.set_get q _ _ hgl
                  rw [this] at hz; cases hz
                  congr 1
                  apply List.ext_getElem?
                  intro i'
                  rw [List.getElem?_set]
                  split
                  · rename_i e'; subst e'; simp [hj]
                  · rfl
                · cases hxs'
              · cases hgl
          · cases hlay
        · cases hlay
      | bx v =>
        simp only [Blk.lay] at hlay
        split at hlay
        · rename_i m' l' hgl
          rw [lz] at hlay
          split at hlay
          · rename_i v' hv'
            cases hlay
            rw [AV.set_get p _ _ hgl] at hv'; cases hv'; rfl
          · cases hlay
        · cases hlay
      | _ => simp [Blk.lay] at hlay
    subst hBB
    have hset : H.set i B' = H := by
      apply List.ext_getElem?
      intro j
      rw [List.getElem?_set]
      split
      · rename_i hj; subst hj; simp [(List.getElem?_eq_some_iff.1 hB).1]; exact (List.getElem?_eq_some_iff.1 hB).2.symm
      · rfl
    rw [hset]
    refine ⟨m, w, .int .i64 0, .refl m, h, hres, ?_⟩
    have e0 : Nat.min k.length 0 = 0 := Nat.min_zero _
    simp [Builtin.copy_, run_underlying d, s1, he.sizeOf, hsz, e0, s2, goInt]
  · have hlo : n ≠ 0 → o' = off + lo := fun hne => by have := ho' (by omega); omega
    -- what the block is in memory
    have hblk : ∃ (cur : Array Value) (e' : TypeId), w.heap[g]? = some (.cells cur e' (0, 0)) ∧ off + mm ≤ cur.size ∧ B.live = true ∧
        ∀ (w' : World) (cur' : Array Value), w'.heap[g]? = some (.cells cur' e' (0, 0)) → cur'.size = cur.size → (∀ j, cur'[j]? = if off + lo ≤ j ∧ j < off + lo + n then ((k.take n).map vu8)[j - (off + lo)]? else cur[j]?) → BlkOk m w' B' (m.η i) := by
      cases B with
      | «by» l =>
        simp only [Blk.layLen] at hlen; simp only [Blk.layOff] at hoff; simp only [Blk.lay] at hlay
        cases hoff
        split at hlen
        · cases hlen
          cases hlay
          rcases h.ok _ _ hB with ⟨hd, rfl⟩ | ⟨b', cap', cur, e', hd, hh, hs, hcap, hmx, hM, hcc⟩
          · rw [hd] at hg; cases hg
          · rw [hd] at hg; cases hg
            refine ⟨cur, e', hh, by omega, rfl, fun w' cur' hh' hs' hp => .inr ⟨b', cap', cur', e', by rw [laid_len (by omega) hnk]; exact hd, hh', by omega, by rw [laid_len (by omega) hnk]; exact hcap, hmx, hM, fun j c' hj => ?_⟩⟩
            rw [laid_patched (by omega) hnk] at hj
            rw [hp j]
            simp only [Nat.zero_add]
            by_cases hr : lo ≤ j ∧ j < lo + n
            · rw [if_pos hr] at hj ⊢
              rw [List.getElem?_map, List.getElem?_take, if_pos (by omega), hj]; rfl
            · rw [if_neg hr] at hj ⊢
              exact hcc j c' hj
        · cases hlen
      | sq sz' xs =>
        simp only [Blk.layLen] at hlen; simp only [Blk.layOff] at hoff; simp only [Blk.lay] at hlay
        split at hlen
        · rename_i m' l hgl
          cases hlen
          rw [hgl] at hlay
          simp only at hlay
          split at hlay
          · rename_i xs' hxs'
            cases hlay
            obtain ⟨hwf, hok⟩ := h.ok _ _ hB
            obtain ⟨hw1, hw2, hw3, hw4⟩ := (by simpa only [T.wf] using hwf : 0 < sz' ∧ xs.length ≤ maxLen ∧ (∀ x ∈ xs, x.size = sz') ∧ T.wfL xs)
            have hbw : (T.ba m' l).wf := by
              cases p with
              | nil => simp [getSq] at hgl
              | cons j q =>
                simp only [getSq] at hgl; simp only [offSq] at hoff
                split at hgl
                · rename_i hj
                  rw [if_pos hj] at hoff
                  split at hoff
                  · rename_i o2 ho2
                    exact (T.get_ok q _ _ o2 (wfL_get hw4 (i := j) (by simp [hj])) hgl ho2).1
                  · cases hoff
                · cases hgl
            have hbl : l.length = m' := by simpa only [T.wf] using hbw
            have hbw' : (T.ba m' (laid l k lo n)).wf := by simp only [T.wf]; rw [laid_len (by omega) hnk]; exact hbl
            obtain ⟨k1, k2, k3, k4, k5⟩ := setSq_ok hw3 hw4 hgl hoff hxs' hbw' rfl
            rcases hok with ⟨hd, rfl⟩ | ⟨b', cap', cur, e', hd, hh, hcs, hl', hm', hM, hcc⟩
            · rw [hd] at hg; cases hg
            · rw [hd] at hg; cases hg
              simp only [T.size] at k4
              have := Nat.mul_le_mul_right sz' hl'
              refine ⟨cur, e', hh, by omega, rfl, fun w' cur' hh' hs' hp => ⟨by simp only [T.wf]; exact ⟨hw1, by rw [k1]; exact hw2, k2, k3⟩, .inr ⟨b', cap', cur', e', by rw [k1]; exact hd, hh', by omega, by rw [k1]; exact hl', hm', hM, fun j c' hj => ?_⟩⟩⟩
              rw [k5 j] at hj
              rw [hp j]
              simp only [T.cells, List.length_map, laid_len (show lo + n ≤ l.length by omega) hnk] at hj
              by_cases hr : off ≤ j ∧ j < off + l.length
              · rw [if_pos hr, List.getElem?_map, laid_patched (by omega) hnk] at hj
                by_cases hr2 : off + lo ≤ j ∧ j < off + lo + n
                · rw [if_pos (show lo ≤ j - off ∧ j - off < lo + n by omega)] at hj
                  rw [if_pos hr2, List.getElem?_map, List.getElem?_take, if_pos (by omega)]
                  rw [show j - (off + lo) = j - off - lo by omega]
                  simp only [Option.map_eq_some_iff] at hj
                  obtain ⟨q, hq, rfl⟩ := hj
                  exact ⟨vu8 q, by rw [hq]; rfl, RelT_u8 q⟩
                · rw [if_neg (show ¬ (lo ≤ j - off ∧ j - off < lo + n) by omega)] at hj
                  rw [if_neg hr2]
                  refine hcc j c' ?_
                  -- the old bytes at this place
                  have hold : Patched (T.cellsL xs) (T.cellsL xs) off (T.ba m' l).cells := by
                    have hss : setSq xs p (.ba m' l) = some xs := setSq_get hgl
                    exact (setSq_ok hw3 hw4 hgl hoff hss hbw rfl).2.2.2.2
                  rw [hold j, if_pos (by simp only [T.cells, List.length_map]; exact hr)]
                  simp only [T.cells, List.getElem?_map]; exact hj
              · rw [if_neg hr] at hj
                rw [if_neg (by omega)]
                exact hcc j c' hj
          · cases hlay
        · cases hlen
      | bx v =>
        simp only [Blk.layLen] at hlen; simp only [Blk.layOff] at hoff; simp only [Blk.lay] at hlay
        split at hlen
        · rename_i m' l hgl
          cases hlen
          rw [hgl] at hlay
          simp only at hlay
          split at hlay
          · rename_i v' hv'
            cases hlay
            obtain ⟨b', cur, e', hd, hh, hM, hw, hcs, hcc⟩ := h.ok _ _ hB
            rw [hd] at hg; cases hg
            have hbw := (AV.get_ok p v _ off hw hgl hoff).1
            have hbl : l.length = m' := by simpa only [AV.wf, T.wf] using hbw
            have hbw' : (AV.t (T.ba m' (laid l k lo n))).wf := by simp only [AV.wf, T.wf]; rw [laid_len (by omega) hnk]; exact hbl
            obtain ⟨k1, k2, k3, k4⟩ := AV.set_ok p v _ _ v' off hw hgl hoff hv' hbw' rfl
            simp only [AV.size, T.size] at k3
            refine ⟨cur, e', hh, by omega, rfl, fun w' cur' hh' hs' hp => ⟨b', cur', e', hd, hh', hM, k1, by omega, fun j c' hj => ?_⟩⟩
            rw [k4 j] at hj
            rw [hp j]
            simp only [AV.cells, T.cells, List.length_map, laid_len (show lo + n ≤ l.length by omega) hnk] at hj
            by_cases hr : off ≤ j ∧ j < off + l.length
            · rw [if_pos hr, List.getElem?_map, List.getElem?_map, laid_patched (by omega) hnk] at hj
              by_cases hr2 : off + lo ≤ j ∧ j < off + lo + n
              · rw [if_pos (show lo ≤ j - off ∧ j - off < lo + n by omega)] at hj
                rw [if_pos hr2, List.getElem?_map, List.getElem?_take, if_pos (by omega)]
                rw [show j - (off + lo) = j - off - lo by omega]
                simp only [Option.map_eq_some_iff] at hj
                obtain ⟨q0, ⟨q, hq, rfl⟩, rfl⟩ := hj
                exact ⟨vu8 q, by rw [hq]; rfl, .t (RelT_u8 q)⟩
              · rw [if_neg (show ¬ (lo ≤ j - off ∧ j - off < lo + n) by omega)] at hj
                rw [if_neg hr2]
                refine hcc j c' ?_
                have hold : Patched v.cells v.cells off (AV.t (T.ba m' l)).cells := (AV.set_ok p v _ _ v off hw hgl hoff (AV.set_get p _ _ hgl) hbw rfl).2.2.2
                rw [hold j, if_pos (by simp only [AV.cells, T.cells, List.length_map]; exact hr)]
                simp only [AV.cells, T.cells, List.getElem?_map]; exact hj
            · rw [if_neg hr] at hj
              rw [if_neg (by omega)]
              exact hcc j c' hj
          · cases hlay
        · cases hlen
      | _ => simp [Blk.layLen] at hlen
    obtain ⟨cur, e', hh, hcap, hlive, hnew⟩ := hblk
    have hplace : ∃ o2, (n ≠ 0 → o2 = o') ∧ o2 = off + lo := ⟨off + lo, fun hne => (hlo hne).symm, rfl⟩
    by_cases hn0 : n = 0
    · subst hn0
      have hB2 := hnew w cur hh rfl (fun j => by rw [if_neg (by omega)])
      refine ⟨m, w, .int .i64 0, .refl m, h.upd (w' := w) hB hlive rfl rfl rfl rfl (fun _ _ => rfl) hB2, hres, ?_⟩
      simp only [List.take_zero, List.map_nil] at s2
      simp [Builtin.copy_, run_underlying d, s1, he.sizeOf, hsz, hn, s2, goInt, storeCells]
    · obtain rfl := hlo hn0
      have hst := run_storeCells_at P g (off + lo) e' ((k.take n).map vu8) 0 cur w hh (by rw [hcl]; omega) (by intro v hv; rw [List.mem_map] at hv; obtain ⟨c, _, rfl⟩ := hv; rfl)
      have hfit2 : off + lo + ((k.take n).map vu8).length ≤ cur.size := by rw [hcl]; omega
      refine ⟨m, w.setRow g _, .int .i64 (n : Nat), .refl m, h.upd (w' := w.setRow g _) hB hlive rfl rfl rfl (by simp [World.setRow]) (fun b0 hb0 => setRow_other w g b0 _ (fun he0 => hb0 (by rw [he0]; exact hg))) (hnew _ _ (setRow_heap w g cur _ e' _ hh) (patch_size hfit2) (fun j => by rw [patch_array hfit2, hcl])), hres, ?_⟩
      simp [Builtin.copy_, run_underlying d, s1, he.sizeOf, hsz, hn, s2, goInt, hst, -List.map_take]

end Go.Fw

end
