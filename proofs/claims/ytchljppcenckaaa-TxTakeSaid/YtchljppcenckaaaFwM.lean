/- The abstract machine, and the contracts of the code: part 15. -/
import Derived.Test.YtchljppcenckaaaFwL

section
/- Other numbers for blocks, nil taken for a row, the entry and the end of a function. -/
namespace Go.Fw
set_option linter.unusedVariables false
set_option linter.unusedSimpArgs false
open Go

section
variable {kp : Nat}

def idx (i : Nat) : List Nat → Option Nat
  | [] => none
  | j :: r => if i = j then some 0 else match idx i r with
    | some k => some (k + 1)
    | none => none

theorem idx_ok {i k : Nat} {l : List Nat} (h : idx i l = some k) : l[k]? = some i := by
  induction l generalizing k with
  | nil => simp [idx] at h
  | cons j r ih =>
    simp only [idx] at h
    split at h
    · rename_i e; cases h; simp [e]
    · split at h
      · rename_i k' hk; cases h; simpa using ih hk
      · cases h

mutual
def AV.ren (ids : List Nat) : AV → AV
  | .own i => match idx i ids with
    | some k => .own k
    | none => .any
  | .sub i p sz off lo len => match idx i ids with
    | some k => .sub k p sz off lo len
    | none => .any
  | .ptr i off p => match idx i ids with
    | some k => .ptr k off p
    | none => .any
  | .st xs => .st (AV.renL ids xs)
  | .tup xs => .tup (AV.renL ids xs)
  | .clo f xs => .clo f (AV.renL ids xs)
  | .any => .any
  | .und => .und
  | .t x => .t x
  | .ip x => .ip x
  | .ex x => .ex x
def AV.renL (ids : List Nat) : List AV → List AV
  | [] => []
  | x :: xs => x.ren ids :: AV.renL ids xs
end

def Blk.ren (ids : List Nat) : Blk → Blk
  | .bx v => .bx (v.ren ids)
  | B => B

mutual
theorem AV.ren_size (ids : List Nat) : ∀ (x : AV), (x.ren ids).size = x.size ∧ ((x.ren ids).wf ↔ x.wf) ∧ (x.ren ids).cells = x.cells.map (AV.ren ids)
  | .st xs => by
    obtain ⟨h1, h2, h3⟩ := AV.renL_size ids xs
    simp only [AV.ren, AV.size, AV.wf, AV.cells]
    exact ⟨h1, h2, h3⟩
  | .t x => by simp [AV.ren, AV.cells]
  | .any => by simp [AV.ren, AV.cells]
  | .und => by simp [AV.ren, AV.cells]
  | .own i => by simp only [AV.ren]; split <;> simp [AV.cells, AV.size, AV.wf, AV.ren, *]
  | .sub i _ _ _ _ _ => by simp only [AV.ren]; split <;> simp [AV.cells, AV.size, AV.wf, AV.ren, *]
  | .ptr i _ _ => by simp only [AV.ren]; split <;> simp [AV.cells, AV.size, AV.wf, AV.ren, *]
  | .ip _ => by simp [AV.ren, AV.cells]
  | .ex _ => by simp [AV.ren, AV.cells]
  | .tup _ => by simp [AV.ren, AV.cells, AV.size, AV.wf]
  | .clo _ _ => by simp [AV.ren, AV.cells, AV.size, AV.wf]
theorem AV.renL_size (ids : List Nat) : ∀ (xs : List AV), AV.sizeL (AV.renL ids xs) = AV.sizeL xs ∧ (AV.wfL (AV.renL ids xs) ↔ AV.wfL xs) ∧ AV.cellsL (AV.renL ids xs) = (AV.cellsL xs).map (AV.ren ids)
  | [] => by simp [AV.renL, AV.cellsL]
  | x :: xs => by
    obtain ⟨h1, h2, h3⟩ := AV.ren_size ids x
    obtain ⟨g1, g2, g3⟩ := AV.renL_size ids xs
    simp only [AV.renL, AV.sizeL, AV.wfL, AV.cellsL, h1, g1, h2, g2, h3, g3, List.map_append, and_self]
end

theorem AV.renL_eq (ids : List Nat) : ∀ (xs : List AV), AV.renL ids xs = xs.map (AV.ren ids)
  | [] => rfl
  | x :: xs => by simp [AV.renL, AV.renL_eq ids xs]

def Mem.ren (m : Mem) (ids : List Nat) : Mem := { M := m.M, η := fun k => m.η (ids.getD k 0), n := ids.length }

theorem RelA.ren {m : Mem} (ids : List Nat) {x : AV} {v : Value} (h : RelA m x v) : RelA (m.ren ids) (x.ren ids) v := by
  have key : ∀ {i k : Nat}, idx i ids = some k → k < ids.length ∧ (m.ren ids).η k = m.η i := fun {i k} hk => by
    have := idx_ok hk
    refine ⟨(List.getElem?_eq_some_iff.1 this).1, ?_⟩
    simp [Mem.ren, this]
  induction h with
  | any => exact .any
  | und => exact .und
  | t h => exact .t h
  | own h =>
    simp only [AV.ren]
    split
    · rename_i k hk
      obtain ⟨h1, h2⟩ := key hk
      rw [← h2]; exact .own h1
    · exact .any
  | sub h hl hx ha =>
    simp only [AV.ren]
    split
    · rename_i k hk
      obtain ⟨h1, h2⟩ := key hk
      exact .sub h1 hl hx (by rw [h2]; exact ha)
    · exact .any
  | ptr h hb =>
    simp only [AV.ren]
    split
    · rename_i k hk
      obtain ⟨h1, h2⟩ := key hk
      exact .ptr h1 (by rw [h2]; exact hb)
    · exact .any
  | ip hM hw hr => exact .ip hM hw hr
  | ex h => exact .ex h
  | st hw ha _ ih =>
    rename_i xs _ _
    obtain ⟨h1, h2, h3⟩ := AV.renL_size ids xs
    refine .st (h2.2 hw) (by rw [h1]; exact ha) fun i c hi => ?_
    rw [h3, List.getElem?_map, Option.map_eq_some_iff] at hi
    obtain ⟨d, hd, rfl⟩ := hi
    exact ih i d hd
  | tup ha _ ih =>
    rename_i xs _ _
    refine .tup (by rw [AV.renL_eq, List.length_map]; exact ha) fun i c hi => ?_
    rw [AV.renL_eq, List.getElem?_map, Option.map_eq_some_iff] at hi
    obtain ⟨d, hd, rfl⟩ := hi
    exact ih i d hd
  | clo ha _ ih =>
    rename_i xs _ _
    refine .clo (by rw [AV.renL_eq, List.length_map]; exact ha) fun i c hi => ?_
    rw [AV.renL_eq, List.getElem?_map, Option.map_eq_some_iff] at hi
    obtain ⟨d, hd, rfl⟩ := hi
    exact ih i d hd

theorem BlkOk.ren {m : Mem} (ids : List Nat) {w : World} {B : Blk} {hd : Value} (h : BlkOk m w B hd) : BlkOk (m.ren ids) w (B.ren ids) hd := by
  cases B with
  | bx v =>
    obtain ⟨b, cur, e, rfl, h1, h2, h3, h4, h5⟩ := h
    obtain ⟨g1, g2, g3⟩ := AV.ren_size ids v
    refine ⟨b, cur, e, rfl, h1, h2, g2.2 h3, by rw [g1]; exact h4, fun j c hj => ?_⟩
    rw [g3, List.getElem?_map, Option.map_eq_some_iff] at hj
    obtain ⟨d, hd, rfl⟩ := hj
    obtain ⟨u, hu, hr⟩ := h5 j d hd
    exact ⟨u, hu, hr.ren ids⟩
  | _ => exact h

theorem Blk.ren_live (ids : List Nat) (B : Blk) : (B.ren ids).live = B.live := by cases B <;> rfl

def renH (ids : List Nat) (H : List Blk) : List Blk := ids.map fun i => ((H[i]?).getD .no).ren ids

theorem Inv.ren {c : Ctx} {m : Mem} {w : World} {H : List Blk} (h : Inv c m w H) (ids : List Nat) (hnd : ids.Nodup) (hk : ∀ i, i < c.k → ids[i]? = some i) : Inv c (m.ren ids) w (renH ids H) := by
  have hget : ∀ k B, (renH ids H)[k]? = some B → ∃ i, ids[k]? = some i ∧ (m.ren ids).η k = m.η i ∧ ((∃ B', H[i]? = some B' ∧ B = B'.ren ids) ∨ B = .no) := by
    intro k B hk
    simp only [renH, List.getElem?_map, Option.map_eq_some_iff] at hk
    obtain ⟨i, hi, rfl⟩ := hk
    refine ⟨i, hi, by simp [Mem.ren, hi], ?_⟩
    cases e : H[i]? with
    | none => exact .inr rfl
    | some B' => exact .inl ⟨B', rfl, rfl⟩
  refine ⟨by simp [Mem.ren, renH], h.imm, h.le, h.new, ?_, ?_, ?_, h.os, h.tape, h.output, h.size, h.frame, fun i hi => ⟨(List.getElem?_eq_some_iff.1 (hk i hi)).1, by rw [← (h.keep i hi).2]; simp [Mem.ren, hk i hi]⟩⟩
  · intro k B hk
    obtain ⟨i, h1, h2, h3⟩ := hget k B hk
    rcases h3 with ⟨B', h3, rfl⟩ | rfl
    · rw [h2]; exact (h.ok i B' h3).ren ids
    · trivial
  · intro k B b hk hl hb
    obtain ⟨i, h1, h2, h3⟩ := hget k B hk
    rcases h3 with ⟨B', h3, rfl⟩ | rfl
    · rw [h2] at hb; rw [Blk.ren_live] at hl; exact h.own i B' b h3 hl hb
    · simp [Blk.live] at hl
  · intro k j B B1 b hk hj hl hl1 hb hb1
    obtain ⟨i, h1, h2, h3⟩ := hget k B hk
    obtain ⟨i', h1', h2', h3'⟩ := hget j B1 hj
    rcases h3 with ⟨B', h3, rfl⟩ | rfl
    · rcases h3' with ⟨B'', h3', rfl⟩ | rfl
      · rw [h2] at hb; rw [h2'] at hb1; rw [Blk.ren_live] at hl hl1
        have := h.disj i i' B' B'' b h3 h3' hl hl1 hb hb1
        subst this
        exact (List.getElem?_inj (List.getElem?_eq_some_iff.1 h1).1 hnd).1 (h1.trans h1'.symm)
      · simp [Blk.live] at hl1
    · simp [Blk.live] at hl

def renS (ids : List Nat) (s : Slots) : Slots := s.map fun p => (p.1, p.2.ren ids)

theorem lk_renS (ids : List Nat) (i : Nat) (s : Slots) : lk i (renS ids s) = (lk i s).ren ids := by
  induction s with
  | nil => rfl
  | cons p s ih =>
    simp only [renS, List.map_cons, lk]
    split
    · rfl
    · exact ih

theorem RelS.ren {m : Mem} {N : Nat} {a : Act} {s : Slots} (h : RelS m N a s) (ids : List Nat) : RelS (m.ren ids) N a (renS ids s) :=
  ⟨h.1, h.2.1, fun i => by rw [lk_renS]; exact (h.2.2 i).ren ids⟩

/-- A state seen by the slots and the blocks that are still wanted. -/
def AS.norm (S : AS) (keep ids : List Nat) : AS := ⟨renS ids (prune keep S.s), renH ids S.H⟩

def okIds (k : Nat) (ids : List Nat) : Prop := ids.Nodup ∧ ids.take k = List.range k

instance (k : Nat) (ids : List Nat) : Decidable (okIds k ids) := by unfold okIds; infer_instance

theorem okIds.get {k : Nat} {ids : List Nat} (h : okIds k ids) (i : Nat) (hi : i < k) : ids[i]? = some i := by
  have := congrArg (fun l => l[i]?) h.2
  simp only [List.getElem?_take, if_pos hi, List.getElem?_range hi] at this
  exact this

theorem Weak.to {N : Nat} {S S' : AS} (keep ids : List Nat) (hnd : okIds kp ids) (h : S.norm keep ids = S') : Weak kp N S S' := by
  subst h
  intro c hc m w a hi hs
  exact ⟨m.ren ids, hi.ren ids hnd.1 (by rw [hc]; exact hnd.get), (hs.prune keep).ren ids⟩

/-- nil, taken for an empty row of the call's own. -/
theorem Weak.own {N : Nat} {S : AS} (i : Nat) (B : Blk) (hi : lk i S.s = .t .nil) (hB : B = .by [] ∨ ∃ sz, 0 < sz ∧ B = .sq sz []) : Weak kp N S ⟨(i, .own S.H.length) :: S.s, S.H ++ [B]⟩ := by
  intro c hc m w a hinv hs
  refine ⟨m.push (.slice none 0 0), ?_, ?_⟩
  · refine hinv.fresh rfl rfl rfl (Nat.le_refl _) (fun _ _ => rfl) ?_ (fun b _ hb => by cases hb)
    rcases hB with rfl | ⟨sz, hsz, rfl⟩
    · exact .inl ⟨rfl, rfl⟩
    · exact ⟨by simp [T.wf, hsz, T.wfL], .inl ⟨rfl, rfl⟩⟩
  · have hs' := hs.mono (Ext.push m (.slice none 0 0))
    refine ⟨hs.1, hs.2.1, fun k => ?_⟩
    simp only [lk]
    split
    · rename_i e
      subst e
      have := hs.2.2 k
      rw [hi] at this
      have hv : a.tmps.getD k undef = .slice none 0 0 := by
        have := this.t_inv
        generalize a.tmps.getD k undef = u at this
        cases this; rfl
      rw [hv]
      exact push_own hinv.len _
    · exact hs'.2.2 k

/-- A row that is read only from now on. -/
theorem Weak.freeze {N : Nat} {S : AS} (i : Nat) : Weak kp N S ⟨S.s, freezeOne S.H i⟩ := by
  intro c hc m w a hinv hs
  obtain ⟨m', e1, h1⟩ := freezeOne_ok hinv i
  exact ⟨m', h1, hs.mono e1⟩

/-! ### Entry and end. -/

def freezeOnes (H : List Blk) : List Nat → List Blk
  | [] => H
  | i :: r => freezeOnes (freezeOne H i) r

theorem freezeOnes_ok {c : Ctx} {w : World} : ∀ (l : List Nat) (m : Mem) (H : List Blk), Inv c m w H → ∃ m', Ext m m' ∧ Inv c m' w (freezeOnes H l)
  | [], m, H, h => ⟨m, .refl m, h⟩
  | i :: r, m, H, h => by
    obtain ⟨m1, e1, h1⟩ := freezeOne_ok h i
    obtain ⟨m2, e2, h2⟩ := freezeOnes_ok r m1 _ h1
    exact ⟨m2, e1.trans e2, h2⟩

def thaw (H : List Blk) (v : AV) : AV :=
  match immT H v with
  | some x => .t x
  | none => v

theorem thaw_ok {c : Ctx} {m : Mem} {w : World} {H : List Blk} (h : Inv c m w H) {v : AV} {u : Value} (hv : RelA m v u) : RelA m (thaw H v) u := by
  unfold thaw
  split
  · rename_i x hx; exact .t (immT_ok h hv hx)
  · exact hv

def one (vs : List AV) : AV :=
  match vs with
  | [v] => v
  | vs => .tup vs

/-- The results, as they are handed back. -/
def retVals (E : Env) (H : List Blk) (s : Slots) (rs : List (Nat × TypeId)) : List AV := rs.map fun p => thaw H (tyd E p.2 (lk p.1 s))

/-- The end of a function: its results and the blocks that go with them. -/
def retQ (E : Env) (rs : List (Nat × TypeId)) (H : List Blk) (r : AV) : Exit → AS → Prop := fun e S =>
  (e = .normal ∨ e = .ret) ∧ ∃ fz ids : List Nat, ids.Nodup ∧ renH ids (freezeOnes S.H fz) = H ∧ (one (retVals E (freezeOnes S.H fz) S.s rs)).ren ids = r

theorem results_tmps {P : Program} {fn : Func} {rs : List Nat} (hr : fn.results.toList = rs.map ResultVar.tmp) (tmps : Array Value) (w : World) :
    (results fn tmps).run P w = .ok (match rs.map fun t => tmps.getD t undef with | [v] => v | vs => .tuple vs.toArray) w := by
  have h1 : fn.results = (rs.map ResultVar.tmp).toArray := by rw [← hr]
  have key : ∀ (g : ResultVar → Sem Value), (∀ t w, (g (.tmp t)).run P w = .ok (tmps.getD t undef) w) → ∀ rs : List Nat, (List.mapM g (rs.map ResultVar.tmp)).run P w = .ok (rs.map fun t => tmps.getD t undef) w := by
    intro g hg rs
    induction rs with
    | nil => simp
    | cons r rs ih => simp only [List.map_cons, List.mapM_cons, Sem.run_bind, Sem.run_pure, Result.andThen_ok, ih, hg]
  unfold results
  rw [h1]
  simp only [Sem.run_bind, List.mapM_toArray, Sem.run_map]
  rw [key _ (fun t w => by simp)]
  simp only [Result.andThen_ok, Sem.run_pure]
  congr 1
  match rs with
  | [] => rfl
  | [r] => rfl
  | _ :: _ :: _ => simp

def entry (i : Nat) : List T → Slots
  | [] => []
  | x :: xs => (i, .t x) :: entry (i + 1) xs

theorem acon {P : Program} {E : Env} {f : FuncId} {fn : Func} {code : Code} {N np : Nat} {rs : List (Nat × TypeId)} (hfn : P.funcs[f]? = some fn) (hb : fn.body = some code) (hN : fn.ntmps = N)
    (hname : (fn.name == "runtime.NumGoroutine") = false) (hres : fn.results.toList = (rs.map (·.1)).map ResultVar.tmp) (hnp : np ≤ N) (F : Fun) (hF : ∀ ts, ts.length ≠ np → F ts = none)
    (main : ∀ ts H r, F ts = some (H, r) → (∀ t ∈ ts, t.wf) → AWP 0 P N code (retQ E rs H r) ⟨entry 0 ts, []⟩) : ACon P f F := by
  refine ⟨⟨fn, hfn, hname, by rw [hb]; rfl⟩, fun ts H r hFt M w vs hM hlen hrel => ?_⟩
  have hts : ts.length = np := by
    rcases Nat.decEq ts.length np with h | h
    · rw [hF ts h] at hFt; cases hFt
    · exact h
  refine calls_of_wp hfn hb ?_
  let m0 : Mem := ⟨M, fun _ => undef, 0⟩
  have inv0 : Inv (ctx0 w M) m0 w [] := ⟨rfl, hM, .refl _, fun b o h => .inl h, fun i B h => by simp at h, fun i B b h => by simp at h, fun i j B B' b h => by simp at h, rfl, rfl, rfl, Nat.le_refl _, fun _ _ _ => rfl, fun i hi => by cases hi⟩
  have hwf : ∀ t ∈ ts, t.wf := fun t ht => by
    obtain ⟨i, hi⟩ := List.getElem?_of_mem ht
    obtain ⟨u, _, hu⟩ := hrel i t hi
    exact hu.wf
  have hentry : ∀ (ts : List T) (k i : Nat), lk i (entry k ts) = (if h : k ≤ i ∧ i - k < ts.length then .t (ts[i - k]'h.2) else .any) := by
    intro ts
    induction ts with
    | nil => intro k i; simp [entry, lk]
    | cons x xs ih =>
      intro k i
      simp only [entry, lk]
      split
      · rename_i e; subst e; simp
      · rename_i e
        rw [ih (k + 1) i]
        by_cases hk : k + 1 ≤ i ∧ i - (k + 1) < xs.length
        · rw [dif_pos hk, dif_pos ⟨by omega, by simp; omega⟩]
          congr 1
          have : i - k = (i - (k + 1)) + 1 := by omega
          simp only [this, List.getElem_cons_succ]
        · rw [dif_neg hk, dif_neg (by simp; omega)]
  have rel0 : RelS m0 N { tmps := vs.toArray ++ Array.replicate (fn.ntmps - vs.toArray.size) undef, defers := [] } (entry 0 ts) := by
    refine ⟨rfl, by simp; omega, fun i => ?_⟩
    rw [hentry ts 0 i]
    split
    · rename_i h
      simp only [Nat.sub_zero] at h ⊢
      obtain ⟨u, h1, h2⟩ := hrel i _ (List.getElem?_eq_getElem h.2)
      have hlt := (List.getElem?_eq_some_iff.1 h1).1
      have : (vs.toArray ++ Array.replicate (fn.ntmps - vs.toArray.size) undef).getD i undef = u := by
        rw [Array.getD_eq_getD_getElem?, Array.getElem?_append_left (by simpa using hlt)]
        simp [h1]
      rw [this]; exact .t h2
    · exact .any
  refine wp_mono (main ts H r hFt hwf (ctx0 w M) rfl m0 w _ inv0 rel0) fun e a w' ⟨m, S, h1, h2, h3, fz, ids, hnd, hH, hr⟩ => ?_
  obtain ⟨m', e1, h1'⟩ := freezeOnes_ok fz m S.H h1
  have h2' := h2.mono e1
  have hresrun := results_tmps (P := P) hres a.tmps w'
  have hvals : RelA m' (one (retVals E (freezeOnes S.H fz) S.s rs)) (match (rs.map (·.1)).map fun t => a.tmps.getD t undef with | [v] => v | vs => .tuple vs.toArray) := by
    have each : ∀ p : Nat × TypeId, RelA m' (thaw (freezeOnes S.H fz) (tyd E p.2 (lk p.1 S.s))) (a.tmps.getD p.1 undef) := fun p => thaw_ok h1' (tyd_ok (h2'.2.2 p.1))
    have hget : ∀ (i : Nat) (c : AV), (retVals E (freezeOnes S.H fz) S.s rs)[i]? = some c → ∃ x, rs[i]? = some x ∧ c = thaw (freezeOnes S.H fz) (tyd E x.2 (lk x.1 S.s)) := by
      intro i c hi
      simp only [retVals, List.getElem?_map, Option.map_eq_some_iff] at hi
      obtain ⟨x, hx, rfl⟩ := hi
      exact ⟨x, hx, rfl⟩
    clear hr hres hresrun main
    match rs with
    | [] => exact .tup rfl (fun i c h => by simp [retVals] at h)
    | [p] => exact each p
    | p :: q :: rs' =>
      refine .tup (by simp [retVals]) fun i c hi => ?_
      obtain ⟨x, hx, rfl⟩ := hget i c hi
      have : (((p :: q :: rs').map (·.1)).map fun t => a.tmps.getD t undef).toArray.getD i undef = a.tmps.getD x.1 undef := by
        rw [Array.getD_eq_getD_getElem?, List.getElem?_toArray, List.getElem?_map, List.getElem?_map, hx]; rfl
      have key := each x
      rw [← this] at key
      exact key
  have fin : a.defers = [] ∧ ∃ v, (results fn a.tmps).run P w' = .ok v w' ∧ ∃ m' u, Ending.returned v = .returned u ∧ Inv (ctx0 w M) m' w' H ∧ RelA m' r u :=
    ⟨h2.1, _, hresrun, _, _, rfl, by rw [← hH]; exact h1'.ren ids hnd (fun i hi => by cases hi), by rw [← hr]; exact hvals.ren ids⟩
  rcases h3 with rfl | rfl
  · exact fin
  · exact fin

end

end Go.Fw

end
