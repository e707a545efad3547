/- The abstract machine, and the contracts of the code: part 34. -/
import Derived.Test.YtchljppcenckaaaFwAz

section
/- All steps, contracts that lend among them; entry and end of a function that is lent blocks. -/
namespace Go.Fw
set_option linter.unusedVariables false
set_option linter.unusedSimpArgs false
open Go

structure XOk (P : Program) (E : Env) (q : List TypeId) : Prop where
  env : EnvOk P E
  byte : ByteOk E
  fit : FitOk E
  eq : ∀ t ∈ q, EqTy P t

def tydVs (E : Env) : List TypeId → List AV → List AV
  | [], vs => vs
  | t :: ts, vs => match vs with
    | [] => []
    | v :: vs => tydV E v t :: tydVs E ts vs

theorem tydVs_ok {m : Mem} (E : Env) : ∀ (ts : List TypeId) (vs : List AV) (us : List Value), us.length = vs.length → (∀ (i : Nat) (x : AV), vs[i]? = some x → ∃ u, us[i]? = some u ∧ RelA m x u) →
    us.length = (tydVs E ts vs).length ∧ ∀ (i : Nat) (x : AV), (tydVs E ts vs)[i]? = some x → ∃ u, us[i]? = some u ∧ RelA m x u
  | [], vs, us, hl, hr => ⟨hl, hr⟩
  | t :: ts, [], us, hl, hr => by simpa [tydVs] using hl
  | t :: ts, v :: vs, us, hl, hr => by
    cases us with
    | nil => simp at hl
    | cons u us =>
      obtain ⟨h1, h2⟩ := tydVs_ok E ts vs us (by simpa using hl) (fun i x hi => by simpa using hr (i + 1) x (by simpa using hi))
      refine ⟨by simp [tydVs, h1], fun i x hi => ?_⟩
      cases i with
      | zero =>
        simp only [tydVs, List.getElem?_cons_zero, Option.some.injEq] at hi
        subst hi
        obtain ⟨u', hu', hr'⟩ := hr 0 v rfl
        simp at hu'; subst hu'
        exact ⟨u, rfl, hr'.typed E t⟩
      | succ i => simpa using h2 i x (by simpa [tydVs] using hi)

def orStill (H : List Blk) (a b : Option AV) : Option (AV × List Blk) :=
  match a with
  | some v => some (v, H)
  | none => still H b

def orElse2 (a b : Option (AV × List Blk)) : Option (AV × List Blk) :=
  match a with
  | some r => some r
  | none => b

def callee (s : Slots) (f : Operand) : Option (FuncId × List AV × List AV) :=
  match f with
  | .func f => some (f, [], [])
  | .tmp k => match lk k s with
    | .t (.fn f) => some (f, [], [])
    | .clo f cs => if f < 1000000 then some (f, [], cs) else some (f - 1000000, cs, [])
    | _ => none
  | _ => none

def gAppend (E : Env) (H : List Blk) (s : Slots) (args : List Operand) (tys : List TypeId) : Option (AV × List Blk) :=
  match args, tys with
  | [x, y], [t, u] => orElse2 (aAppend E H t u (ev s x) (ev s y)) (orElse2 (still H (aAppendEx E H t u (ev s x) (ev s y))) (aAppendZ E H t u (ev s x) (ev s y)))
  | _, _ => none

def gCopy (E : Env) (H : List Blk) (s : Slots) (args : List Operand) (tys : List TypeId) : Option (AV × List Blk) :=
  match args, tys with
  | [x, y], [t, u] => orElse2 (aCopy E H t (ev s x) (ev s y)) (aCopyG E H t (ev s x) (ev s y))
  | _, _ => none

def gFunc (H : List Blk) (s : Slots) (fn : Fn) (first captured : List Operand) : Option (AV × List Blk) :=
  match fn, first, captured with
  | .func f, [], cs => if f < 1000000 then some (.clo f (cs.map (ev s)), H) else none
  | .func f, x :: l, [] => some (.clo (f + 1000000) ((x :: l).map (ev s)), H)
  | _, _, _ => none

def gSlice (E : Env) (H : List Blk) (s : Slots) (t : TypeId) (x : Operand) (lo hi mx : Option Operand) : Option (AV × List Blk) :=
  match mx with
  | none => orStill H (aSliceArr E s t x lo hi) (aSlice E H s t x lo hi)
  | some mx => match lo, hi with
    | none, some hi => still H (aSlice3 E H s t x hi mx)
    | _, _ => none

def gstep (E : Env) (q : List TypeId) (gl : GCalls) (s : Slots) (H : List Blk) (op : Op) : Option (AV × List Blk) :=
  match op with
  | .call ⟨.value f, args, tys⟩ => match callee s f with
    | some (f, pre, cs) => match lkG f gl with
      | some g => gcall g H (pre ++ (tydVs E tys.toList (args.toList.map (ev s)) ++ cs))
      | none => none
    | none => none
  | .call ⟨.builtin .append, args, tys⟩ => gAppend E H s args.toList tys.toList
  | .call ⟨.builtin .copy, args, tys⟩ => gCopy E H s args.toList tys.toList
  | .makeSlice t l c => aMake E H t (ev s l) (ev s c)
  | .buildSlice t len parts => orElse2 (aBuildSlice E H s t len parts.toList) (aBuildListG E H s t len parts.toList)
  | .store t a x => match aStoreG E H t (ev s a) (ev s x) with
    | some H' => some (.und, H')
    | none => none
  | .alloc t => aAlloc E H t
  | .box t x => aBox H (ev s x)
  | .sliceToArrayPointer t x => aArrPtr E H t (ev s x)
  | .convert src dst x => orElse2 (aBB E H src dst (ev s x)) (orStill H (aStrBytes E src dst (ev s x)) (aConv E H src dst (ev s x)))
  | .binOp op t x y _ => orStill H (aEqG E q op t (ev s x) (ev s y)) (aBin E op t (ev s x) (ev s y))
  | .build t parts => still H (aBuild E H s t parts.toList)
  | .field t x f => still H (aField E t (ev s x) f)
  | .index t x i => still H (aIndex E t (ev s x) (ev s i))
  | .makeFunc fn first captured => gFunc H s fn first.toList captured.toList
  | .slice t x lo hi mx => gSlice E H s t x lo hi mx
  | op => still H (aStill E H s op)

theorem gstep_ok {P : Program} {E : Env} {q : List TypeId} (hX : XOk P E q) {gl : GCalls} (hcl : GClOk P gl) {c : Ctx} {m : Mem} {w : World} {a : Act} {N : Nat} {S : AS} (h : Inv c m w S.H) (hs : RelS m N a S.s) {o : Oper} {v : AV} {H' : List Blk}
    (hv : gstep E q gl S.s S.H o.op = some (v, H')) (K : Act → World → Prop) (Q : Exit → Act → World → Prop)
    (hK : ∀ m' w' u, Ext m m' → Inv c m' w' H' → RelA m' v u → K (a.put o.dst u) w') : o.wp P a w K Q := by
  have hE := hX.env
  have hB := hX.byte
  have val : ∀ {m' : Mem} {w' : World} {u : Value}, (execOp a.eval o).run P w = .ok (.value u) w' → Ext m m' → Inv c m' w' H' → RelA m' v u → o.wp P a w K Q := by
    intro m' w' u hrun e1 h1 hu
    unfold Oper.wp
    rw [hrun]
    exact hK m' w' u e1 h1 hu
  have stl : ∀ (x : Option AV), still S.H x = some (v, H') → (∀ v', x = some v' → ∃ u, RelA m v' u ∧ (execOp a.eval o).run P w = .ok (.value u) w) → o.wp P a w K Q := by
    intro x hx hrun
    unfold still at hx
    split at hx
    · rename_i v' 
      cases hx
      obtain ⟨u, r1, run⟩ := hrun _ rfl
      exact val run (.refl m) h r1
    · cases hx
  unfold gstep at hv
  split at hv
  · rename_i f args tys hop
    split at hv
    · rename_i f' pre cs hcal
      split at hv
      · rename_i g hg
        have hcon := hcl f' g hg
        obtain ⟨⟨fn, hfn, hname, hbody⟩⟩ := hcon.1
        -- the callee's value
        have hcv : ∃ pv vs : Array Value, a.eval f = .func (.func f') pv vs ∧ (pv.size = pre.length ∧ ∀ (i : Nat) (x : AV), pre[i]? = some x → RelA m x (pv.getD i undef)) ∧ (vs.size = cs.length ∧ ∀ (i : Nat) (x : AV), cs[i]? = some x → RelA m x (vs.getD i undef)) := by
          unfold callee at hcal
          split at hcal
          · cases hcal; exact ⟨#[], #[], rfl, ⟨rfl, fun i x hi => by simp at hi⟩, ⟨rfl, fun i x hi => by simp at hi⟩⟩
          · rename_i k
            have hk := hs.2.2 k
            split at hcal
            · rename_i f2 hf
              cases hcal
              rw [hf] at hk
              have := hk.t_inv
              refine ⟨#[], #[], ?_, ⟨rfl, fun i x hi => by simp at hi⟩, ⟨rfl, fun i x hi => by simp at hi⟩⟩
              show a.tmps.getD k undef = _
              generalize a.tmps.getD k undef = u at this
              cases this; rfl
            · rename_i f2 cs2 hf
              rw [hf] at hk
              show ∃ pv vs : Array Value, a.tmps.getD k undef = .func (.func f') pv vs ∧ _
              generalize a.tmps.getD k undef = u at hk
              cases hk with
              | clo ha hr =>
                split at hcal
                · rename_i hlt
                  obtain ⟨e1, e2⟩ := Prod.mk.inj (Option.some.inj hcal)
                  obtain ⟨e2, e3⟩ := Prod.mk.inj e2
                  subst e1; subst e2; subst e3
                  exact ⟨#[], _, fnV_lt hlt, ⟨rfl, fun i x hi => by simp at hi⟩, ha, hr⟩
                · rename_i hlt
                  obtain ⟨e1, e2⟩ := Prod.mk.inj (Option.some.inj hcal)
                  obtain ⟨e2, e3⟩ := Prod.mk.inj e2
                  subst e1; subst e2; subst e3
                  exact ⟨_, #[], fnV_ge hlt, ⟨ha, hr⟩, rfl, fun i x hi => by simp at hi⟩
            · cases hcal
          · cases hcal
        obtain ⟨pv, vs, hev, ⟨hps, hpr⟩, ⟨hvs, hvr⟩⟩ := hcv
        obtain ⟨hl1, hr1⟩ := tydVs_ok (m := m) E tys.toList (args.toList.map (ev S.s)) (args.toList.map a.eval) (by simp) (fun i x hi => by
          rw [List.getElem?_map, Option.map_eq_some_iff] at hi
          obtain ⟨y, hy, rfl⟩ := hi
          exact ⟨a.eval y, by rw [List.getElem?_map, hy]; rfl, hs.ev y⟩)
        have harr : ∀ (zs : Array Value) (ys : List AV), zs.size = ys.length → (∀ (i : Nat) (x : AV), ys[i]? = some x → RelA m x (zs.getD i undef)) → ∀ (i : Nat) (x : AV), ys[i]? = some x → ∃ u, zs.toList[i]? = some u ∧ RelA m x u := fun zs ys h1 h2 i x hi => by
          have hlt := (List.getElem?_eq_some_iff.1 hi).1
          refine ⟨zs.getD i undef, ?_, h2 i x hi⟩
          have h3 : i < zs.size := by omega
          simp [h3]
        have happ : ∀ (us1 us2 : List Value) (xs1 xs2 : List AV), us1.length = xs1.length → (∀ (i : Nat) (x : AV), xs1[i]? = some x → ∃ u, us1[i]? = some u ∧ RelA m x u) → (∀ (i : Nat) (x : AV), xs2[i]? = some x → ∃ u, us2[i]? = some u ∧ RelA m x u) →
            ∀ (i : Nat) (x : AV), (xs1 ++ xs2)[i]? = some x → ∃ u, (us1 ++ us2)[i]? = some u ∧ RelA m x u := fun us1 us2 xs1 xs2 h0 h1 h2 i x hi => by
          rcases Nat.lt_or_ge i xs1.length with hlt | hge
          · rw [List.getElem?_append_left hlt] at hi
            obtain ⟨u, hu, hru⟩ := h1 i x hi
            exact ⟨u, by rw [List.getElem?_append_left (by omega)]; exact hu, hru⟩
          · rw [List.getElem?_append_right hge] at hi
            obtain ⟨u, hu, hru⟩ := h2 _ x hi
            exact ⟨u, by rw [List.getElem?_append_right (by omega), h0]; exact hu, hru⟩
        have hl2 : (pv.toList ++ (args.toList.map a.eval ++ vs.toList)).length = (pre ++ (tydVs E tys.toList (args.toList.map (ev S.s)) ++ cs)).length := by
          rw [List.length_append, List.length_append, List.length_append, List.length_append, hl1]; simp [hvs, hps]
        have hr2 := happ pv.toList (args.toList.map a.eval ++ vs.toList) pre (tydVs E tys.toList (args.toList.map (ev S.s)) ++ cs) (by simpa using hps) (harr pv pre hps hpr) (happ _ _ _ _ hl1 hr1 (harr vs cs hvs hvr))
        have hc := gcall_ok hcon h hl2 hr2 hv
        have hrun : (execOp a.eval o).run P w = .ok (.enter f' (pv.toList ++ (args.toList.map a.eval ++ vs.toList)).toArray) w := by
          have e1 : (pv.toList ++ (args.toList.map a.eval ++ vs.toList)).toArray = pv ++ args.map a.eval ++ vs := by apply Array.ext'; simp
          have e2 := run_enter hfn hname hbody (pv ++ args.map a.eval ++ vs) w
          rw [e1]
          simp [execOp, hop, resolve, hev, Deferred.ofValue, invoke]
          first | exact e2 | simpa using e2
        unfold Oper.wp
        rw [hrun]
        refine hc.mono fun e w' ⟨m', u, he, e1, h1, hu⟩ => ?_
        subst he
        exact hK m' w' u e1 h1 hu
      · cases hv
    · cases hv
  · rename_i args tys hop
    unfold gAppend at hv
    split at hv
    · rename_i x y t u h1 h2
      obtain rfl : args = #[x, y] := by cases args; simp_all
      obtain rfl : tys = #[t, u] := by cases tys; simp_all
      unfold orElse2 at hv
      split at hv
      · rename_i r hr
        cases hv
        obtain ⟨m', w', val', e1, i1, r1, run⟩ := aAppend_ok (ty := o.type) hE hB h (hs.ev x) (hs.ev y) hr
        exact val (by simp [execOp, hop, resolve, invoke, builtin, run]) e1 i1 r1
      · split at hv
        · rename_i r hr
          cases hv
          unfold still at hr
          split at hr
          · rename_i v' hv'
            cases hr
            obtain ⟨m', w', val', e1, i1, r1, run⟩ := aAppendEx_ok (ty := o.type) hE h (hs.ev x) (hs.ev y) hv'
            exact val (by simp [execOp, hop, resolve, invoke, builtin, run]) e1 i1 r1
          · cases hr
        · obtain ⟨m', w', val', e1, i1, r1, run⟩ := aAppendZ_ok (ty := o.type) hE hB h (hs.ev x) (hs.ev y) hv
          exact val (by simp [execOp, hop, resolve, invoke, builtin, run]) e1 i1 r1
    · cases hv
  · rename_i args tys hop
    unfold gCopy at hv
    split at hv
    · rename_i x y t u h1 h2
      obtain rfl : args = #[x, y] := by cases args; simp_all
      obtain rfl : tys = #[t, u] := by cases tys; simp_all
      unfold orElse2 at hv
      split at hv
      · rename_i r hr
        cases hv
        obtain ⟨m', w', val', e1, i1, r1, run⟩ := aCopy_ok (u := u) (ty := o.type) hE h (hs.ev x) (hs.ev y) hr
        exact val (by simp [execOp, hop, resolve, invoke, builtin, run]) e1 i1 r1
      · obtain ⟨m', w', val', e1, i1, r1, run⟩ := aCopyG_ok (u := u) (ty := o.type) hE h (hs.ev x) (hs.ev y) hv
        exact val (by simp [execOp, hop, resolve, invoke, builtin, run]) e1 i1 r1
    · cases hv
  · rename_i t l cp hop
    obtain ⟨m', w', val', e1, i1, r1, run⟩ := aMake_ok hE hB h (hs.ev l) (hs.ev cp) hv
    exact val (by simp [execOp, hop, run]) e1 i1 r1
  · rename_i t len parts hop
    unfold orElse2 at hv
    split at hv
    · rename_i r hr
      cases hv
      obtain ⟨m', w', val', e1, i1, r1, run⟩ := aBuildSlice_ok hE hB h (fun x => hs.ev x) hr
      exact val (by simp only [execOp, hop, Sem.run_bind, run, Result.andThen_ok, Sem.run_pure]) e1 i1 r1
    · obtain ⟨m', w', val', e1, i1, r1, run⟩ := aBuildListG_ok hE h (fun x => hs.ev x) hv
      exact val (by simp only [execOp, hop, Sem.run_bind, run, Result.andThen_ok, Sem.run_pure]) e1 i1 r1
  · rename_i t ad x hop
    split at hv
    · rename_i H1 hH1
      cases hv
      obtain ⟨m', w', e1, i1, run⟩ := aStoreG_ok hE h (hs.ev ad) (hs.ev x) hH1
      have hrun : (execOp a.eval o).run P w = .ok .skip w' := by simp [execOp, hop, run]
      unfold Oper.wp
      rw [hrun]
      exact hK m' w' undef e1 i1 .und
    · cases hv
  · rename_i t hop
    obtain ⟨m', w', val', e1, i1, r1, run⟩ := aAlloc_ok hE h hv
    exact val (by simp [execOp, hop, run]) e1 i1 r1
  · rename_i t x hop
    obtain ⟨m', w', val', e1, i1, r1, run⟩ := aBox_ok (P := P) (t := t) h (hs.ev x) hv
    exact val (by simp [execOp, hop, run]) e1 i1 r1
  · rename_i t x hop
    obtain ⟨m', w', val', e1, i1, r1, run⟩ := aArrPtr_ok hE h (hs.ev x) hv
    exact val (by simp [execOp, hop, run]) e1 i1 r1
  · rename_i src dst x hop
    unfold orElse2 at hv
    split at hv
    · rename_i r hr
      cases hv
      obtain ⟨m', w', val', e1, i1, r1, run⟩ := aBB_ok hE h (hs.ev x) hr
      exact val (by simp [execOp, hop, run]) e1 i1 r1
    unfold orStill at hv
    split at hv
    · rename_i v' hv'
      cases hv
      obtain ⟨m', w', val', e1, i1, r1, run⟩ := aStrBytes_ok hE h (hs.ev x) hv'
      exact val (by simp [execOp, hop, run]) e1 i1 r1
    · refine stl _ hv fun v' hv' => ?_
      obtain ⟨u, r1, run⟩ := aConv_ok hE h (hs.ev x) hv'
      exact ⟨u, r1, by simp [execOp, hop, run]⟩
  · rename_i op t x y yt hop
    unfold orStill at hv
    split at hv
    · rename_i v' hv'
      cases hv
      obtain ⟨u, r1, run⟩ := aEqG_ok (P := P) (w := w) (x := x) (y := y) hE hB hX.eq hv' (hs.ev x) (hs.ev y)
      refine val ?_ (.refl m) h r1
      simp only [execOp, hop]
      simp only [Sem.run_bind] at run ⊢
      rw [run]; rfl
    · refine stl _ hv fun v' hv' => ?_
      obtain ⟨u, r1, run⟩ := run_aBin (P := P) (w := w) (x := x) (y := y) hE hv' (hs.ev x) (hs.ev y)
      refine ⟨u, r1, ?_⟩
      simp only [execOp, hop]
      simp only [Sem.run_bind] at run ⊢
      rw [run]; rfl
  · rename_i t parts hop
    refine stl _ hv fun v' hv' => ?_
    obtain ⟨u, r1, run⟩ := aBuild_ok hE hB hX.fit h (fun x => hs.ev x) hv'
    exact ⟨u, r1, by simp only [execOp, hop, Sem.run_bind, run, Result.andThen_ok, Sem.run_pure]⟩
  · rename_i t x f hop
    refine stl _ hv fun v' hv' => ?_
    obtain ⟨u, r1, run⟩ := aField_ok (w := w) hE (hs.ev x) hv'
    exact ⟨u, r1, by simp [execOp, hop, run]⟩
  · rename_i t x i hop
    refine stl _ hv fun v' hv' => ?_
    obtain ⟨u, r1, run⟩ := aIndex_ok (w := w) hE (hs.ev x) (hs.ev i) hv'
    exact ⟨u, r1, by simp [execOp, hop, run]⟩
  · rename_i fn first captured hop
    unfold gFunc at hv
    have hcap : ∀ (zs : Array Operand) (i : Nat) (x : AV), (zs.toList.map (ev S.s))[i]? = some x → RelA m x ((zs.map a.eval).getD i undef) := fun zs i x hi => by
      rw [List.getElem?_map, Option.map_eq_some_iff] at hi
      obtain ⟨y, hy, rfl⟩ := hi
      have : (zs.map a.eval).getD i undef = a.eval y := by
        simp only [Array.getD_eq_getD_getElem?, Array.getElem?_map]
        rw [show zs[i]? = some y by simpa using hy]; rfl
      rw [this]; exact hs.ev y
    split at hv
    · rename_i f he
      split at hv
      case isFalse => cases hv
      rename_i hlt
      cases hv
      obtain rfl : first = #[] := by cases first; simp_all
      have e : fnV f (captured.map a.eval) = .func (.func f) #[] (captured.map a.eval) := fnV_lt hlt
      refine val (u := .func (.func f) #[] (captured.map a.eval)) (by simp [execOp, hop, Instr.makeFunc]) (.refl m) h (e ▸ .clo (by simp) (hcap captured))
    · rename_i f x l he1 he2
      obtain ⟨e0, e9⟩ := Prod.mk.inj (Option.some.inj hv)
      subst e0; subst e9
      obtain rfl : captured = #[] := by cases captured; simp_all
      have e : fnV (f + 1000000) (first.map a.eval) = .func (.func f) (first.map a.eval) #[] := by
        rw [fnV_ge (by omega), Nat.add_sub_cancel]
      have hc2 := hcap first
      rw [he1] at hc2
      have hc3 := congrArg List.length he1
      refine val (u := .func (.func f) (first.map a.eval) #[]) (by simp [execOp, hop, Instr.makeFunc]) (.refl m) h (e ▸ .clo (by simpa using hc3) hc2)
    · cases hv
  · rename_i t x lo hi mx hop
    unfold gSlice at hv
    split at hv
    · unfold orStill at hv
      split at hv
      · rename_i v' hv'
        cases hv
        obtain ⟨u, r1, run⟩ := aSliceArr_ok (w := w) hE (fun x => hs.ev x) hv'
        exact val (by simp only [execOp, hop, Sem.run_bind, Option.map_none, run, Result.andThen_ok, Sem.run_pure]) (.refl m) h r1
      · refine stl _ hv fun v' hv' => ?_
        obtain ⟨u, r1, run⟩ := aSlice_ok hE h (fun x => hs.ev x) hv'
        exact ⟨u, r1, by simp only [execOp, hop, Sem.run_bind, Option.map_none, run, Result.andThen_ok, Sem.run_pure]⟩
    · split at hv
      · refine stl _ hv fun v' hv' => ?_
        obtain ⟨u, r1, run⟩ := aSlice3_ok hE h (fun x => hs.ev x) hv'
        exact ⟨u, r1, by simp only [execOp, hop, Sem.run_bind, Option.map_none, Option.map_some, run, Result.andThen_ok, Sem.run_pure]⟩
      · cases hv
  · refine stl _ hv fun v' hv' => ?_
    obtain ⟨u, r1, run⟩ := aStill_ok (P := P) hE h (fun x => hs.ev x) hv'
    exact ⟨u, r1, run⟩

def gops (E : Env) (q : List TypeId) (gl : GCalls) (N : Nat) (ops : List Oper) : List Oper → AS → Option AS
  | [], S => some S
  | o :: l, S => match wantA ops S.s o with
    | some true => match gstep E q gl S.s S.H o.op with
      | some (v, H') => match aputs N o v S.s with
        | some s' => gops E q gl N ops l ⟨s', H'⟩
        | none => none
      | none => none
    | some false => match aputs N o .und S.s with
      | some s' => gops E q gl N ops l ⟨s', S.H⟩
      | none => none
    | none => none

theorem gops_ok {P : Program} {E : Env} {q : List TypeId} (hX : XOk P E q) {gl : GCalls} (hcl : GClOk P gl) {c : Ctx} {N : Nat} {ops : Array Oper} {Q : Exit → Act → World → Prop} : ∀ (l : List Oper) (S S' : AS) (m : Mem) (w : World) (a : Act),
    gops E q gl N ops.toList l S = some S' → Inv c m w S.H → RelS m N a S.s → (∀ m' w' a', Inv c m' w' S'.H → RelS m' N a' S'.s → Q .normal a' w') → wpList P ops Q l a w := by
  intro l
  induction l with
  | nil => intro S S' m w a h hi hs hQ; cases h; exact wpList_nil (hQ m w a hi hs)
  | cons o l ih =>
    intro S S' m w a h hi hs hQ
    simp only [gops] at h
    split at h
    · rename_i hw
      have hw' := wantA_ok hs hw
      split at h
      · rename_i v H' hstep
        split at h
        · rename_i s' hp
          unfold wpList
          rw [if_pos hw']
          refine .inl (gstep_ok hX hcl hi hs hstep _ _ fun m' w' u e1 h1 hu => ?_)
          exact ih _ S' m' w' _ h h1 ((hs.mono e1).puts hu hp) hQ
        · cases h
      · cases h
    · rename_i hw
      have hw' := wantA_ok hs hw
      split at h
      · rename_i s' hp
        unfold wpList
        rw [if_neg (by rw [hw']; simp)]
        exact ih _ S' m w _ h hi (hs.puts .und hp) hQ
      · cases h
    · cases h

def gopsP (E : Env) (q : List TypeId) (gl : GCalls) (N : Nat) (keep : List Nat) (ops : List Oper) (S : AS) : Option AS :=
  match gops E q gl N ops ops S with
  | some S' => some ⟨prune keep S'.s, S'.H⟩
  | none => none

section
variable {kp : Nat}

theorem AWP.greg {P : Program} {E : Env} {q : List TypeId} (hX : XOk P E q) {gl : GCalls} (hcl : GClOk P gl) (keep : List Nat) {N id : Nat} {l : List Oper} {Q : Exit → AS → Prop} {S S' : AS}
    (h : gopsP E q gl N keep l S = some S') (hQ : Q .normal S') : AWP kp P N (.region id l.toArray false) Q S := by
  unfold gopsP at h
  split at h
  · rename_i S1 h1
    cases h
    intro c hc m w a hi hs
    exact wp_region_list (gops_ok hX hcl _ S S1 m w a (by simpa using h1) hi hs fun m' w' a' h1 h2 => ⟨m', ⟨Fw.prune keep S1.s, S1.H⟩, h1, h2.prune keep, hQ⟩)
  · cases h

theorem AWP.gseq {P : Program} {E : Env} {q : List TypeId} (hX : XOk P E q) {gl : GCalls} (hcl : GClOk P gl) (keep : List Nat) {N id : Nat} {l : List Oper} {y : Code} {Q : Exit → AS → Prop} {S S' : AS}
    (h : gopsP E q gl N keep l S = some S') (hQ : AWP kp P N y Q S') : AWP kp P N (.seq (.region id l.toArray false) y) Q S :=
  AWP.seq (AWP.greg hX hcl keep h hQ)

/-- A box's content, its nils by their types. -/
theorem Weak.tyd {N : Nat} {S : AS} {v : AV} (E : Env) (i : Nat) (t : TypeId) (hi : S.H[i]? = some (.bx v)) : Weak kp N S ⟨S.s, S.H.set i (.bx (tydV E v t))⟩ := by
  intro c hc m w a hinv hs
  refine ⟨m, ?_, hs⟩
  obtain ⟨b, cur, e, hd, hh, hM, hw, hcs, hcc⟩ := hinv.ok _ _ hi
  obtain ⟨k1, k2⟩ := tydV_ok E v t
  obtain ⟨k3, k4⟩ := k2 hw
  refine hinv.upd (w' := w) hi rfl rfl rfl rfl rfl (fun _ _ => rfl) ⟨b, cur, e, hd, hh, hM, k3, by rw [hcs, k1], fun j d hj => ?_⟩
  obtain ⟨c', hc', hr⟩ := k4 j d hj
  obtain ⟨u, hu, hru⟩ := hcc j c' hc'
  exact ⟨u, hu, hr m u hru⟩

/-- nil in a box, taken for an empty row of the call's own. -/
theorem Weak.ownBx {N : Nat} {S : AS} {v v' : AV} (i : Nat) (p : List Nat) (o : Nat) (B : Blk) (hi : S.H[i]? = some (.bx v)) (hg : AV.get v p = some (.t .nil)) (ho : AV.off v p = some o) (hs' : AV.set v p (.own S.H.length) = some v')
    (hB : B = .by [] ∨ ∃ sz, 0 < sz ∧ B = .sq sz []) : Weak kp N S ⟨S.s, (S.H.set i (.bx v')) ++ [B]⟩ := by
  intro c hc m w a hinv hs
  have hlt := (List.getElem?_eq_some_iff.1 hi).1
  have h1 : Inv c (m.push (.slice none 0 0)) w (S.H ++ [B]) := by
    refine hinv.fresh rfl rfl rfl (Nat.le_refl _) (fun _ _ => rfl) ?_ (fun b _ hb => by cases hb)
    rcases hB with rfl | ⟨sz, hsz, rfl⟩
    · exact .inl ⟨rfl, rfl⟩
    · exact ⟨by simp [T.wf, hsz, T.wfL], .inl ⟨rfl, rfl⟩⟩
  have hext := Ext.push m (.slice none 0 0)
  refine ⟨m.push (.slice none 0 0), ?_, hs.mono hext⟩
  have hi1 : (S.H ++ [B])[i]? = some (.bx v) := by rw [List.getElem?_append_left hlt]; exact hi
  obtain ⟨b, cur, e, hd, hh, hM, hw, hcs, hcc⟩ := h1.ok _ _ hi1
  obtain ⟨k1, k2, k3, k4⟩ := AV.set_ok p v _ _ v' o hw hg ho hs' (by trivial) rfl
  have hold : ∀ j c', (AV.t T.nil).cells[j]? = some c' → v.cells[o + j]? = some c' := (AV.get_ok p v _ o hw hg ho).2
  have := h1.upd (w' := w) (B1 := .bx v') hi1 rfl rfl rfl rfl rfl (fun _ _ => rfl) ⟨b, cur, e, hd, hh, hM, k1, by rw [hcs, k2], fun j d hj => by
    rw [k4 j] at hj
    by_cases hr : o ≤ j ∧ j < o + (AV.own S.H.length).cells.length
    · rw [if_pos hr] at hj
      have hj0 : j = o := by simp [AV.cells] at hr; omega
      subst hj0
      simp [AV.cells] at hj
      subst hj
      obtain ⟨u, hu, hru⟩ := hcc j (.t .nil) (by have := hold 0 (.t .nil) rfl; simpa using this)
      have := hru.t_inv
      cases this
      exact ⟨_, hu, push_own hinv.len _⟩
    · rw [if_neg hr] at hj
      exact hcc j d hj⟩
  rw [List.set_append_left _ _ hlt] at this
  exact this

end

/-! ### Entry and end. -/

def thawV (H : List Blk) (v : AV) : AV :=
  match immV H v with
  | some x => .t x
  | none => v

theorem thawV_ok {c : Ctx} {m : Mem} {w : World} {H : List Blk} (h : Inv c m w H) {v : AV} {u : Value} (hv : RelA m v u) : RelA m (thawV H v) u := by
  unfold thawV
  split
  · rename_i x hx; exact .t (immV_rel h hv hx)
  · exact hv

def retValsG (E : Env) (H : List Blk) (s : Slots) (rs : List (Nat × TypeId)) : List AV := rs.map fun p => thawV H (tydV E (lk p.1 s) p.2)

/-- The end of a function that is lent so many blocks. -/
def gretQ (E : Env) (rs : List (Nat × TypeId)) (k : Nat) (H : List Blk) (r : AV) : Exit → AS → Prop := fun e S =>
  (e = .normal ∨ e = .ret) ∧ ∃ fz ids : List Nat, okIds k ids ∧ renH ids (freezeOnes S.H fz) = H ∧ (one (retValsG E (freezeOnes S.H fz) S.s rs)).ren ids = r

def gentry (i : Nat) : List AV → Slots
  | [] => []
  | x :: xs => (i, x) :: gentry (i + 1) xs

theorem gcon {P : Program} {E : Env} {f : FuncId} {fn : Func} {code : Code} {N np : Nat} {rs : List (Nat × TypeId)} (hfn : P.funcs[f]? = some fn) (hb : fn.body = some code) (hN : fn.ntmps = N)
    (hname : (fn.name == "runtime.NumGoroutine") = false) (hres : fn.results.toList = (rs.map (·.1)).map ResultVar.tmp) (hnp : np ≤ N) (G : GFun) (hG : ∀ HB xs, xs.length ≠ np → G HB xs = none)
    (main : ∀ HB xs H r, G HB xs = some (H, r) → (∀ x ∈ xs, x.wf) → (∃ c m w, Inv c m w HB) → AWP HB.length P N code (gretQ E rs HB.length H r) ⟨gentry 0 xs, HB⟩) : GCon P f G := by
  refine ⟨⟨fn, hfn, hname, by rw [hb]; rfl⟩, fun HB xs H r hGx m w vs hinv hlen hrel => ?_⟩
  have hxs : xs.length = np := by
    rcases Nat.decEq xs.length np with h | h
    · rw [hG HB xs h] at hGx; cases hGx
    · exact h
  refine calls_of_wp hfn hb ?_
  have hwf : ∀ x ∈ xs, x.wf := fun x hx => by
    obtain ⟨i, hi⟩ := List.getElem?_of_mem hx
    obtain ⟨u, _, hu⟩ := hrel i x hi
    exact hu.wf
  have hentry : ∀ (xs : List AV) (k i : Nat), lk i (gentry k xs) = (if h : k ≤ i ∧ i - k < xs.length then (xs[i - k]'h.2) else .any) := by
    intro xs
    induction xs with
    | nil => intro k i; simp [gentry, lk]
    | cons x xs ih =>
      intro k i
      simp only [gentry, lk]
      split
      · rename_i e; subst e; simp
      · rename_i e
        rw [ih (k + 1) i]
        by_cases hk : k + 1 ≤ i ∧ i - (k + 1) < xs.length
        · rw [dif_pos hk, dif_pos ⟨by omega, by simp; omega⟩]
          have : i - k = (i - (k + 1)) + 1 := by omega
          simp only [this, List.getElem_cons_succ]
        · rw [dif_neg hk, dif_neg (by simp; omega)]
  have rel0 : RelS m N { tmps := vs.toArray ++ Array.replicate (fn.ntmps - vs.toArray.size) undef, defers := [] } (gentry 0 xs) := by
    refine ⟨rfl, by simp; omega, fun i => ?_⟩
    rw [hentry xs 0 i]
    split
    · rename_i h
      simp only [Nat.sub_zero] at h ⊢
      obtain ⟨u, h1, h2⟩ := hrel i _ (List.getElem?_eq_getElem h.2)
      have hlt := (List.getElem?_eq_some_iff.1 h1).1
      have : (vs.toArray ++ Array.replicate (fn.ntmps - vs.toArray.size) undef).getD i undef = u := by
        rw [Array.getD_eq_getD_getElem?, Array.getElem?_append_left (by simpa using hlt)]
        simp [h1]
      rw [this]; exact h2
    · exact .any
  refine wp_mono (main HB xs H r hGx hwf ⟨_, _, _, hinv⟩ (ctxL w m HB) rfl m w _ hinv rel0) fun e a w' ⟨m2, S, h1, h2, h3, fz, ids, hnd, hH, hr⟩ => ?_
  obtain ⟨m', e1, h1'⟩ := freezeOnes_ok fz m2 S.H h1
  have h2' := h2.mono e1
  have hresrun := results_tmps (P := P) hres a.tmps w'
  have hvals : RelA m' (one (retValsG E (freezeOnes S.H fz) S.s rs)) (match (rs.map (·.1)).map fun t => a.tmps.getD t undef with | [v] => v | vs => .tuple vs.toArray) := by
    have each : ∀ p : Nat × TypeId, RelA m' (thawV (freezeOnes S.H fz) (tydV E (lk p.1 S.s) p.2)) (a.tmps.getD p.1 undef) := fun p => thawV_ok h1' ((h2'.2.2 p.1).typed E p.2)
    have hget : ∀ (i : Nat) (c : AV), (retValsG E (freezeOnes S.H fz) S.s rs)[i]? = some c → ∃ x, rs[i]? = some x ∧ c = thawV (freezeOnes S.H fz) (tydV E (lk x.1 S.s) x.2) := by
      intro i c hi
      simp only [retValsG, List.getElem?_map, Option.map_eq_some_iff] at hi
      obtain ⟨x, hx, rfl⟩ := hi
      exact ⟨x, hx, rfl⟩
    clear hr hres hresrun main
    match rs with
    | [] => exact .tup rfl (fun i c h => by simp [retValsG] at h)
    | [p] => exact each p
    | p :: q :: rs' =>
      refine .tup (by simp [retValsG]) fun i c hi => ?_
      obtain ⟨x, hx, rfl⟩ := hget i c hi
      have : (((p :: q :: rs').map (·.1)).map fun t => a.tmps.getD t undef).toArray.getD i undef = a.tmps.getD x.1 undef := by
        rw [Array.getD_eq_getD_getElem?, List.getElem?_toArray, List.getElem?_map, List.getElem?_map, hx]; rfl
      have key := each x
      rw [← this] at key
      exact key
  have h4 := h1'.ren ids hnd.1 hnd.get
  have fin : a.defers = [] ∧ ∃ v, (results fn a.tmps).run P w' = .ok v w' ∧ ∃ m3 u, Ending.returned v = .returned u ∧ MLe m.M m3.M ∧ Inv (ctxL w m HB) m3 w' H ∧ RelA m3 r u :=
    ⟨h2.1, _, hresrun, _, _, rfl, h4.le, by rw [← hH]; exact h4, by rw [← hr]; exact hvals.ren ids⟩
  rcases h3 with rfl | rfl
  · exact fin
  · exact fin

end Go.Fw

end
