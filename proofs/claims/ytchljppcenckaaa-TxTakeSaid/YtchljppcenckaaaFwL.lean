/- The abstract machine, and the contracts of the code: part 14. -/
import Derived.Test.YtchljppcenckaaaFwKb

section
/- Operations in their order, and code: the abstract machine's rules. -/
namespace Go.Fw
set_option linter.unusedVariables false
set_option linter.unusedSimpArgs false
open Go

structure AS where
  s : Slots
  H : List Blk

def RelS (m : Mem) (N : Nat) (a : Act) (s : Slots) : Prop := a.defers = [] ∧ a.tmps.size = N ∧ ∀ i, RelA m (lk i s) (a.tmps.getD i undef)

theorem RelS.mono {m m' : Mem} {N : Nat} {a : Act} {s : Slots} (h : RelS m N a s) (hm : Ext m m') : RelS m' N a s := ⟨h.1, h.2.1, fun i => (h.2.2 i).mono hm⟩

theorem RelS.ev {m : Mem} {N : Nat} {a : Act} {s : Slots} (h : RelS m N a s) (x : Operand) : RelA m (ev s x) (a.eval x) := by
  cases x with
  | tmp i => exact h.2.2 i
  | const v => exact konst_ok m v
  | global g => exact .any
  | func f => exact .t .fn

theorem RelS.put {m : Mem} {N : Nat} {a : Act} {s : Slots} (h : RelS m N a s) {d : Nat} (hd : d < N) {v : AV} {u : Value} (hv : RelA m v u) : RelS m N (a.put (some d) u) ((d, v) :: s) := by
  obtain ⟨h1, h2, h3⟩ := h
  refine ⟨h1, by simp [Act.put, h2], fun i => ?_⟩
  simp only [lk, Act.put]
  split
  · rename_i e
    subst e
    have : (a.tmps.setIfInBounds i u).getD i undef = u := by simp [h2, hd]
    rw [this]; exact hv
  · rename_i e
    have : (a.tmps.setIfInBounds d u).getD i undef = a.tmps.getD i undef := by
      simp only [Array.getD_eq_getD_getElem?]
      rw [Array.getElem?_setIfInBounds_ne (fun h => e h.symm)]
    rw [this]; exact h3 i

/-- The contracts that a body leans on. -/
abbrev Calls? := List (FuncId × Fun)

def lkF (f : FuncId) : Calls? → Option Fun
  | [] => none
  | (g, F) :: r => if f = g then some F else lkF f r

def ClOk (P : Program) (cl : Calls?) : Prop := ∀ f F, lkF f cl = some F → ACon P f F

theorem ClOk.nil (P : Program) : ClOk P [] := fun f F h => by simp [lkF] at h
theorem ClOk.cons {P : Program} {f : FuncId} {F : Fun} {cl : Calls?} (h : ACon P f F) (hc : ClOk P cl) : ClOk P ((f, F) :: cl) := fun g G hg => by
  simp only [lkF] at hg
  split at hg
  · rename_i e; subst e; cases hg; exact h
  · exact hc g G hg

def tydL (E : Env) : List TypeId → List AV → List AV
  | t :: ts, v :: vs => tyd E t v :: tydL E ts vs
  | _, vs => vs

def still (H : List Blk) (v : Option AV) : Option (AV × List Blk) :=
  match v with
  | some v => some (v, H)
  | none => none

def astep (E : Env) (cl : Calls?) (s : Slots) (H : List Blk) (op : Op) : Option (AV × List Blk) :=
  match op with
  | .call ⟨.value (.func f), args, tys⟩ => match lkF f cl with
    | some F => callF F H (tydL E tys.toList (args.toList.map (ev s)))
    | none => none
  | .call ⟨.builtin .append, args, tys⟩ => match args.toList, tys.toList with
    | [x, y], [t, u] => aAppend E H t u (ev s x) (ev s y)
    | _, _ => none
  | .call ⟨.builtin .copy, args, tys⟩ => match args.toList, tys.toList with
    | [x, y], [t, u] => aCopy E H t (ev s x) (ev s y)
    | _, _ => none
  | .makeSlice t l c => aMake E H t (ev s l) (ev s c)
  | .buildSlice t len parts => match aBuildSlice E H s t len parts.toList with
    | some r => some r
    | none => aBuildList E H s t len parts.toList
  | .store t a x => match aStore E H t (ev s a) (ev s x) with
    | some H' => some (.und, H')
    | none => none
  | op => still H (aStill E H s op)

theorem run_enter {P : Program} {f : FuncId} {fn : Func} (hfn : P.funcs[f]? = some fn) (hname : (fn.name == "runtime.NumGoroutine") = false) (hbody : fn.body.isNone = false) (args : Array Value) (w : World) :
    (callFunc f args).run P w = .ok (.enter f args) w := by
  unfold callFunc
  simp only [Sem.run_bind, run_program, Result.andThen_ok, hfn]
  rw [if_neg (by rw [hname]; simp), if_neg (by rw [hbody]; simp)]
  rfl

/-- What a step leaves, said of the operation's weakest precondition. -/
theorem astep_ok {P : Program} {E : Env} (hE : EnvOk P E) (hB : ByteOk E) {cl : Calls?} (hcl : ClOk P cl) {c : Ctx} {m : Mem} {w : World} {a : Act} {N : Nat} {S : AS} (h : Inv c m w S.H) (hs : RelS m N a S.s) {o : Oper} {v : AV} {H' : List Blk}
    (hv : astep E cl S.s S.H o.op = some (v, H')) (K : Act → World → Prop) (Q : Exit → Act → World → Prop)
    (hK : ∀ m' w' u, Ext m m' → Inv c m' w' H' → RelA m' v u → K (a.put o.dst u) w') : o.wp P a w K Q := by
  have val : ∀ {m' : Mem} {w' : World} {u : Value}, (execOp a.eval o).run P w = .ok (.value u) w' → Ext m m' → Inv c m' w' H' → RelA m' v u → o.wp P a w K Q := by
    intro m' w' u hrun e1 h1 hu
    unfold Oper.wp
    rw [hrun]
    exact hK m' w' u e1 h1 hu
  unfold astep at hv
  split at hv
  · rename_i f args tys hop
    split at hv
    · rename_i F hF
      have hcon := hcl f F hF
      have hargs : ∀ (i : Nat) (x : AV), (tydL E tys.toList (args.toList.map (ev S.s)))[i]? = some x → ∃ u, (args.toList.map a.eval)[i]? = some u ∧ RelA m x u := by
        have gen : ∀ (ts : List TypeId) (xs : List Operand) (i : Nat) (x : AV), (tydL E ts (xs.map (ev S.s)))[i]? = some x → ∃ u, (xs.map a.eval)[i]? = some u ∧ RelA m x u := by
          intro ts xs
          induction xs generalizing ts with
          | nil => intro i x hi; cases ts <;> simp [tydL] at hi
          | cons y ys ih =>
            intro i x hi
            cases ts with
            | nil =>
              simp only [tydL, List.map_cons] at hi
              cases i with
              | zero => simp at hi; subst hi; exact ⟨_, rfl, hs.ev y⟩
              | succ i => exact ih [] i x (by simpa [tydL] using hi)
            | cons t ts =>
              simp only [tydL, List.map_cons] at hi
              cases i with
              | zero => simp at hi; subst hi; exact ⟨_, rfl, tyd_ok (hs.ev y)⟩
              | succ i => exact ih ts i x (by simpa using hi)
        exact gen _ _
      have hlen : (args.toList.map a.eval).length = (tydL E tys.toList (args.toList.map (ev S.s))).length := by
        have gen : ∀ (ts : List TypeId) (vs : List AV), (tydL E ts vs).length = vs.length := by
          intro ts vs
          induction vs generalizing ts with
          | nil => cases ts <;> rfl
          | cons v vs ih => cases ts <;> simp [tydL, ih]
        rw [gen]; simp
      have hc := callF_ok hcon h hlen hargs hv
      obtain ⟨⟨fn, hfn, hname, hbody⟩⟩ := hcon.1
      have hrun : (execOp a.eval o).run P w = .ok (.enter f (args.toList.map a.eval).toArray) w := by
        have e1 : (args.toList.map a.eval).toArray = args.map a.eval := by apply Array.ext'; simp
        have e2 := run_enter hfn hname hbody (#[] ++ args.map a.eval ++ #[]) w
        have e3 : (#[] ++ args.map a.eval ++ #[] : Array Value) = args.map a.eval := by simp
        rw [e3] at e2
        rw [e1]
        simp [execOp, hop, resolve, Act.eval, Deferred.ofValue, invoke]
        exact e2
      unfold Oper.wp
      rw [hrun]
      refine hc.mono fun e w' ⟨m', u, he, e1, h1, hu⟩ => ?_
      subst he
      exact hK m' w' u e1 h1 hu
    · cases hv
  · rename_i args tys hop
    split at hv
    · rename_i x y t u h1 h2
      obtain rfl : args = #[x, y] := by cases args; simp_all
      obtain rfl : tys = #[t, u] := by cases tys; simp_all
      obtain ⟨m', w', val', e1, i1, r1, run⟩ := aAppend_ok (ty := o.type) hE hB h (hs.ev x) (hs.ev y) hv
      exact val (by simp [execOp, hop, resolve, invoke, builtin, run]) e1 i1 r1
    · cases hv
  · rename_i args tys hop
    split at hv
    · rename_i x y t u h1 h2
      obtain rfl : args = #[x, y] := by cases args; simp_all
      obtain rfl : tys = #[t, u] := by cases tys; simp_all
      obtain ⟨m', w', val', e1, i1, r1, run⟩ := aCopy_ok (u := u) (ty := o.type) hE h (hs.ev x) (hs.ev y) hv
      exact val (by simp [execOp, hop, resolve, invoke, builtin, run]) e1 i1 r1
    · cases hv
  · rename_i t l cp hop
    obtain ⟨m', w', val', e1, i1, r1, run⟩ := aMake_ok hE hB h (hs.ev l) (hs.ev cp) hv
    exact val (by simp [execOp, hop, run]) e1 i1 r1
  · rename_i t len parts hop
    split at hv
    · rename_i r hr
      cases hv
      obtain ⟨m', w', val', e1, i1, r1, run⟩ := aBuildSlice_ok hE hB h (fun x => hs.ev x) hr
      exact val (by simp only [execOp, hop, Sem.run_bind, run, Result.andThen_ok, Sem.run_pure]) e1 i1 r1
    · obtain ⟨m', w', val', e1, i1, r1, run⟩ := aBuildList_ok hE h (fun x => hs.ev x) hv
      exact val (by simp only [execOp, hop, Sem.run_bind, run, Result.andThen_ok, Sem.run_pure]) e1 i1 r1
  · rename_i t ad x hop
    split at hv
    · rename_i H1 hH1
      cases hv
      obtain ⟨w', i1, run⟩ := aStore_ok hE h (hs.ev ad) (hs.ev x) hH1
      have hrun : (execOp a.eval o).run P w = .ok .skip w' := by simp [execOp, hop, run]
      unfold Oper.wp
      rw [hrun]
      exact hK m w' undef (.refl m) i1 .und
    · cases hv
  · unfold still at hv
    split at hv
    · rename_i v' hv'
      cases hv
      obtain ⟨u, r1, run⟩ := aStill_ok hE h (fun x => hs.ev x) hv'
      exact val run (.refl m) h r1
    · cases hv

/-- May the operation run? -/
def wantA (ops : List Oper) (s : Slots) (o : Oper) : Option Bool :=
  match o.guard with
  | none => some true
  | some (j, want) => match ops[j]? with
    | none => none
    | some oj => match oj.dst with
      | none => none
      | some d => match lk d s with
        | .t (.bool b) => some (b == want)
        | .und => some false
        | _ => none

def aputs (N : Nat) (o : Oper) (v : AV) (s : Slots) : Option Slots :=
  match o.dst with
  | none => some s
  | some d => if d < N then some ((d, v) :: s) else none

def aops (E : Env) (cl : Calls?) (N : Nat) (ops : List Oper) : List Oper → AS → Option AS
  | [], S => some S
  | o :: l, S => match wantA ops S.s o with
    | some true => match astep E cl S.s S.H o.op with
      | some (v, H') => match aputs N o v S.s with
        | some s' => aops E cl N ops l ⟨s', H'⟩
        | none => none
      | none => none
    | some false => match aputs N o .und S.s with
      | some s' => aops E cl N ops l ⟨s', S.H⟩
      | none => none
    | none => none

theorem wantA_ok {m : Mem} {N : Nat} {a : Act} {s : Slots} (hs : RelS m N a s) {ops : Array Oper} {o : Oper} {b : Bool} (h : wantA ops.toList s o = some b) : Region.wanted o (yielded ops a.tmps) = b := by
  unfold wantA at h
  unfold Region.wanted
  split at h
  · rename_i hg; rw [hg]; cases h; rfl
  · rename_i j want hg
    rw [hg]
    simp only
    split at h
    · cases h
    · rename_i oj hoj
      have hoj' : ops[j]? = some oj := by simpa using hoj
      split at h
      · cases h
      · rename_i d hd
        have hr := hs.2.2 d
        unfold yielded
        simp only [hoj', Option.bind_some, hd]
        split at h
        · rename_i p hp
          rw [hp] at hr
          have := hr.bool_inv
          cases h
          have hget : a.tmps[d]? = some (.bool p) := by
            cases e : a.tmps[d]? with
            | none => rw [Array.getD_eq_getD_getElem?, e] at this; simp [undef] at this
            | some x => rw [Array.getD_eq_getD_getElem?, e] at this; simpa using this
          rw [hget]; rfl
        · rename_i hp
          rw [hp] at hr
          cases h
          have hu : a.tmps.getD d undef = undef := by generalize a.tmps.getD d undef = u at hr; cases hr; rfl
          cases e : a.tmps[d]? with
          | none => rfl
          | some x =>
            rw [Array.getD_eq_getD_getElem?, e] at hu
            simp at hu
            subst hu; rfl
        · cases h

theorem RelS.puts {m : Mem} {N : Nat} {a : Act} {s s' : Slots} (h : RelS m N a s) {o : Oper} {v : AV} {u : Value} (hv : RelA m v u) (hp : aputs N o v s = some s') : RelS m N (a.put o.dst u) s' := by
  unfold aputs at hp
  split at hp
  · rename_i hd; cases hp; rw [hd]; exact h
  · rename_i d hd
    split at hp
    · rename_i hlt; cases hp; rw [hd]; exact h.put hlt hv
    · cases hp

theorem aops_ok {P : Program} {E : Env} (hE : EnvOk P E) (hB : ByteOk E) {cl : Calls?} (hcl : ClOk P cl) {c : Ctx} {N : Nat} {ops : Array Oper} {Q : Exit → Act → World → Prop} : ∀ (l : List Oper) (S S' : AS) (m : Mem) (w : World) (a : Act),
    aops E cl N ops.toList l S = some S' → Inv c m w S.H → RelS m N a S.s → (∀ m' w' a', Inv c m' w' S'.H → RelS m' N a' S'.s → Q .normal a' w') → wpList P ops Q l a w := by
  intro l
  induction l with
  | nil => intro S S' m w a h hi hs hQ; cases h; exact wpList_nil (hQ m w a hi hs)
  | cons o l ih =>
    intro S S' m w a h hi hs hQ
    simp only [aops] at h
    split at h
    · rename_i hw
      have hw' := wantA_ok hs hw
      split at h
      · rename_i v H' hstep
        split at h
        · rename_i s' hp
          unfold wpList
          rw [if_pos hw']
          refine .inl (astep_ok hE hB hcl hi hs hstep _ _ fun m' w' u e1 h1 hu => ?_)
          exact ih _ S' m' w' _ h h1 ((hs.mono e1).puts hu hp) hQ
        · cases h
      · cases h
    · rename_i hw
      have hw' := wantA_ok hs hw
      split at h
      · rename_i s' hp
        unfold wpList
        rw [if_neg (by rw [hw']; simp)]
        exact ih _ S' m w _ h hi (hs.puts .und hp) hQ
      · cases h
    · cases h

/-! ### Code. -/

section
variable {kp : Nat}

def APost (c : Ctx) (N : Nat) (Q : Exit → AS → Prop) : Exit → Act → World → Prop := fun e a w => ∃ m S, Inv c m w S.H ∧ RelS m N a S.s ∧ Q e S

def AWP (kp : Nat) (P : Program) (N : Nat) (code : Code) (Q : Exit → AS → Prop) (S : AS) : Prop :=
  ∀ (c : Ctx), c.k = kp → ∀ (m : Mem) (w : World) (a : Act), Inv c m w S.H → RelS m N a S.s → code.wp P (APost c N Q) a w

/-- Whoever stands in the one state stands in the other, too. -/
def Weak (kp : Nat) (N : Nat) (S S' : AS) : Prop := ∀ (c : Ctx), c.k = kp → ∀ (m : Mem) (w : World) (a : Act), Inv c m w S.H → RelS m N a S.s → ∃ m', Inv c m' w S'.H ∧ RelS m' N a S'.s

theorem Weak.refl (N : Nat) (S : AS) : Weak kp N S S := fun c hc m w a h hs => ⟨m, h, hs⟩
theorem Weak.trans {N : Nat} {S S' S'' : AS} (h : Weak kp N S S') (k : Weak kp N S' S'') : Weak kp N S S'' := fun c hc m w a hi hs =>
  let ⟨m', h1, h2⟩ := h c hc m w a hi hs; k c hc m' w a h1 h2

theorem AWP.weak {P : Program} {N : Nat} {code : Code} {Q : Exit → AS → Prop} {S S' : AS} (hw : Weak kp N S S') (h : AWP kp P N code Q S') : AWP kp P N code Q S := fun c hc m w a hi hs =>
  let ⟨m', h1, h2⟩ := hw c hc m w a hi hs; h c hc m' w a h1 h2

theorem AWP.mono {P : Program} {N : Nat} {code : Code} {Q Q' : Exit → AS → Prop} {S : AS} (h : AWP kp P N code Q S) (hq : ∀ e S, Q e S → Q' e S) : AWP kp P N code Q' S := fun c hc m w a hi hs =>
  wp_mono (h c hc m w a hi hs) fun e a w ⟨m, S, h1, h2, h3⟩ => ⟨m, S, h1, h2, hq e S h3⟩

def prune (keep : List Nat) (s : Slots) : Slots := keep.map fun i => (i, lk i s)

theorem RelS.prune {m : Mem} {N : Nat} {a : Act} {s : Slots} (h : RelS m N a s) (keep : List Nat) : RelS m N a (prune keep s) := by
  refine ⟨h.1, h.2.1, fun i => ?_⟩
  have : lk i (Fw.prune keep s) = lk i s ∨ lk i (Fw.prune keep s) = .any := by
    induction keep with
    | nil => exact .inr rfl
    | cons k r ih =>
      simp only [Fw.prune, List.map_cons, lk]
      split
      · rename_i e; subst e; exact .inl rfl
      · exact ih
  rcases this with e | e
  · rw [e]; exact h.2.2 i
  · rw [e]; exact .any

theorem Weak.prune (N : Nat) (keep : List Nat) (s : Slots) (H : List Blk) : Weak kp N ⟨s, H⟩ ⟨prune keep s, H⟩ := fun c hc m w a h hs => ⟨m, h, hs.prune keep⟩

def seqQ (kp : Nat) (P : Program) (N : Nat) (y : Code) (Q : Exit → AS → Prop) : Exit → AS → Prop
  | .normal, S => AWP kp P N y Q S
  | e, S => Q e S

theorem AWP.seq {P : Program} {N : Nat} {x y : Code} {Q : Exit → AS → Prop} {S : AS} (h : AWP kp P N x (seqQ kp P N y Q) S) : AWP kp P N (.seq x y) Q S := fun c hc m w a hi hs =>
  wp_seq (wp_mono (h c hc m w a hi hs) fun e a w ⟨m, S, h1, h2, h3⟩ => by
    cases e with
    | normal => exact h3 c hc m w a h1 h2
    | _ => exact ⟨m, S, h1, h2, h3⟩)

theorem AWP.region {P : Program} {E : Env} (hE : EnvOk P E) (hB : ByteOk E) {cl : Calls?} (hcl : ClOk P cl) {N id : Nat} {ops : Array Oper} {Q : Exit → AS → Prop} {S S' : AS} (keep : List Nat)
    (h : aops E cl N ops.toList ops.toList S = some S') (hQ : Q .normal ⟨prune keep S'.s, S'.H⟩) : AWP kp P N (.region id ops false) Q S := fun c hc m w a hi hs =>
  wp_region_list (aops_ok hE hB hcl _ S S' m w a h hi hs fun m' w' a' h1 h2 => ⟨m', ⟨prune keep S'.s, S'.H⟩, h1, h2.prune keep, hQ⟩)

theorem AWP.cond {P : Program} {N : Nat} {cd : Operand} {x y : Code} {Q : Exit → AS → Prop} {S : AS} {b : Bool} (hc : ev S.s cd = .t (.bool b)) (ht : b = true → AWP kp P N x Q S) (hf : b = false → AWP kp P N y Q S) :
    AWP kp P N (.cond cd x y) Q S := fun c hk m w a hi hs =>
  wp_cond_split (t := b) (by have := hs.ev cd; rw [hc] at this; exact this.bool_inv) (fun h => ht h c hk m w a hi hs) (fun h => hf h c hk m w a hi hs)

def blockQ (id : Nat) (Q : Exit → AS → Prop) : Exit → AS → Prop
  | .exit id', S => if id' = id then Q .normal S else Q (.exit id') S
  | e, S => Q e S

theorem AWP.block {P : Program} {N id : Nat} {x : Code} {Q : Exit → AS → Prop} {S : AS} (h : AWP kp P N x (blockQ id Q) S) : AWP kp P N (.block id x) Q S := fun c hc m w a hi hs =>
  wp_block (wp_mono (h c hc m w a hi hs) fun e a w ⟨m, S, h1, h2, h3⟩ => by
    cases e with
    | exit id' =>
      simp only [Exit.inBlock, blockQ] at h3 ⊢
      split
      · rename_i e; rw [if_pos e] at h3; exact ⟨m, S, h1, h2, h3⟩
      · rename_i e; rw [if_neg e] at h3; exact ⟨m, S, h1, h2, h3⟩
    | _ => exact ⟨m, S, h1, h2, h3⟩)

theorem AWP.exit {P : Program} {N id : Nat} {Q : Exit → AS → Prop} {S : AS} (h : Q (.exit id) S) : AWP kp P N (.exit id) Q S := fun c hc m w a hi hs => wp_exit ⟨m, S, hi, hs, h⟩
theorem AWP.ret {P : Program} {N : Nat} {Q : Exit → AS → Prop} {S : AS} (h : Q .ret S) : AWP kp P N .ret Q S := fun c hc m w a hi hs => wp_ret ⟨m, S, hi, hs, h⟩
theorem AWP.skip {P : Program} {N : Nat} {Q : Exit → AS → Prop} {S : AS} (h : Q .normal S) : AWP kp P N .skip Q S := fun c hc m w a hi hs => wp_skip ⟨m, S, hi, hs, h⟩

def loopQ {G : Type} (kp : Nat) (N : Nat) (st : G → AS) (μ : G → Nat) (g : G) (Q : Exit → AS → Prop) : Exit → AS → Prop
  | .normal, S => ∃ g', Weak kp N S (st g') ∧ μ g' < μ g
  | e, S => Q e S

theorem exists_least (p : Nat → Prop) (h : ∃ n, p n) : ∃ n, p n ∧ ∀ k, p k → n ≤ k := by
  obtain ⟨n, hn⟩ := h
  induction n using Nat.strongRecOn with
  | _ n ih =>
    by_cases hk : ∃ k, k < n ∧ p k
    · obtain ⟨k, h1, h2⟩ := hk; exact ih k h1 h2
    · refine ⟨n, hn, fun k h2 => ?_⟩
      rcases Nat.lt_or_ge k n with h1 | h1
      · exact (hk ⟨k, h1, h2⟩).elim
      · exact h1

theorem AWP.loop {P : Program} {N : Nat} {body : Code} {Q : Exit → AS → Prop} {S : AS} {G : Type} (st : G → AS) (μ : G → Nat) (g0 : G) (h0 : Weak kp N S (st g0))
    (step : ∀ g, AWP kp P N body (loopQ kp N st μ g Q) (st g)) : AWP kp P N (.loop body) Q S := by
  intro c hc m w a hi hs
  classical
  let J : Nat → Act → World → Prop := fun n a w => ∃ g m, μ g = n ∧ Inv c m w (st g).H ∧ RelS m N a (st g).s
  let I : Act → World → Prop := fun a w => ∃ n, J n a w
  let M : Act → World → Nat := fun a w => if h : ∃ n, J n a w then Classical.choose (exists_least _ h) else 0
  obtain ⟨m0, i0, s0⟩ := h0 c hc m w a hi hs
  refine wp_loop I M ⟨μ g0, g0, m0, rfl, i0, s0⟩ ?_
  intro a w hI
  have hM : M a w = Classical.choose (exists_least _ hI) := by simp only [M]; exact dif_pos hI
  obtain ⟨⟨g, m, hg, h1, h2⟩, _⟩ := Classical.choose_spec (exists_least _ hI)
  refine wp_mono (step g c hc m w a h1 h2) fun e a' w' ⟨m', S', h3, h4, h5⟩ => ?_
  cases e with
  | normal =>
    obtain ⟨g', hw, hlt⟩ := h5
    obtain ⟨m'', h6, h7⟩ := hw c hc m' w' a' h3 h4
    have hJ : J (μ g') a' w' := ⟨g', m'', rfl, h6, h7⟩
    have hI' : I a' w' := ⟨_, hJ⟩
    refine ⟨hI', ?_⟩
    have hM' : M a' w' = Classical.choose (exists_least _ hI') := by simp only [M]; exact dif_pos hI'
    rw [hM, hM']
    have := (Classical.choose_spec (exists_least _ hI')).2 _ hJ
    omega
  | _ => exact ⟨m', S', h3, h4, h5⟩

end

end Go.Fw

end
