/- The abstract machine, and the contracts of the code: part 52. -/
import Derived.LoopIn
import Derived.Test.YthhpapbokodpdaaP51

section
/- A range over a function: the function that holds one; the loop's record beside the abstract memory. -/
namespace Go.Fw
set_option linter.unusedVariables false
set_option linter.unusedSimpArgs false
open Go Go.RowKit

/-- What a contract asks of a function's end. -/
def Rg (c : Ctx) (H : List Blk) (r : AV) : Ending → World → Prop := fun e w' => ∃ m' v, e = .returned v ∧ MLe c.M0 m'.M ∧ Inv c m' w' H ∧ RelA m' r v

def AWM (kp : Nat) (P : Program) (N : Nat) (code : Code) (K : Ctx → Exit → Act → World → Prop) (S : AS) : Prop :=
  ∀ (c : Ctx), c.k = kp → ∀ (m : Mem) (w : World) (a : Act), Inv c m w S.H → RelS m N a S.s → code.wpIn Fence.wide 0 P (K c) a w

section
variable {kp : Nat} {P : Program} {N : Nat} {K : Ctx → Exit → Act → World → Prop} {S : AS}

def seqM (kp : Nat) (P : Program) (N : Nat) (y : Code) (K : Ctx → Exit → Act → World → Prop) : Exit → AS → Prop
  | .normal, S => AWM kp P N y K S
  | e, S => ∀ (c : Ctx), c.k = kp → ∀ (m : Mem) (w : World) (a : Act), Inv c m w S.H → RelS m N a S.s → K c e a w
theorem AWM.seq {x y : Code} (h : AWP kp P N x (seqM kp P N y K) S) : AWM kp P N (.seq x y) K S := fun c hc m w a hi hs =>
  wpIn_seq (wpIn_mono (wpIn_wide.2 (h c hc m w a hi hs)) fun e a' w' ⟨m1, S1, h1, h2, h3⟩ => by
    cases e with
    | normal => exact h3 c hc m1 w' a' h1 h2
    | _ => exact h3 c hc m1 w' a' h1 h2)
/-- A part that is walked by itself, in the midst. -/
def seqZ (kp : Nat) (P : Program) (N : Nat) (z y : Code) (K : Ctx → Exit → Act → World → Prop) : Exit → AS → Prop
  | .normal, S => ∀ (c : Ctx), c.k = kp → ∀ (m : Mem) (w : World) (a : Act), Inv c m w S.H → RelS m N a S.s → z.wpIn Fence.wide 0 P (Exit.then (y.wpIn Fence.wide 0 P (K c)) (K c)) a w
  | e, S => ∀ (c : Ctx), c.k = kp → ∀ (m : Mem) (w : World) (a : Act), Inv c m w S.H → RelS m N a S.s → K c e a w
theorem AWM.seq2 {x z y : Code} (h : AWP kp P N x (seqZ kp P N z y K) S) : AWM kp P N (.seq (.seq x z) y) K S := fun c hc m w a hi hs =>
  wpIn_seq (wpIn_seq (wpIn_mono (wpIn_wide.2 (h c hc m w a hi hs)) fun e a' w' ⟨m1, S1, h1, h2, h3⟩ => by
    cases e with
    | normal => exact h3 c hc m1 w' a' h1 h2
    | _ => exact h3 c hc m1 w' a' h1 h2))
theorem AWM.weak {code : Code} {S' : AS} (hw : Weak kp N S S') (h : AWM kp P N code K S') : AWM kp P N code K S := fun c hc m w a hi hs =>
  let ⟨m', h1, h2⟩ := hw c hc m w a hi hs; h c hc m' w a h1 h2
end

/-- The end's value, out of an abstract state. -/
theorem leave_ok {P : Program} {E : Env} (hE : EnvOk P E) {fn : Func} {rs : List RS} (hres : fn.results.toList = rs.map RS.var) {c : Ctx} {m : Mem} {w : World} {a : Act} {N : Nat} {S : AS} {H : List Blk} {r : AV} {e : Exit}
    (hi : Inv c m w S.H) (hs : RelS m N a S.s) (hq : cretQ E rs c.k H r e S) : ∃ v, (results fn a.tmps).run P w = .ok v w ∧ Rg c H r (.returned v) w := by
  obtain ⟨_, fz, ids, hnd, hcr⟩ := hq
  obtain ⟨rv, hrv, hH, hr⟩ : ∃ rv, resVals E (freezeOnes S.H fz) S.s rs = some rv ∧ renH ids (freezeOnes S.H fz) = H ∧ (one rv).ren ids = r := by
    unfold cres at hcr
    split at hcr
    · rename_i rv hrv; cases hcr; exact ⟨rv, hrv, rfl, rfl⟩
    · cases hcr
  obtain ⟨m', e1, h1'⟩ := freezeOnes_ok fz m S.H hi
  have h2' := hs.mono e1
  obtain ⟨u, hresrun, hvals⟩ := results_run hE h1' h2' hres hrv
  have h4 := h1'.ren ids hnd.1 hnd.get
  exact ⟨_, hresrun, _, _, rfl, h4.le, by rw [← hH]; exact h4, by rw [← hr]; exact hvals.ren ids⟩

/-- A return ahead of the loop. -/
theorem ret_early {P : Program} {E : Env} (hE : EnvOk P E) {fn : Func} {rs : List RS} (hres : fn.results.toList = rs.map RS.var) {kp N : Nat} {y : Code} {S : AS} {H : List Blk} {r : AV} (hq : cretQ E rs kp H r .ret S) :
    seqM kp P N y (fun c => bodyPostM Fence.wide 0 P fn (Rg c H r)) .ret S := by
  intro c hc m w a hi hs
  show LeavesInM Fence.wide 0 P fn a.tmps (Rg c H r) a.defers .returning w
  rw [hs.1]
  exact leave_ok hE hres hi hs (by rw [hc]; exact hq)

/-- A return behind the loop: the mark is taken over. -/
theorem ret_mark {P : Program} {E : Env} (hE : EnvOk P E) {fn : Func} {rs : List RS} (hres : fn.results.toList = rs.map RS.var) {c : Ctx} {m : Mem} {w : World} {a : Act} {N D : Nat} {S : AS} {H : List Blk} {r : AV}
    (hi : Inv c m w S.H) (hs : RelS m N a S.s) (hq : cretQ E rs c.k H r .ret S) (hD : w.heap[D]? = some (.deferred (some []))) (hM : m.M D = none) (hc : c.w0.heap.size ≤ D) :
    bodyPostM Fence.wide 0 P fn (Rg c H r) .ret (Act.more a [{ target := .collected D, args := #[] }]) w := by
  show LeavesInM Fence.wide 0 P fn a.tmps (Rg c H r) (a.defers ++ [{ target := .collected D, args := #[] }]) .returning w
  rw [hs.1, List.nil_append]
  refine ⟨by simp, .inl ⟨D, w.putObj D (.deferred none), rfl, run_takeDeferred hD, ?_⟩⟩
  exact leave_ok hE hres (inv_putObj hi (.deferred none) hD rfl hM hc) hs hq

/-- A contract out of such a walk. -/
theorem gconcM {P : Program} {E : Env} (hE : EnvOk P E) {f : FuncId} {fn : Func} {code : Code} {N np : Nat} {rs : List RS} (hfn : P.funcs[f]? = some fn) (hb : fn.body = some code) (hN : fn.ntmps = N)
    (hname : (fn.name == "runtime.NumGoroutine") = false) (hres : fn.results.toList = rs.map RS.var) (hnp : np ≤ N) (G : GFun) (hG : ∀ HB xs, xs.length ≠ np → G HB xs = none)
    (main : ∀ HB xs H r, G HB xs = some (H, r) → (∀ x ∈ xs, x.wf) → (∃ c m w, Inv c m w HB) → AWM HB.length P N code (fun c => bodyPostM Fence.wide 0 P fn (Rg c H r)) ⟨gentry 0 xs, HB⟩) : GCon P f G := by
  refine ⟨⟨fn, hfn, hname, by rw [hb]; rfl⟩, fun HB xs H r hGx m w vs hinv hlen hrel => ?_⟩
  have hxs : xs.length = np := by
    rcases Nat.decEq xs.length np with h | h
    · rw [hG HB xs h] at hGx; cases hGx
    · exact h
  refine (callsIn_wide (n := 0)).1 (callsIn_of_wp_marks hfn hb trivial ?_)
  have hwf : ∀ x ∈ xs, x.wf := fun x hx => by
    obtain ⟨i, hi⟩ := List.getElem?_of_mem hx
    obtain ⟨u, _, hu⟩ := hrel i x hi
    exact hu.wf
  have hentry : ∀ (xs : List AV) (k i : Nat), lk i (gentry k xs) = (if h : k ≤ i ∧ i - k < xs.length then (xs[i - k]'h.2) else .any) := by
    intro xs
    induction xs with
    | nil => intro k i; simp [gentry, lk]
    | cons x xs ih =>
      intro k i
      simp only [gentry, lk]
      split
      · rename_i e; subst e; simp
      · rename_i e
        rw [ih (k + 1) i]
        by_cases hk : k + 1 ≤ i ∧ i - (k + 1) < xs.length
        · rw [dif_pos hk, dif_pos ⟨by omega, by simp; omega⟩]
          have : i - k = (i - (k + 1)) + 1 := by omega
          simp only [this, List.getElem_cons_succ]
        · rw [dif_neg hk, dif_neg (by simp; omega)]
  have rel0 : RelS m N { tmps := vs.toArray ++ Array.replicate (fn.ntmps - vs.toArray.size) undef, defers := [] } (gentry 0 xs) := by
    refine ⟨rfl, by simp; omega, fun i => ?_⟩
    rw [hentry xs 0 i]
    split
    · rename_i h
      simp only [Nat.sub_zero] at h ⊢
      obtain ⟨u, h1, h2⟩ := hrel i _ (List.getElem?_eq_getElem h.2)
      have hlt := (List.getElem?_eq_some_iff.1 h1).1
      have : (vs.toArray ++ Array.replicate (fn.ntmps - vs.toArray.size) undef).getD i undef = u := by
        rw [Array.getD_eq_getD_getElem?, Array.getElem?_append_left (by simpa using hlt)]
        simp [h1]
      rw [this]; exact h2
    · exact .any
  exact main HB xs H r hGx hwf ⟨_, _, _, hinv⟩ (ctxL w m HB) rfl m w _ hinv rel0

/-! ### The loop's record beside the abstract memory. -/

/-- The abstract memory, its first k' blocks those of m0; the record l, the block D. -/
structure Jk (c : Ctx) (m0 : Mem) (k l D : Nat) (rec : Loop) (H : List Blk) (m : Mem) (W : World) : Prop where
  inv : Inv c m W H
  M : MLe m0.M m.M
  η : ∀ i, i < k → i < m.n ∧ m.η i = m0.η i
  rl : W.heap[l]? = some (.loop rec)
  dl : W.heap[D]? = some (.deferred (some []))
  Ml : m.M l = none
  MD : m.M D = none

theorem Jk.next {c : Ctx} {m0 m m' : Mem} {k l D : Nat} {rec : Loop} {H H' : List Blk} {W W' : World} (h : Jk c m0 k l D rec H m W) (hc : c.k ≤ k) (h' : Inv (ctxK W m H k) m' W' H') : Jk c m0 k l D rec H' m' W' := by
  obtain ⟨r1, r2⟩ := kept_obj h.inv h' h.rl rfl h.Ml
  obtain ⟨d1, d2⟩ := kept_obj h.inv h' h.dl rfl h.MD
  exact ⟨inv_comp h.inv hc h', h.M.trans h'.le, fun i hi => ⟨(h'.keep i hi).1, (h'.keep i hi).2.trans (h.η i hi).2⟩, r1, d1, r2, d2⟩
theorem Jk.put {c : Ctx} {m0 m : Mem} {k l D : Nat} {rec : Loop} {H : List Blk} {W : World} (h : Jk c m0 k l D rec H m W) (hl : c.w0.heap.size ≤ l) (hD : l ≠ D) (rec' : Loop) : Jk c m0 k l D rec' H m (W.putObj l (.loop rec')) :=
  ⟨inv_putObj h.inv _ h.rl rfl h.Ml hl, h.M, h.η, World.putObj_heap_same (lt_of_heap h.rl), (World.putObj_heap_other (Ne.symm hD)).trans h.dl, h.Ml, h.MD⟩

/-- Values that two memories with the same first blocks tell alike. -/
def lowV (k : Nat) : AV → Prop
  | .any => True
  | .t (.int _ _) => True
  | .t (.bool _) => True
  | .ptr i _ _ => i < k
  | _ => False
theorem RelA.low {m m' : Mem} {k : Nat} (hη : ∀ i, i < k → i < m'.n ∧ m'.η i = m.η i) {x : AV} {v : Value} (hx : lowV k x) (h : RelA m x v) : RelA m' x v := by
  cases x with
  | any => exact .any
  | t y =>
    cases y with
    | int kk n => have := h.int_inv; rw [this.1]; exact .t (.int this.2)
    | bool b => have := h.bool_inv; rw [this]; exact .t .bool
    | _ => exact hx.elim
  | ptr i off p =>
    obtain ⟨b, rfl, h1, h2⟩ := h.ptr_inv
    obtain ⟨h3, h4⟩ := hη i hx
    exact .ptr h3 (by rw [h4]; exact h2)
  | _ => exact hx.elim
theorem RelS.low {m m' : Mem} {k N : Nat} {a : Act} {s : Slots} (hη : ∀ i, i < k → i < m'.n ∧ m'.η i = m.η i) (hs : ∀ i, lowV k (lk i s)) (h : RelS m N a s) : RelS m' N a s :=
  ⟨h.1, h.2.1, fun i => RelA.low hη (hs i) (h.2.2 i)⟩

/-- A region under no round, and a temporary that it does not write. -/
theorem reg_step {E : Env} {q : List TypeId} {P : Program} (hX : XOk P E q) {gl : GCalls} (hcl : GClOk P gl) {N id : Nat} {l : List Oper} {S S1 : AS} (hd : noDefer l = true) (h : gops E q gl N l l S = some S1) {c : Ctx} {m : Mem} {w : World} {a : Act}
    (hi : Inv c m w S.H) (hs : RelS m N a S.s) (T : Nat → Prop) (hT : ∀ i, T i → ∀ o ∈ l, o.dst ≠ some i) {Q : Exit → Act → World → Prop} {n : Nat} (hK : ∀ m' w' a', Inv c m' w' S1.H → RelS m' N a' S1.s → (∀ i, T i → a'.tmps.getD i undef = a.tmps.getD i undef) → Q .normal a' w') :
    (Code.region id l.toArray false).wpIn Fence.wide n P Q a w := by
  refine wpIn_region_list ?_
  have e1 : l.toArray.toList = l ++ [] := by simp
  rw [e1]
  have := wpListIn_pre (ρ := none) (n := n) (P := P) (ops := l.toArray) (Q := Q) (D := []) (rest := []) (T := T) (t0 := a.tmps) l a w hd hT (fun i _ => rfl)
    (gops_ok hX hcl _ S S1 m w a (by simpa using h) hi hs fun m' w' a' h1 h2 h3 => by rw [more_nil]; exact hK m' w' a' h1 h2 h3)
  rwa [more_nil] at this

/-- The beginning of a region's operations. -/
theorem reg_pre {E : Env} {q : List TypeId} {P : Program} (hX : XOk P E q) {gl : GCalls} (hcl : GClOk P gl) {N : Nat} {ops pre rest : List Oper} {S S1 : AS} (hd : noDefer pre = true) (h : gops E q gl N ops pre S = some S1) {c : Ctx} {m : Mem} {w : World} {a : Act}
    (hi : Inv c m w S.H) (hs : RelS m N a S.s) (T : Nat → Prop) (hT : ∀ i, T i → ∀ o ∈ pre, o.dst ≠ some i) {Q : Exit → Act → World → Prop} {n : Nat} (hK : ∀ m' w' a', Inv c m' w' S1.H → RelS m' N a' S1.s → (∀ i, T i → a'.tmps.getD i undef = a.tmps.getD i undef) → wpListIn Fence.wide n P ops.toArray Q rest a' w') :
    wpListIn Fence.wide n P ops.toArray Q (pre ++ rest) a w := by
  have := wpListIn_pre (ρ := none) (n := n) (P := P) (ops := ops.toArray) (Q := Q) (D := []) (rest := rest) (T := T) (t0 := a.tmps) pre a w hd hT (fun i _ => rfl)
    (gops_ok hX hcl _ S S1 m w a (by simpa using h) hi hs fun m' w' a' h1 h2 h3 => by rw [more_nil]; exact hK m' w' a' h1 h2 h3)
  rwa [more_nil] at this

end Go.Fw

end

section
/- view: what was spent, from its end on: slices.Backward's loop. -/
namespace Go.Fw
open Go Go.Proofs Go.RowKit
set_option linter.unusedVariables false
set_option linter.unusedSimpArgs false

def cntA (a : Act) : Nat := match a.tmps.getD 3 undef with
  | .int _ z => (z + 1).toNat
  | _ => 0

set_option maxRecDepth 8000 in
set_option maxHeartbeats 4000000 in
theorem back_in {c : Ctx} {m0 : Mem} {k j bj l D : Nat} {rec : Loop} {Hs : Nat → List Blk} (X : List TCoin) (hX : X.length ≤ 1000000)
    (hj : j < k) (hck : c.k ≤ k) (hH : ∀ i, k ≤ (Hs i).length) (hHj : ∀ i, (Hs i)[j]? = some (.bx (.t (.sq 37 (X.map coinT)))))
    (hbj : blk (m0.η j) = some bj) (Jx : World → Prop) (Gi : Nat → Prop) (hG0 : Gi 0)
    (hY : ∀ i, i < X.length → Gi i → ∀ m wd, Jk c m0 k l D rec (Hs i) m wd → ∀ v, RelT m.M (coinT (X.getD (X.length - 1 - i) dCoin)) v →
      ∃ fn tmps assign body, (Instr.yield l #[.int .i64 ((X.length - 1 - i : Nat) : Int), v]).run Try.prog wd = .ok (.round l fn tmps assign body) wd ∧
        RoundIn Fence.wide 0 Try.prog l fn tmps assign body wd fun e wd' => (e = .returned (.bool true) ∧ Gi (i + 1) ∧ ∃ m', Jk c m0 k l D rec (Hs (i + 1)) m' wd') ∨ (e = .returned (.bool false) ∧ Jx wd'))
    {m : Mem} {wd : World} (h0 : Jk c m0 k l D rec (Hs 0) m wd) :
    CallsIn Fence.wide 0 Try.prog 59 #[.func (.yield l) #[] #[], .pointer (some ⟨bj, 0, none⟩)] wd fun e wd' => (∃ v, e = .returned v) ∧ ((Gi X.length ∧ ∃ m', Jk c m0 k l D rec (Hs X.length) m' wd') ∨ Jx wd') := by
  refine callsIn_of_wp (F := Fence.wide) (n := 0) Try.func59 rfl trivial ?_
  obtain ⟨a0, ha0⟩ : ∃ a0 : Act, a0 = { tmps := #[.func (.yield l) #[] #[], .pointer (some ⟨bj, 0, none⟩)] ++ Array.replicate (Try.f59.ntmps - 2) undef, defers := [] } := ⟨_, rfl⟩
  have hs0 : RelS m 19 a0 [(1, .ptr j 0 [])] := by
    subst ha0
    refine ⟨rfl, rfl, fun i => ?_⟩
    by_cases h1 : i = 1
    · subst h1
      exact .ptr (h0.η j hj).1 (by rw [(h0.η j hj).2]; exact hbj)
    · have : lk i [(1, AV.ptr j 0 [])] = .any := by simp [lk, h1]
      rw [this]
      exact .any
  have hy0 : a0.tmps.getD 0 undef = .func (.yield l) #[] #[] := by subst ha0; rfl
  show Code.wpIn _ _ _ _ _ _ _
  have hgo : ∀ (C : Code) (Q : Exit → Act → World → Prop), C.wpIn Fence.wide 0 Try.prog Q a0 wd → C.wpIn Fence.wide 0 Try.prog Q { tmps := #[.func (.yield l) #[] #[], .pointer (some ⟨bj, 0, none⟩)] ++ Array.replicate (Try.f59.ntmps - 2) undef, defers := [] } wd := by
    intro C Q h; rw [← ha0]; exact h
  refine hgo _ _ ?_
  clear hgo ha0
  have hml : (X.map coinT).length = X.length := List.length_map ..
  have low1 : ∀ i, lowV k (lk i [(1, AV.ptr j 0 [])]) := by
    intro i
    simp only [lk]
    split
    · exact hj
    · trivial
  have low3 : ∀ (z : Int) i, lowV k (lk i [(1, AV.ptr j 0 []), (3, AV.t (.int .i64 z))]) := by
    intro z i
    simp only [lk]
    split
    · exact hj
    · split <;> trivial
  have low4 : ∀ (z : Int) (b : Bool) i, lowV k (lk i [(1, AV.ptr j 0 []), (3, AV.t (.int .i64 z)), (17, AV.t (.bool b))]) := by
    intro z b i
    simp only [lk]
    split
    · exact hj
    · split
      · trivial
      · split <;> trivial
  have hw1 : IntKind.i64.wrap ((X.length : Int) - 1) = (X.length : Int) - 1 := by rw [wrap_i64 (by omega) (by omega)]
  have hHj0 := hHj 0
  refine wpIn_seq ?_
  refine reg_step X_ok (GClOk.nil _) (S := ⟨[(1, .ptr j 0 [])], Hs 0⟩) (c := ctxK wd m (Hs 0) k) rfl (Ev (And.intro hHj0 <| And.intro hml hw1)) (inv_ctxK h0.inv (hH 0)) hs0 (fun i => i = 0) (by intro i hi o ho; subst hi; revert o; decide) (fun m1 w1 a1 i1 r1 k1 => ?_)
  have j1 := h0.next hck i1
  have r1' : RelS m1 19 a1 [(1, .ptr j 0 []), (3, .t (.int .i64 ((X.length : Int) - 1 - ((0 : Nat) : Int))))] := by
    have := r1.prune [1, 3]
    simp only [Fw.prune, List.map_cons, List.map_nil, lk, ↓reduceIte, Nat.reduceEqDiff] at this
    rw [show (X.length : Int) - 1 - ((0 : Nat) : Int) = (X.length : Int) - 1 by omega]
    exact this
  have y1 : a1.tmps.getD 0 undef = .func (.yield l) #[] #[] := (k1 0 rfl).trans hy0
  clear i1 r1 k1 h0 hs0 hy0 hw1
  have val3 : ∀ {m : Mem} {a : Act} {z : Int}, RelS m 19 a [(1, .ptr j 0 []), (3, .t (.int .i64 z))] → cntA a = (z + 1).toNat := by
    intro m a z h
    have h3 := (h.2.2 3).int_inv
    unfold cntA
    rw [h3.1]
  refine wpIn_block ?_
  refine wpIn_loop (fun a wd' => ∃ i m, i ≤ X.length ∧ Gi i ∧ Jk c m0 k l D rec (Hs i) m wd' ∧ RelS m 19 a [(1, .ptr j 0 []), (3, .t (.int .i64 ((X.length : Int) - 1 - (i : Int))))] ∧ a.tmps.getD 0 undef = .func (.yield l) #[] #[]) (fun a _ => cntA a) ⟨0, m1, Nat.zero_le _, hG0, j1, r1', y1⟩ ?_
  clear j1 r1' y1
  rintro a wd' ⟨i, m2, hi, hGi, j2, r2, y2⟩
  have hcnt := val3 r2
  by_cases hlt : i < X.length
  rotate_left
  · obtain rfl : i = X.length := by omega
    have hge : ((0 : Int) ≤ (X.length : Int) - 1 - (X.length : Int)) = False := eq_false (by omega)
    refine wpIn_seq (wpIn_seq ?_)
    refine reg_step X_ok (GClOk.nil _) (S := ⟨[(1, .ptr j 0 []), (3, .t (.int .i64 ((X.length : Int) - 1 - (X.length : Int))))], Hs X.length⟩) (c := ctxK wd' m2 (Hs X.length) k) rfl (Ev hge) (inv_ctxK j2.inv (hH _)) r2 (fun i => i = 0) (by intro i hi o ho; subst hi; revert o; decide) (fun m3 w3 a3 i3 r3 k3 => ?_)
    have j3 := j2.next hck i3
    have e8 : a3.eval (.tmp 8) = .bool false := (r3.2.2 8).bool_inv
    refine wpIn_cond_false e8 (wpIn_exit ?_)
    exact ⟨r3.1, _, results_none rfl _ _ _, ⟨_, rfl⟩, .inl ⟨hGi, m3, j3⟩⟩
  obtain ⟨z, hz⟩ : ∃ z : Nat, z = X.length - 1 - i := ⟨_, rfl⟩
  have hzi : (X.length : Int) - 1 - (i : Int) = (z : Int) := by omega
  rw [hzi] at r2 hcnt
  have hge : ((0 : Int) ≤ (z : Int)) = True := eq_true (by omega)
  have hzl : z < X.length := by omega
  have hzl2 : (z : Int) < (X.length : Int) := by omega
  have hg := coin_getD X z hzl
  rw [coinT_st] at hg
  have hHji := hHj i
  refine wpIn_seq (wpIn_seq ?_)
  refine reg_step X_ok (GClOk.nil _) (S := ⟨[(1, .ptr j 0 []), (3, .t (.int .i64 (z : Int)))], Hs i⟩) (c := ctxK wd' m2 (Hs i) k) rfl (Ev hge) (inv_ctxK j2.inv (hH _)) r2 (fun i => i = 0) (by intro i hi o ho; subst hi; revert o; decide) (fun m3 w3 a3 i3 r3 k3 => ?_)
  have j3 := j2.next hck i3
  have e8 : a3.eval (.tmp 8) = .bool true := (r3.2.2 8).bool_inv
  refine wpIn_cond_true e8 (wpIn_skip ?_)
  have r3' : RelS m3 19 a3 [(1, .ptr j 0 []), (3, .t (.int .i64 (z : Int)))] := by
    have := r3.prune [1, 3]
    simp only [Fw.prune, List.map_cons, List.map_nil, lk, ↓reduceIte, Nat.reduceEqDiff] at this
    exact this
  have y3 : a3.tmps.getD 0 undef = .func (.yield l) #[] #[] := (k3 0 rfl).trans y2
  clear r3 k3 i3 r2 y2 j2 e8 hge
  refine wpIn_seq (wpIn_block (wpIn_seq (wpIn_region_lit ?_)))
  refine wpListIn_plain rfl fun K hK => ⟨fun _ _ => trivial, ?_⟩
  show K (a3.put (some 11) (a3.tmps.getD 0 undef)) w3
  rw [y3]
  refine hK _ _ ?_
  clear hK K
  have r4 : RelS m3 19 (a3.put (some 11) (.func (.yield l) #[] #[])) ((11, .any) :: [(1, .ptr j 0 []), (3, .t (.int .i64 (z : Int)))]) :=
    RelS.puts (o := { dst := some 11, op := .move (.tmp 0), type := 0, pos := "", after := #[], guard := none }) r3' .any rfl
  have y4 : (a3.put (some 11) (.func (.yield l) #[] #[])).tmps.getD 0 undef = .func (.yield l) #[] #[] := (put_tmp _ _ _ 0 (by decide)).trans y3
  have y5 : (a3.put (some 11) (.func (.yield l) #[] #[])).tmps.getD 11 undef = .func (.yield l) #[] #[] := by
    have := r3'.2.1
    simp [Act.put, this]
  generalize a3.put (some 11) (.func (.yield l) #[] #[]) = a4 at *
  refine reg_pre X_ok (GClOk.nil _) (pre := [_, _, _, _, _]) (rest := [_, _]) (S := ⟨(11, .any) :: [(1, .ptr j 0 []), (3, .t (.int .i64 (z : Int)))], Hs i⟩) (c := ctxK w3 m3 (Hs i) k) rfl (Ev (And.intro hHji <| And.intro hml <| And.intro hzl <| And.intro hzl2 hg)) (inv_ctxK j3.inv (hH _)) r4 (fun i => i = 0 ∨ i = 11) (by rintro i (rfl | rfl) o ho <;> (revert o; decide)) (fun m5 w5 a5 i5 r5 k5 => ?_)
  have j5 := j3.next hck i5
  have y6 : a5.tmps.getD 0 undef = .func (.yield l) #[] #[] := (k5 0 (.inl rfl)).trans y4
  have y7 : a5.tmps.getD 11 undef = .func (.yield l) #[] #[] := (k5 11 (.inr rfl)).trans y5
  have e12 := (r5.2.2 12).int_inv
  have e16 := (r5.2.2 16).t_inv
  have r5' : RelS m5 19 a5 [(1, .ptr j 0 []), (3, .t (.int .i64 (z : Int)))] := by
    have := r5.prune [1, 3]
    simp only [Fw.prune, List.map_cons, List.map_nil, lk, ↓reduceIte, Nat.reduceEqDiff] at this
    exact this
  clear r5 k5 i5 y4 y5 r4 j3 r3'
  have hYi := hY i hlt hGi m5 w5 j5
  rw [← hz] at hYi
  obtain ⟨fn, tmps, assign, body, hy, hR⟩ := hYi _ e16
  clear hYi
  refine wpListIn_plain rfl fun K hK => ⟨fun _ _ => trivial, ?_⟩
  have hrun : (execOp a5.eval { dst := some 17, op := Op.call { callee := Callee.value (Operand.tmp 11), args := #[Operand.tmp 12, Operand.tmp 16], argTypes := #[3, 39] }, type := 4, pos := "iter.go:29", after := #[{ on := 0, ground := Ground.data }, { on := 1, ground := Ground.data }, { on := 5, ground := Ground.data }], guard := none }).run Try.prog w5 = .ok (.round l fn tmps assign body) w5 := by
    have ev11 : a5.eval (.tmp 11) = .func (.yield l) #[] #[] := y7
    have ev12 : a5.eval (.tmp 12) = .int .i64 (z : Int) := e12.1
    have ev16 : a5.eval (.tmp 16) = a5.tmps.getD 16 undef := rfl
    simp only [execOp, resolve, List.map_toArray, List.map_cons, List.map_nil, ev11, ev12, ev16, Deferred.ofValue, Sem.run_bind, Sem.run_pure, Result.andThen_ok, invoke]
    have ha : (#[] ++ #[Value.int .i64 (z : Int), a5.tmps.getD 16 undef] ++ #[] : Array Value) = #[.int .i64 (z : Int), a5.tmps.getD 16 undef] := by simp
    first | exact hy | (rw [ha]; exact hy)
  rw [Oper.semAt_eq _ _ _ (by intro c h; cases h), hrun]
  refine ⟨fun hd => by simp [Fence.wide] at hd, ?_⟩
  refine hR.mono fun e w6 he => ?_
  have hsz : 17 < a5.tmps.size := by rw [r5'.2.1]; decide
  have e17 : ∀ b, (a5.put (some 17) (.bool b)).eval (.tmp 17) = .bool b := by
    intro b
    show (a5.tmps.setIfInBounds 17 (.bool b)).getD 17 undef = _
    simp [hsz]
  have hnot : ∀ b, (execOp (a5.put (some 17) (.bool b)).eval { dst := some 18, op := Op.unOp UnOp.not 4 (Operand.tmp 17), type := 4, pos := "iter.go:29", after := #[{ on := 6, ground := Ground.data }], guard := none }).run Try.prog w6 = .ok (.value (.bool (!b))) w6 := by
    intro b
    simp [execOp, e17, Op.unary]
  rcases he with ⟨rfl, hG6, m6, j6⟩ | ⟨rfl, hx⟩
  · show K (a5.put (some 17) (.bool true)) w6
    refine hK _ _ ?_
    clear hK K hR hrun
    refine wpListIn_plain rfl fun K hK => ⟨fun _ _ => trivial, ?_⟩
    rw [Oper.semAt_eq _ _ _ (by intro c h; cases h), hnot]
    show K ((a5.put (some 17) (.bool true)).put (some 18) (.bool false)) w6
    refine hK _ _ (wpListIn_nil ?_)
    have hη : ∀ i, i < k → i < m6.n ∧ m6.η i = m5.η i := fun i hi => ⟨(j6.η i hi).1, (j6.η i hi).2.trans (j5.η i hi).2.symm⟩
    have r6 := RelS.low hη (low3 (z : Int)) r5'
    have r7 : RelS m6 19 ((a5.put (some 17) (.bool true)).put (some 18) (.bool false)) [(1, .ptr j 0 []), (3, .t (.int .i64 (z : Int)))] := by
      refine ⟨r6.1, ?_, fun i => ?_⟩
      · simp only [Act.put, Array.size_setIfInBounds]; exact r6.2.1
      · by_cases h18 : i = 18
        · subst h18; exact .any
        · by_cases h17 : i = 17
          · subst h17; exact .any
          · rw [put_tmp _ _ _ i (by simpa using fun e => h18 e.symm), put_tmp _ _ _ i (by simpa using fun e => h17 e.symm)]
            exact r6.2.2 i
    have y8 : ((a5.put (some 17) (.bool true)).put (some 18) (.bool false)).tmps.getD 0 undef = .func (.yield l) #[] #[] := by
      rw [put_tmp _ _ _ 0 (by decide), put_tmp _ _ _ 0 (by decide)]
      exact y6
    have e18 : ((a5.put (some 17) (.bool true)).put (some 18) (.bool false)).eval (.tmp 18) = .bool false := by
      show ((a5.tmps.setIfInBounds 17 (.bool true)).setIfInBounds 18 (.bool false)).getD 18 undef = _
      have hsz2 : 18 < a5.tmps.size := by rw [r5'.2.1]; decide
      simp [hsz2]
    generalize (a5.put (some 17) (.bool true)).put (some 18) (.bool false) = a7 at *
    refine wpIn_cond_false e18 (wpIn_skip ?_)
    have hw2 : IntKind.i64.wrap ((z : Int) - 1) = (z : Int) - 1 := by rw [wrap_i64 (by omega) (by omega)]
    refine reg_step X_ok (GClOk.nil _) (S := ⟨[(1, .ptr j 0 []), (3, .t (.int .i64 (z : Int)))], Hs (i + 1)⟩) (c := ctxK w6 m6 (Hs (i + 1)) k) rfl (Ev hw2) (inv_ctxK j6.inv (hH _)) r7 (fun i => i = 0) (by intro i hi o ho; subst hi; revert o; decide) (fun m8 w8 a8 i8 r8 k8 => ?_)
    have r8' : RelS m8 19 a8 [(1, .ptr j 0 []), (3, .t (.int .i64 ((z : Int) - 1)))] := by
      have := r8.prune [1, 3]
      simp only [Fw.prune, List.map_cons, List.map_nil, lk, ↓reduceIte, Nat.reduceEqDiff] at this
      exact this
    have hcn := val3 r8'
    refine ⟨⟨i + 1, m8, by omega, hG6, j6.next hck i8, ?_, (k8 0 rfl).trans y8⟩, ?_⟩
    · rw [show (X.length : Int) - 1 - ((i + 1 : Nat) : Int) = (z : Int) - 1 by omega]
      exact r8'
    · rw [hcn, hcnt]; omega
  · show K (a5.put (some 17) (.bool false)) w6
    refine hK _ _ ?_
    refine wpListIn_plain rfl fun K hK => ⟨fun _ _ => trivial, ?_⟩
    rw [Oper.semAt_eq _ _ _ (by intro c h; cases h), hnot]
    show K ((a5.put (some 17) (.bool false)).put (some 18) (.bool true)) w6
    refine hK _ _ (wpListIn_nil ?_)
    have e18 : ((a5.put (some 17) (.bool false)).put (some 18) (.bool true)).eval (.tmp 18) = .bool true := by
      show ((a5.tmps.setIfInBounds 17 (.bool false)).setIfInBounds 18 (.bool true)).getD 18 undef = _
      have hsz2 : 18 < a5.tmps.size := by rw [r5'.2.1]; decide
      simp [hsz2]
    refine wpIn_cond_true e18 (wpIn_ret ?_)
    exact ⟨r5'.1, _, results_none rfl _ _ _, ⟨_, rfl⟩, .inr hx⟩

end Go.Fw

end

section
/- view: a loop over what was spent, from its end on, as a whole. -/
namespace Go.Fw
open Go Go.Proofs Go.RowKit
set_option linter.unusedVariables false
set_option linter.unusedSimpArgs false

set_option maxHeartbeats 4000000 in
theorem rev_tail {assign body y : Code} {N kp k j b g p1 p2 : Nat} {fn : Func} {rs : List RS} (hres : fn.results.toList = rs.map RS.var) {H : List Blk} {r : AV}
    (X : List TCoin) (hXl : X.length ≤ 1000000) {Hs : Nat → List Blk} {Hx : List Blk} {Gi : Nat → Prop} {sL : Slots} {S1 : Nat → AS}
    (hj : j < k) (hkk : kp ≤ k) (hp : p1 ≠ p2) (hp1 : p1 < N) (hp2 : p2 < N) (hp1s : lk p1 sL = .any)
    (hH : ∀ i, k ≤ (Hs i).length) (hHj : ∀ i, (Hs i)[j]? = some (.bx (.t (.sq 37 (X.map coinT))))) (hlow : ∀ i, lowV k (lk i sL)) (hG0 : Gi 0)
    (hA : ∀ l i, i < X.length → Gi i → AWF (some l) [] k Try.prog N assign (fun e S => e = .normal ∧ Weak k N S (S1 i)) ⟨(p2, .t (coinT (X.getD (X.length - 1 - i) dCoin))) :: sL, Hs i⟩)
    (hk1 : ∀ i, k ≤ (S1 i).H.length)
    (hB : ∀ l i, i < X.length → Gi i → AWF (some l) [] k Try.prog N body (fun e S => (e = .normal ∧ Gi (i + 1) ∧ Weak k N S ⟨[], Hs (i + 1)⟩) ∨ (e = .ret ∧ Weak k N S ⟨[], Hx⟩)) (S1 i))
    (hC : ∀ D, Gi X.length → AWF none [{ target := .collected D, args := #[] }] kp Try.prog N y (fun e S => e = .ret ∧ cretQ E rs kp H r .ret S) ⟨sL, Hs X.length⟩)
    (hX : cretQ E rs kp H r .ret ⟨sL, Hx⟩)
    {c : Ctx} (hc : c.k = kp) {m0 : Mem} {w0 : World} {a : Act} (hi0 : Inv c m0 w0 (Hs 0)) (hs0 : RelS m0 N a ((g, .clo 59 [.ptr j 0 []]) :: sL)) (hgs : lk g sL = .any) :
    (Code.block b (Code.rangeFunc (.tmp g) #[p1, p2] assign body)).wpIn Fence.wide 0 Try.prog
      (Exit.then (y.wpIn Fence.wide 0 Try.prog (bodyPostM Fence.wide 0 Try.prog fn (Rg c H r))) (bodyPostM Fence.wide 0 Try.prog fn (Rg c H r))) a w0 := by
  have hck : c.k ≤ k := by omega
  -- the closure's value
  have hg := hs0.2.2 g
  rw [show lk g ((g, AV.clo 59 [.ptr j 0 []]) :: sL) = .clo 59 [.ptr j 0 []] by simp [lk]] at hg
  obtain ⟨bj, hbj, hgv⟩ : ∃ bj, blk (m0.η j) = some bj ∧ a.tmps.getD g undef = .func (.func 59) #[] #[.pointer (some ⟨bj, 0, none⟩)] := by
    generalize a.tmps.getD g undef = v at hg
    generalize hx : AV.clo 59 [.ptr j 0 []] = x at hg
    cases hg <;> cases hx
    rename_i vs ha hr
    obtain ⟨bj, h1, h2, h3⟩ := (hr 0 (.ptr j 0 []) rfl).ptr_inv
    refine ⟨bj, h3, ?_⟩
    rw [fnV_lt (by decide)]
    congr 1
    apply Array.ext
    · simpa using ha
    · intro i hi1 hi2
      obtain rfl : i = 0 := by simp at ha; omega
      rw [Array.getD_eq_getD_getElem?, Array.getElem?_eq_getElem hi1] at h1
      simpa using h1
  have hsL : RelS m0 N a sL := ⟨hs0.1, hs0.2.1, fun i => by
    by_cases e : i = g
    · subst e; rw [hgs]; exact .any
    · have := hs0.2.2 i
      rwa [show lk i ((g, AV.clo 59 [.ptr j 0 []]) :: sL) = lk i sL by simp [lk, e]] at this⟩
  refine wpIn_block (wpIn_rangeFunc fun fnn _ => ?_)
  obtain ⟨rec, hrec⟩ : ∃ rec : LoopState → Option Code → Loop, rec = fun st pe => { state := st, pending := pe, fn := fnn, tmps := a.tmps, params := #[p1, p2], assign, body, defers := w0.heap.size } := ⟨_, rfl⟩
  obtain ⟨w1, hw1⟩ : ∃ w1, (w0.alloc (.deferred (some []))).alloc (.loop (rec .ready none)) = w1 := ⟨_, rfl⟩
  have hL1 : w1.heap[w0.heap.size + 1]? = some (.loop (rec .ready none)) := by
    rw [← hw1]; have := World.alloc_heap_new (w0.alloc (.deferred (some []))) (.loop (rec .ready none)); rwa [World.size_alloc] at this
  have hD1 : w1.heap[w0.heap.size]? = some (.deferred (some [])) := by
    rw [← hw1]; exact (Below.heap_alloc _ _ _ (by simp)).trans (World.alloc_heap_new w0 _)
  have hMn : ∀ q, w0.heap.size ≤ q → m0.M q = none := by
    intro q hq
    cases hx : m0.M q with
    | none => rfl
    | some o =>
      have := lt_of_heap (hi0.imm q o hx)
      omega
  have j1 : Jk c m0 k (w0.heap.size + 1) w0.heap.size (rec .ready none) (Hs 0) m0 w1 :=
    ⟨by rw [← hw1]; exact inv_alloc (inv_alloc hi0 _) _, .refl _, fun i hi => ⟨by rw [hi0.len]; exact Nat.lt_of_lt_of_le hi (hH 0), rfl⟩, hL1, hD1, hMn _ (by omega), hMn _ (Nat.le_refl _)⟩
  have hcl : c.w0.heap.size ≤ w0.heap.size + 1 := Nat.le_succ_of_le hi0.size
  have hcD : c.w0.heap.size ≤ w0.heap.size := hi0.size
  have hnD : w0.heap.size + 1 ≠ w0.heap.size := by omega
  have hen : (Instr.enterLoop fnn a.tmps #[p1, p2] assign body none).run Try.prog w0 = .ok (w0.heap.size + 1, [{ target := .collected w0.heap.size, args := #[] }]) w1 := by
    rw [← hw1, hrec]; exact run_enterLoop_outer _ _ _ _ _
  clear hw1 hMn
  generalize w0.heap.size + 1 = l at *
  generalize hDD : w0.heap.size = D at *
  refine ⟨l, [{ target := .collected D, args := #[] }], w1, { target := .fn (.func 59) #[.pointer (some ⟨bj, 0, none⟩)], args := #[.func (.yield l) #[] #[]] }, w1, 59, #[.func (.yield l) #[] #[], .pointer (some ⟨bj, 0, none⟩)], w1, ?_, ?_, fun _ _ => trivial, ?_, fun hd => by simp [Fence.wide] at hd, ?_⟩
  · exact hen
  · have hev : a.eval (.tmp g) = a.tmps.getD g undef := rfl
    simp only [resolve, hev, hgv]
    simp [go_sem]
  · have he := run_enter (P := Try.prog) Try.func59 (by kernel_rfl) (by kernel_rfl) #[.func (.yield l) #[] #[], .pointer (some ⟨bj, 0, none⟩)] w1
    simp only [invoke]
    exact he
  have hmore : ({ a with defers := [{ target := .collected D, args := #[] }] ++ a.defers } : Act) = Act.more a [{ target := .collected D, args := #[] }] := by
    simp [Act.more, hs0.1]
  have hηm : ∀ {H : List Blk} {m : Mem} {w : World} {rc : Loop}, Jk c m0 k l D rc H m w → RelS m N a sL := fun h => RelS.low h.η hlow hsL
  refine CallsIn.mono (back_in X hXl hj hck hH hHj hbj (fun wd => ∃ m, Jk c m0 k l D (rec .done (some .ret)) Hx m wd) Gi hG0 ?_ j1) ?_
  · intro i hi hGi m wd hjk v hv
    have hy := run_yield (P := Try.prog) (args := #[.int .i64 ((X.length - 1 - i : Nat) : Int), v]) hjk.rl (by rw [hrec]; rfl)
    rw [hrec] at hy
    refine ⟨_, _, _, _, hy, roundIn_of_wpIn trivial ?_⟩
    have hr0 := hηm hjk
    have hr1 : RelS m N (a.put (some p1) (.int .i64 ((X.length - 1 - i : Nat) : Int))) ((p1, .any) :: sL) :=
      RelS.puts (o := { dst := some p1, op := .move (.tmp 0), type := 0, pos := "", after := #[], guard := none }) hr0 .any (if_pos hp1)
    have hr2 : RelS m N ((a.put (some p1) (.int .i64 ((X.length - 1 - i : Nat) : Int))).put (some p2) v) ((p2, .t (coinT (X.getD (X.length - 1 - i) dCoin))) :: (p1, .any) :: sL) :=
      RelS.puts (o := { dst := some p2, op := .move (.tmp 0), type := 0, pos := "", after := #[], guard := none }) hr1 (.t hv) (if_pos hp2)
    have hr3 : RelS m N { tmps := (#[p1, p2].zip #[.int .i64 ((X.length - 1 - i : Nat) : Int), v]).foldl (fun t (p, a) => t.setIfInBounds p a) a.tmps, defers := [] } ((p2, .t (coinT (X.getD (X.length - 1 - i) dCoin))) :: sL) := by
      have hfo : (#[p1, p2].zip #[.int .i64 ((X.length - 1 - i : Nat) : Int), v]).foldl (fun t (p, a) => t.setIfInBounds p a) a.tmps = ((a.put (some p1) (.int .i64 ((X.length - 1 - i : Nat) : Int))).put (some p2) v).tmps := by simp [Act.put]
      rw [hfo]
      refine ⟨rfl, hr2.2.1, fun q => ?_⟩
      have := hr2.2.2 q
      have e : lk q ((p2, AV.t (coinT (X.getD (X.length - 1 - i) dCoin))) :: (p1, .any) :: sL) = lk q ((p2, AV.t (coinT (X.getD (X.length - 1 - i) dCoin))) :: sL) := by
        simp only [lk]
        split
        · rfl
        · split
          · rename_i e; rw [e, hp1s]
          · rfl
      rw [e] at this
      exact this
    show Code.wpIn (wideAt (some l)) _ _ _ _ _ _
    refine wpIn_mono ((hA l i hi hGi).run0 (n := 0) (c := ctxK wd m (Hs i) k) rfl (inv_ctxK hjk.inv (hH i)) hr3) ?_
    rintro e a1 w2 ⟨m2, S2, h1, h2, rfl, hwk⟩
    obtain ⟨m2, h1, h2⟩ := hwk _ rfl m2 w2 a1 h1 h2
    have j2 := hjk.next hck h1
    refine ⟨_, run_beginRound j2.rl (by rw [hrec]), ?_⟩
    have j3 := j2.put hcl hnD { rec .ready none with state := .busy }
    refine wpIn_mono ((hB l i hi hGi).run0 (n := 0) rfl (inv_ctxK j3.inv (hk1 i)) h2) ?_
    rintro e a3 w3 ⟨m3, S3, h3, h4, hq⟩
    rcases hq with ⟨rfl, hG, hw⟩ | ⟨rfl, hw⟩
    · obtain ⟨m4, h5, _⟩ := hw _ rfl m3 w3 a3 h3 h4
      have j4 := j3.next hck h5
      refine ⟨_, _, run_endRound none j4.rl, .inl ⟨rfl, hG, m4, ?_⟩⟩
      have j5 := j4.put hcl hnD (rec .ready none)
      rw [hrec] at j5 ⊢
      exact j5
    · obtain ⟨m4, h5, _⟩ := hw _ rfl m3 w3 a3 h3 h4
      have j4 := j3.next hck h5
      refine ⟨_, _, run_endRound (some .ret) j4.rl, .inr ⟨rfl, m4, ?_⟩⟩
      have j5 := j4.put hcl hnD (rec .done (some .ret))
      rw [hrec] at j5 ⊢
      exact j5
  · rintro e w2 ⟨⟨v, rfl⟩, (⟨hG, m2, j2⟩ | ⟨m2, j2⟩)⟩
    · refine ⟨none, _, (by have := run_endLoop (P := Try.prog) j2.rl (by rw [hrec]; simp); rw [hrec] at this; exact this), ?_⟩
      have j3 := j2.put hcl hnD { rec .ready none with state := .exhausted }
      rw [hrec] at j3
      show y.wpIn Fence.wide 0 Try.prog _ _ _
      rw [hmore]
      refine wpIn_mono (hC D hG 0 (ctxK _ m2 (Hs X.length) kp) rfl m2 _ a (inv_ctxK j3.inv (Nat.le_trans hkk (hH _))) (hηm j3)) ?_
      rintro e a' w5 ⟨a0, rfl, m5, S5, h5, h6, rfl, hq⟩
      obtain ⟨g1, g2⟩ := kept_obj j3.inv h5 j3.dl rfl j3.MD
      exact ret_mark E_ok hres (inv_comp j3.inv (by omega) h5) h6 (by rw [hc]; exact hq) g1 g2 hcD
    · refine ⟨some .ret, _, (by have := run_endLoop (P := Try.prog) j2.rl (by rw [hrec]; simp); rw [hrec] at this; exact this), ?_⟩
      have j3 := j2.put hcl hnD { rec .done (some .ret) with state := .exhausted }
      rw [hrec] at j3
      refine wpIn_ret ?_
      show bodyPostM _ _ _ _ _ .ret _ _
      rw [hmore]
      exact ret_mark E_ok hres j3.inv (hηm j3) (by rw [hc]; exact hX) j3.dl j3.MD hcD

end Go.Fw

end

section
/- view: a transaction reverted. -/
namespace Go.Fw
open Go Go.Proofs Go.RowKit
set_option linter.unusedVariables false
set_option linter.unusedSimpArgs false

theorem revV_ok {l : List TCoin} (h : lowL l = true) (t : TTx) (nm : H32) (first : Bool) {sp : List TCoin} (hs : lowL sp = true) :
    lowL (revV l t nm first sp).1 = true ∧ (revV l t nm first sp).1.length ≤ l.length + sp.length := by
  obtain ⟨u1, u2⟩ := unmV_ok nm t.outs.length l h
  unfold revV
  split
  · exact ⟨h, by simp⟩
  · split
    · exact ⟨h, by simp⟩
    · split
      · exact ⟨u1, by omega⟩
      · have hr : lowL sp.reverse = true := by unfold lowL at hs ⊢; rw [List.all_reverse]; exact hs
        obtain ⟨a1, a2⟩ := addsV_ok sp.reverse _ u1 hr
        rw [List.length_reverse] at a2
        exact ⟨a1, by omega⟩

/-- The coins behind so many that were added, from the end on. -/
def lsV (L X : List TCoin) : Nat → List TCoin
  | 0 => L
  | i + 1 => (addV (lsV L X i) (X.getD (X.length - 1 - i) dCoin)).1
theorem rev_drop (X : List TCoin) (i : Nat) (hi : i < X.length) : X.reverse.drop i = X.getD (X.length - 1 - i) dCoin :: X.reverse.drop (i + 1) := by
  rw [List.drop_eq_getElem_cons (by rw [List.length_reverse]; exact hi)]
  rw [List.getElem_reverse]
  simp [List.getD_eq_getElem?_getD, List.getElem?_eq_getElem (show X.length - 1 - i < X.length by omega)]

noncomputable def G35 : GFun
  | HB, [.ptr 0 0 [], .t x, .t (.bool first), .t y] => match inv vwH HB, inv txT x, inv coinsT y with
    | some l, some t, some sp => @ite _ ((l.length ≤ 400000 ∧ lowL l = true ∧ sp.length ≤ 10000 ∧ lowL sp = true ∧ t.ins.length ≤ 10000)) (Classical.propDecidable _) ((some (vwN (revV l t (nmH t) first sp).1, .t (.int .i64 (revV l t (nmH t) first sp).2)))) none
    | _, _, _ => none
  | _, _ => none

theorem ct35 : CT [(14, ⟨[true, false], G14⟩), (24, ⟨[true, false], G24⟩), (34, ⟨[false, false], treeG F34⟩), (44, ⟨[false], treeG F44⟩), (46, ⟨[false], treeG F46⟩), (48, ⟨[false, false], treeG F48⟩), (49, ⟨[false, false, false], treeG F49⟩), (50, ⟨[false], treeG F50⟩)] [0, 1, 2, 3, 4, 5, 8, 9, 10, 11, 12, 13, 15, 17, 18, 31, 36, 37, 38, 56, 60, 67] [] := ⟨(.cons g14 (.cons g24 (.cons c34.g (.cons c44.g (.cons c46.g (.cons c48.g (.cons c49.g (.cons c50.g (.nil _)))))))))⟩

set_option maxRecDepth 8000 in
set_option maxHeartbeats 8000000 in
theorem g35 : GCon Try.prog 35 G35 := by
  refine gconcM E_ok (rs := [.cell 8 30]) Try.func35 rfl Try.ntmps35 (by kernel_rfl) rfl (by decide) G35 (np := 4) ?_ ?_
  · intro HB xs h; unfold G35; split <;> first | rfl | (simp at h; done)
  intro HB xs H r hG hwf hex
  
  unfold G35 at hG
  split at hG <;> try (cases hG; done)
  rename_i x first y
  split at hG <;> try (cases hG; done)
  rename_i l t sp hl htx hsp
  split at hG
  case isFalse => cases hG
  rename_i hcc
  cases hG
  obtain ⟨hlen, hlow, hspl, hlows, hti⟩ := hcc
  obtain rfl := inv_inv hl
  obtain rfl := inv_inv htx
  obtain rfl := inv_inv hsp
  have hck := check_c t
  have hnm := name_tc t
  have hmo : (t.outs.map outT).length = t.outs.length := List.length_map ..
  have hin := inputs_c t first (by omega)
  have hil : (insR t first).length ≤ 1000000 := by unfold insR; split <;> simp <;> omega
  have hef := eqf_c sp (insR t first) (by omega) hil
  have hbw := bwd_c sp
  rw [txT_st] at hck hnm ⊢
  simp only [vwH, coinsT, refsT] at hin ⊢
  obtain ⟨R, hR⟩ : ∃ R, revV l t (nmH t) first sp = R := ⟨_, rfl⟩
  rw [hR]
  unfold revV at hR
  show AWM 2 _ _ _ _ _
  refine AWM.seq ?_
  refine St (And.intro @gentry.eq_1 <| @gentry.eq_2) ct35 ?_
  show AWM _ _ _ _ _ _
  refine AWM.seq ?_
  refine St hin ct35 ?_
  show AWM _ _ _ _ _ _
  refine AWM.seq ?_
  refine St hin ct35 ?_
  show AWM _ _ _ _ _ _
  refine AWM.seq ?_
  by_cases hc0 : chkE t = 0
  rotate_left
  · rw [if_pos hc0] at hR
    subst hR
    have hcb : (chkE t != 0) = true := by simpa using hc0
    repeat refine St (And.intro hck <| hcb) ct35 ?_
    refine AWP.weak (Weak.moveBx (v' := _) 0 1 [0] 0 _ rfl rfl rfl (by decide) (by simp only [W, eqq, ↓reduceIte, Nat.reduceEqDiff, Nat.reduceLT, Nat.reduceLeDiff, Nat.reduceAdd, Nat.reduceMul, Nat.reduceSub, Nat.reduceBEq, Int.reduceLE, Int.reduceLT, Int.reduceNeg, Int.reduceToNat, Int.reduceEq, Int.reduceBEq, Int.reduceBNe, Nat.reduceBNe, bne_self_eq_false, reduceCtorEq, gt_iff_lt, ge_iff_le]) (by simp only [W, eqq, ↓reduceIte, Nat.reduceEqDiff, Nat.reduceLT, Nat.reduceLeDiff, Nat.reduceAdd, Nat.reduceMul, Nat.reduceSub, Nat.reduceBEq, Int.reduceLE, Int.reduceLT, Int.reduceNeg, Int.reduceToNat, Int.reduceEq, Int.reduceBEq, Int.reduceBNe, Nat.reduceBNe, bne_self_eq_false, reduceCtorEq, gt_iff_lt, ge_iff_le]) (by simp only [W, eqq, ↓reduceIte, Nat.reduceEqDiff, Nat.reduceLT, Nat.reduceLeDiff, Nat.reduceAdd, Nat.reduceMul, Nat.reduceSub, Nat.reduceBEq, Int.reduceLE, Int.reduceLT, Int.reduceNeg, Int.reduceToNat, Int.reduceEq, Int.reduceBEq, Int.reduceBNe, Nat.reduceBNe, bne_self_eq_false, reduceCtorEq, gt_iff_lt, ge_iff_le]; rfl)) ?_
    refine AWP.ret (ret_early (y := .skip) E_ok (rs := [.cell 8 30]) rfl ?_)
    exact Fin @vwN.eq_def [] [0, 1, 5]
  rw [if_neg (by rw [hc0]; simp)] at hR
  have hcb : (chkE t != 0) = false := by simpa using hc0
  cases heq : eqRefs sp (insR t first) with
  | false =>
    rw [heq] at hR hef
    rw [if_pos rfl] at hR
    subst hR
    repeat refine St (And.intro hck <| And.intro hcb <| hef) ct35 ?_
    refine AWP.weak (Weak.moveBx (v' := _) 0 1 [0] 0 _ rfl rfl rfl (by decide) (by simp only [W, eqq, ↓reduceIte, Nat.reduceEqDiff, Nat.reduceLT, Nat.reduceLeDiff, Nat.reduceAdd, Nat.reduceMul, Nat.reduceSub, Nat.reduceBEq, Int.reduceLE, Int.reduceLT, Int.reduceNeg, Int.reduceToNat, Int.reduceEq, Int.reduceBEq, Int.reduceBNe, Nat.reduceBNe, bne_self_eq_false, reduceCtorEq, gt_iff_lt, ge_iff_le]) (by simp only [W, eqq, ↓reduceIte, Nat.reduceEqDiff, Nat.reduceLT, Nat.reduceLeDiff, Nat.reduceAdd, Nat.reduceMul, Nat.reduceSub, Nat.reduceBEq, Int.reduceLE, Int.reduceLT, Int.reduceNeg, Int.reduceToNat, Int.reduceEq, Int.reduceBEq, Int.reduceBNe, Nat.reduceBNe, bne_self_eq_false, reduceCtorEq, gt_iff_lt, ge_iff_le]) (by simp only [W, eqq, ↓reduceIte, Nat.reduceEqDiff, Nat.reduceLT, Nat.reduceLeDiff, Nat.reduceAdd, Nat.reduceMul, Nat.reduceSub, Nat.reduceBEq, Int.reduceLE, Int.reduceLT, Int.reduceNeg, Int.reduceToNat, Int.reduceEq, Int.reduceBEq, Int.reduceBNe, Nat.reduceBNe, bne_self_eq_false, reduceCtorEq, gt_iff_lt, ge_iff_le]; rfl)) ?_
    refine AWP.ret (ret_early (y := .skip) E_ok (rs := [.cell 8 30]) rfl ?_)
    exact Fin @vwN.eq_def [] [0, 1, 5]
  | true =>
  rw [heq] at hR hef
  rw [if_neg (by simp)] at hR
  repeat refine St (And.intro hck <| And.intro hcb <| hef) ct35 ?_
  show AWM _ _ _ _ _ _
  refine AWM.seq ?_
  refine St hnm ct35 ?_
  show AWM _ _ _ _ _ _
  have hnl : namO t = (nmH t).1 := rfl
  rw [hnl] at hnm ⊢
  obtain ⟨c1, c2, c3, _⟩ : t.ins.length ≤ 20 ∧ t.outs.length ≤ 20 ∧ (∀ x ∈ t.outs, x.scr.length ≤ 1000) ∧ _ := by
    rcases chk_two t with ⟨e1, e2, e3⟩ | ⟨e1, e2⟩
    · exact countsB_ok e2
    · rw [e1] at hc0; cases hc0
  generalize hN : nmH t = N at *
  obtain ⟨U, hU⟩ : ∃ U, unmV N t.outs.length l = U := ⟨_, rfl⟩
  rw [hU] at hR
  have hd0 : ((0 : Int) != 0) = false := rfl
  refine AWM.seq ?_
  refine AWP.weak (Weak.moveBx (v' := _) 0 1 [0] 0 _ rfl rfl rfl (by decide) (by simp only [W, eqq]) (by simp only [W, eqq]) (by simp only [W, eqq]; rfl)) ?_
  repeat refine St hmo ct35 ?_
  refine AWP.loop (G := { x : Nat × List TCoin // x.1 ≤ t.outs.length ∧ x.2.length ≤ 400000 ∧ lowL x.2 = true ∧ unmV N (t.outs.length - x.1) x.2 = U }) (fun x => ⟨[(3, .t (.sq 37 (sp.map coinT))), (4, .ptr 2 0 []), (5, .ptr 3 0 []), (8, .ptr 4 0 []), (11, .ptr 5 0 []), (36, .t (.int .i64 (t.outs.length : Int))), (37, .t (.int .i64 (x.1.1 : Int)))], [.bx (.st [.own 6]), .no, .bx (.ptr 0 0 []), .bx (.t (.st [.int .u32 (t.ver.toNat : Int), .sq 35 (t.ins.map inT), .sq 2 (t.outs.map outT), .int .u32 (t.lock.toNat : Int)])), .bx (.t (.int .i64 0)), .bx (.t (.ba 32 N.1)), .sq 37 (x.1.2.map coinT)]⟩) (fun x => t.outs.length - x.1.1) ⟨⟨0, l⟩, Nat.zero_le _, hlen, hlow, hU⟩ (Wt trivial [3, 4, 5, 8, 11, 36, 37] [0, 1, 2, 3, 4, 5, 6]) ?_
  rintro ⟨⟨i, L⟩, hi, hL, hLl, hT⟩
  dsimp only at hi hL hLl hT ⊢
  by_cases hlt : i < t.outs.length
  · have hlt2 : (i : Int) < (t.outs.length : Int) := by omega
    obtain ⟨z, hz⟩ : ∃ z : Nat, z = t.outs.length - 1 - i := ⟨_, rfl⟩
    have hw1 : IntKind.i64.wrap ((i : Int) + 1) = ((i + 1 : Nat) : Int) := by rw [wrap_i64 (by omega) (by omega)]; omega
    have hw2 : IntKind.i64.wrap ((t.outs.length : Int) - 1) = (t.outs.length : Int) - 1 := by rw [wrap_i64 (by omega) (by omega)]
    have hw3 : IntKind.i64.wrap ((t.outs.length : Int) - 1 - (i : Int)) = (z : Int) := by rw [wrap_i64 (by omega) (by omega)]; omega
    have hw4 : IntKind.u32.wrap (z : Int) = ((UInt32.ofNat z).toNat : Int) := by
      rw [wrap_u32 (by omega) (by omega), UInt32.toNat_ofNat', Nat.mod_eq_of_lt (by omega)]
    rw [show t.outs.length - i = z + 1 by omega, unmV] at hT
    have hsp := spend_vc L ⟨N, UInt32.ofNat z⟩ (by omega) hLl
    obtain ⟨s1, s2, s3⟩ := spdV_ok hLl ⟨N, UInt32.ofNat z⟩
    generalize UInt32.ofNat z = uz at *
    generalize spdV L ⟨N, uz⟩ = S at *
    obtain ⟨L', cc, e⟩ := S
    dsimp only at hT hsp s1 s2 s3
    simp only [vwN] at hsp
    rw [coinT_st] at hsp
    by_cases he : e = 0
    · subst he
      rw [if_neg (by simp)] at hT
      repeat refine St (And.intro hlt <| And.intro hlt2 <| And.intro hmo <| And.intro hw1 <| And.intro hw2 <| And.intro hw3 <| And.intro hw4 <| And.intro hsp <| hd0) ct35 ?_
      exact ⟨⟨⟨i + 1, L'⟩, by show i + 1 ≤ t.outs.length; omega, by show L'.length ≤ 400000; omega, s1, by dsimp only; rw [show t.outs.length - (i + 1) = z by omega]; exact hT⟩, (Wt trivial [3, 4, 5, 8, 11, 36, 37] [0, 1, 2, 3, 4, 5, 7]), by simp only; omega⟩
    · rw [if_pos he] at hT
      have he2 : (e != 0) = true := by simpa using he
      subst hT
      rw [if_pos he] at hR
      subst hR
      dsimp only
      repeat refine St (And.intro hlt <| And.intro hlt2 <| And.intro hmo <| And.intro hw1 <| And.intro hw2 <| And.intro hw3 <| And.intro hw4 <| And.intro hsp <| he2) ct35 ?_
      refine AWP.ret (ret_early (y := .skip) E_ok (rs := [.cell 8 30]) rfl ?_)
      exact Fin @vwN.eq_def [] [0, 1, 7]
  obtain rfl : i = t.outs.length := by omega
  have hlt2 : ¬ (t.outs.length : Int) < (t.outs.length : Int) := by omega
  rw [Nat.sub_self, unmV] at hT
  subst hT
  rw [if_neg (by simp)] at hR
  dsimp only at hR
  repeat refine St hlt2 ct35 ?_
  show AWM _ _ _ _ _ _
  refine AWM.seq2 ?_
  refine St hbw ct35 ?_
  show seqZ _ _ _ _ _ _ _ _
  intro c hc m0 w0 a hi0 hs0
  obtain ⟨m1, hi1, hs1⟩ := (show Weak 2 69 _ ⟨[(60, .clo 59 [.ptr 4 0 []]), (4, .ptr 2 0 []), (8, .ptr 3 0 [])], [.bx (.st [.own 5]), .no, .bx (.ptr 0 0 []), .bx (.t (.int .i64 0)), .bx (.t (.sq 37 (sp.map coinT))), .sq 37 ((lsV L sp 0).map coinT)]⟩ from (Wt (And.intro @lsV.eq_1 <| @lsV.eq_2) [60, 4, 8] [0, 1, 2, 4, 7, 6])) c hc m0 w0 a hi0 hs0
  clear hi0 hs0 hlt2 hi hbw hnm hck hmo hin hef
  refine rev_tail (N := 69) (kp := 2) (k := 5) (j := 4) (rs := [.cell 8 30]) rfl sp (by omega)
    (Hs := fun i => [.bx (.st [.own 5]), .no, .bx (.ptr 0 0 []), .bx (.t (.int .i64 0)), .bx (.t (.sq 37 (sp.map coinT))), .sq 37 ((lsV L sp i).map coinT)])
    (Hx := [.bx (.st [.own 5]), .no, .bx (.ptr 0 0 []), .bx (.t (.int .i64 R.2)), .bx (.t (.sq 37 (sp.map coinT))), .sq 37 (R.1.map coinT)])
    (Gi := fun i => lowL (lsV L sp i) = true ∧ (lsV L sp i).length ≤ 400000 + i ∧ addsV (lsV L sp i) (sp.reverse.drop i) = R)
    (sL := [(4, .ptr 2 0 []), (8, .ptr 3 0 [])])
    (S1 := fun i => ⟨[(4, .ptr 2 0 []), (8, .ptr 3 0 []), (17, .ptr 6 0 [])], [.bx (.st [.own 5]), .no, .bx (.ptr 0 0 []), .bx (.t (.int .i64 0)), .bx (.t (.sq 37 (sp.map coinT))), .sq 37 ((lsV L sp i).map coinT), .bx (.t (coinT (sp.getD (sp.length - 1 - i) dCoin)))]⟩)
    (by decide) (by decide) (by decide) (by decide) (by decide) rfl (fun i => by simp) (fun i => rfl) ?_ ⟨hLl, by show L.length ≤ 400000 + 0; omega, hR⟩ ?_ (fun i => by simp) ?_ ?_ ?_ hc hi1 hs1 rfl
  · intro i
    simp only [lk]
    split
    · show 2 < 5; decide
    · split
      · show 3 < 5; decide
      · trivial
  · intro lr i hlt hG
    simp only [coinT_st]
    generalize sp.getD (sp.length - 1 - i) dCoin = cc
    exact AWF.greg X_ok ct35.cl [0, 1, 2, 3, 4, 5, 8, 9, 10, 11, 12, 13, 15, 17, 18, 31, 36, 37, 38, 56, 60, 67] rfl (Ev trivial) ⟨rfl, (Wt trivial [4, 8, 17] [0, 1, 2, 3, 4, 5, 6])⟩
  · intro lr i hlt hG
    obtain ⟨g1, g2, g3⟩ := hG
    have hlc : lowC (sp.getD (sp.length - 1 - i) dCoin) = true := lowL_get hlows (by omega)
    have hls : lsV L sp (i + 1) = (addV (lsV L sp i) (sp.getD (sp.length - 1 - i) dCoin)).1 := rfl
    rw [rev_drop sp i hlt, addsV] at g3
    have had := add_c (lsV L sp i) (sp.getD (sp.length - 1 - i) dCoin) (by omega) hlc
    obtain ⟨a1, a2⟩ := addV_ok g1 hlc
    rw [hls]
    simp only [coinT_st]
    generalize sp.getD (sp.length - 1 - i) dCoin = cc at *
    generalize lsV L sp i = Li at *
    generalize addV Li cc = A at *
    obtain ⟨L', e⟩ := A
    dsimp only at g3 had a1 a2 ⊢
    simp only [vwN] at had
    refine AWF.block (AWF.seq (AWF.greg X_ok ct35.cl [0, 1, 2, 3, 4, 5, 8, 9, 10, 11, 12, 13, 15, 17, 18, 31, 36, 37, 38, 56, 60, 67] rfl (Ev had) ?_))
    show AWF _ _ _ _ _ _ _ _
    by_cases he : e = 0
    · subst he
      rw [if_neg (by simp)] at g3
      refine AWF.seq (AWF.greg X_ok ct35.cl [0, 1, 2, 3, 4, 5, 8, 9, 10, 11, 12, 13, 15, 17, 18, 31, 36, 37, 38, 56, 60, 67] rfl (Ev hd0) ?_)
      show AWF _ _ _ _ _ _ _ _
      refine AWF.condF (b := false) rfl rfl (AWF.skip (.inl ⟨rfl, ⟨a1, by omega, g3⟩, ?_⟩))
      exact (Wt trivial [] [0, 1, 2, 3, 4, 7])
    · rw [if_pos he] at g3
      have he2 : (e != 0) = true := by simpa using he
      subst g3
      refine AWF.seq (AWF.greg X_ok ct35.cl [0, 1, 2, 3, 4, 5, 8, 9, 10, 11, 12, 13, 15, 17, 18, 31, 36, 37, 38, 56, 60, 67] rfl (Ev he2) ?_)
      show AWF _ _ _ _ _ _ _ _
      refine AWF.condT (b := true) rfl rfl (AWF.seq (AWF.greg X_ok ct35.cl [0, 1, 2, 3, 4, 5, 8, 9, 10, 11, 12, 13, 15, 17, 18, 31, 36, 37, 38, 56, 60, 67] rfl (Ev trivial) ?_))
      show AWF _ _ _ _ _ _ _ _
      refine AWF.ret (.inr ⟨rfl, ?_⟩)
      exact (Wt trivial [] [0, 1, 2, 3, 4, 7])
  · intro D hG
    obtain ⟨g1, g2, g3⟩ := hG
    rw [List.drop_of_length_le (by rw [List.length_reverse]; exact Nat.le_refl _), addsV] at g3
    subst g3
    refine AWF.seq (AWF.greg X_ok ct35.cl [0, 1, 2, 3, 4, 5, 8, 9, 10, 11, 12, 13, 15, 17, 18, 31, 36, 37, 38, 56, 60, 67] rfl (Ev trivial) ?_)
    show AWF _ _ _ _ _ _ _ _
    refine AWF.ret ⟨rfl, ?_⟩
    exact Fin @vwN.eq_def [] [0, 1, 5]
  · exact Fin @vwN.eq_def [] [0, 1, 5]

theorem rev_c (l : List TCoin) (t : TTx) (first : Bool) (sp : List TCoin) (h : l.length ≤ 400000) (h2 : lowL l = true) (h3 : sp.length ≤ 10000) (h4 : lowL sp = true) (h5 : t.ins.length ≤ 10000) :
    G35 [.bx (.st [.own 1]), .sq 37 (l.map coinT)] [.ptr 0 0 [], .t (txT t), .t (.bool first), .t (.sq 37 (sp.map coinT))] = some (vwN (revV l t (nmH t) first sp).1, .t (.int .i64 (revV l t (nmH t) first sp).2)) := by
  show G35 (vwH l) [.ptr 0 0 [], .t (txT t), .t (.bool first), .t (coinsT sp)] = _
  simp only [G35, inv_of vwH_inj, inv_of txT_inj, inv_of coinsT_inj]
  exact if_pos ⟨h, h2, h3, h4, h5⟩

end Go.Fw

end

section
/- view: the trial of a transaction reverted; Revert. -/
namespace Go.Fw
open Go Go.Proofs
set_option linter.unusedVariables false
set_option linter.unusedSimpArgs false

/-- What Revert's trial is lent. -/
structure RvX where
  l : List TCoin
  t : TTx
  first : Bool
  sp : List TCoin
noncomputable def rvH (x : RvX) : List Blk := [.bx (.st [.own 1]), .sq 37 (x.l.map coinT), .bx (.t (txT x.t)), .bx (.t (.bool x.first)), .bx (.t (coinsT x.sp))]
theorem rvH_inj (a b : RvX) (h : rvH a = rvH b) : a = b := by
  obtain ⟨l1, t1, f1, s1⟩ := a
  obtain ⟨l2, t2, f2, s2⟩ := b
  simp only [rvH, List.cons.injEq, Blk.sq.injEq, Blk.bx.injEq, AV.t.injEq, T.bool.injEq, true_and, and_true] at h
  obtain ⟨g1, g2, g3, g4⟩ := h
  rw [coins_inj _ _ g1, txT_inj _ _ g2, g3, coinsT_inj _ _ g4]
noncomputable def rvN (x : RvX) (l : List TCoin) : List Blk := [.bx (.st [.own 5]), .no, .bx (.t (txT x.t)), .bx (.t (.bool x.first)), .bx (.t (coinsT x.sp)), .sq 37 (l.map coinT)]
noncomputable def rv1 (x : RvX) : List TCoin × Int := revV x.l x.t (nmH x.t) x.first x.sp
def RvX.ok (x : RvX) : Prop := x.l.length ≤ 400000 ∧ lowL x.l = true ∧ x.sp.length ≤ 10000 ∧ lowL x.sp = true ∧ x.t.ins.length ≤ 10000

noncomputable def G39 : GFun
  | HB, [.ptr 0 0 [], .ptr 2 0 [], .ptr 3 0 [], .ptr 4 0 []] => match inv rvH HB with
    | some x => @ite _ ((x.ok)) (Classical.propDecidable _) ((some (rvN x (rv1 x).1, .t (.int .i64 (rv1 x).2)))) none
    | none => none
  | _, _ => none

theorem ct39 : CT [(35, ⟨[true, false, false, false], G35⟩)] [0, 1, 2, 3, 5] [] := ⟨(.cons g35 (.nil _))⟩

set_option maxHeartbeats 2000000 in
theorem g39 : GCon Try.prog 39 G39 := by
  refine gconc E_ok (rs := [.tmp 5 30]) Try.func39 rfl Try.ntmps39 (by kernel_rfl) rfl (by decide) G39 (np := 4) ?_ ?_
  · intro HB xs h; unfold G39; split <;> first | rfl | (simp at h; done)
  intro HB xs H r hG hwf hex
  unfold G39 at hG
  split at hG <;> try (cases hG; done)
  split at hG <;> try (cases hG; done)
  rename_i x hx
  split at hG
  case isFalse => cases hG
  rename_i hcc
  cases hG
  obtain ⟨h1, h2, h3, h4, h5⟩ := hcc
  obtain rfl := inv_inv hx
  have h := rev_c x.l x.t x.first x.sp h1 h2 h3 h4 h5
  obtain ⟨l, t, first, sp⟩ := x
  dsimp only at h
  simp only [rvH, rvN, rv1, coinsT]
  generalize revV l t (nmH t) first sp = R at *
  obtain ⟨L, e⟩ := R
  dsimp only at h ⊢
  rw [txT_st] at h ⊢
  simp only [vwN] at h
  repeat refine St (And.intro (And.intro @gentry.eq_1 <| @gentry.eq_2) <| h) ct39 ?_
  exact AWP.ret (Fin trivial [] [0, 1, 2, 3, 4, 5])
theorem rv1_c (x : RvX) (h : x.ok) : G39 (rvH x) [.ptr 0 0 [], .ptr 2 0 [], .ptr 3 0 [], .ptr 4 0 []] = some (rvN x (rv1 x).1, .t (.int .i64 (rv1 x).2)) := by
  simp only [G39, inv_of rvH_inj]
  exact if_pos h

/-- The trial of Revert. -/
noncomputable def G32R : GFun
  | HB, [.ptr 0 0 [], .clo 39 [.ptr 2 0 [], .ptr 3 0 [], .ptr 4 0 []]] => match inv rvH HB with
    | some x => @ite _ ((x.ok)) (Classical.propDecidable _) ((some (rvN x (if (rv1 x).2 = 0 then (rv1 x).1 else x.l), .t (.int .i64 (rv1 x).2)))) none
    | none => none
  | _, _ => none

theorem ct32R : CT [(39, ⟨[true, true, true, true], G39⟩), (47, ⟨[true], G47⟩)] [0, 1, 4, 5, 6, 18] [] := ⟨(.cons g39 (.cons g47 (.nil _)))⟩

set_option maxHeartbeats 4000000 in
theorem g32R : GCon Try.prog 32 G32R := by
  refine gconc E_ok (rs := [.tmp 4 30]) Try.func32 rfl Try.ntmps32 (by kernel_rfl) rfl (by decide) G32R (np := 2) ?_ ?_
  · intro HB xs h; unfold G32R; split <;> first | rfl | (simp at h; done)
  intro HB xs H r hG hwf hex
  unfold G32R at hG
  split at hG <;> try (cases hG; done)
  
  split at hG <;> try (cases hG; done)
  rename_i x hx
  split at hG
  case isFalse => cases hG
  rename_i hcc
  cases hG
  obtain rfl := inv_inv hx
  have h := rv1_c x hcc
  have hcl := clone_vc x.l (by have := hcc.1; omega)
  generalize rv1 x = R at *
  obtain ⟨l, t, first, sp⟩ := x
  obtain ⟨L, e⟩ := R
  dsimp only at h hcl ⊢
  simp only [rvH, rvN, coinsT] at h ⊢
  rw [txT_st] at h ⊢
  by_cases he : e = 0
  · subst he
    rw [if_pos rfl]
    have he2 : ((0 : Int) == 0) = true := rfl
    repeat refine St (And.intro (And.intro @gentry.eq_1 <| @gentry.eq_2) <| And.intro hcl <| And.intro h <| he2) ct32R ?_
    refine AWP.weak (Weak.drop 1 _ rfl rfl) ?_
    exact AWP.ret (Fin trivial [] [0, 1, 2, 3, 4, 7])
  · rw [if_neg he]
    have he2 : (e == 0) = false := by simpa using he
    repeat refine St (And.intro (And.intro @gentry.eq_1 <| @gentry.eq_2) <| And.intro hcl <| And.intro h <| he2) ct32R ?_
    refine AWP.weak (Weak.moveBx (v' := _) 0 1 [0] 0 _ rfl rfl rfl (by decide) (by simp only [W, eqq, ↓reduceIte, Nat.reduceEqDiff, Nat.reduceLT, Nat.reduceLeDiff, Nat.reduceAdd, Nat.reduceMul, Nat.reduceSub, Nat.reduceBEq, Int.reduceLE, Int.reduceLT, Int.reduceNeg, Int.reduceToNat, Int.reduceEq, Int.reduceBEq, Int.reduceBNe, Nat.reduceBNe, bne_self_eq_false, reduceCtorEq, gt_iff_lt, ge_iff_le]) (by simp only [W, eqq, ↓reduceIte, Nat.reduceEqDiff, Nat.reduceLT, Nat.reduceLeDiff, Nat.reduceAdd, Nat.reduceMul, Nat.reduceSub, Nat.reduceBEq, Int.reduceLE, Int.reduceLT, Int.reduceNeg, Int.reduceToNat, Int.reduceEq, Int.reduceBEq, Int.reduceBNe, Nat.reduceBNe, bne_self_eq_false, reduceCtorEq, gt_iff_lt, ge_iff_le]) (by simp only [W, eqq, ↓reduceIte, Nat.reduceEqDiff, Nat.reduceLT, Nat.reduceLeDiff, Nat.reduceAdd, Nat.reduceMul, Nat.reduceSub, Nat.reduceBEq, Int.reduceLE, Int.reduceLT, Int.reduceNeg, Int.reduceToNat, Int.reduceEq, Int.reduceBEq, Int.reduceBNe, Nat.reduceBNe, bne_self_eq_false, reduceCtorEq, gt_iff_lt, ge_iff_le]; rfl)) ?_
    exact AWP.ret (Fin trivial [] [0, 1, 2, 3, 4, 8])

theorem trialR_c (x : RvX) (h : x.ok) : G32R (rvH x) [.ptr 0 0 [], .clo 39 [.ptr 2 0 [], .ptr 3 0 [], .ptr 4 0 []]] = some (rvN x (if (rv1 x).2 = 0 then (rv1 x).1 else x.l), .t (.int .i64 (rv1 x).2)) := by
  simp only [G32R, inv_of rvH_inj]
  exact if_pos h

/-- A transaction reverted, or nothing changed. -/
noncomputable def revertV (l : List TCoin) (t : TTx) (first : Bool) (sp : List TCoin) : List TCoin × Int :=
  (if (rv1 ⟨l, t, first, sp⟩).2 = 0 then (rv1 ⟨l, t, first, sp⟩).1 else l, (rv1 ⟨l, t, first, sp⟩).2)
noncomputable def G25R : GFun
  | HB, [.ptr 0 0 [], .t x, .t (.bool first), .t y] => match inv vwH HB, inv txT x, inv coinsT y with
    | some l, some t, some sp => @ite _ ((RvX.ok ⟨l, t, first, sp⟩)) (Classical.propDecidable _) ((some (vwN (revertV l t first sp).1, .t (.int .i64 (revertV l t first sp).2)))) none
    | _, _, _ => none
  | _, _ => none

theorem ct25R : CT [(32, ⟨[true, true], G32R⟩)] [0, 1, 2, 3, 5, 6, 7, 8, 10] [] := ⟨(.cons g32R (.nil _))⟩

set_option maxHeartbeats 4000000 in
theorem g25R : GCon Try.prog 25 G25R := by
  refine gconc E_ok (rs := [.tmp 8 30]) Try.func25 rfl Try.ntmps25 (by kernel_rfl) rfl (by decide) G25R (np := 4) ?_ ?_
  · intro HB xs h; unfold G25R; split <;> first | rfl | (simp at h; done)
  intro HB xs H r hG hwf hex
  unfold G25R at hG
  split at hG <;> try (cases hG; done)
  
  rename_i x first y
  split at hG <;> try (cases hG; done)
  rename_i l t sp hl htx hsp
  split at hG
  case isFalse => cases hG
  rename_i hcc
  cases hG
  obtain rfl := inv_inv hl
  obtain rfl := inv_inv htx
  obtain rfl := inv_inv hsp
  have h := trialR_c ⟨l, t, first, sp⟩ hcc
  unfold revertV
  generalize rv1 ⟨l, t, first, sp⟩ = R at *
  obtain ⟨L, e⟩ := R
  dsimp only at h ⊢
  generalize (if e = 0 then L else l) = Z at *
  simp only [vwH, rvH, rvN, coinsT] at h ⊢
  rw [txT_st] at h ⊢
  repeat refine St (And.intro (And.intro @gentry.eq_1 <| @gentry.eq_2) <| h) ct25R ?_
  exact AWP.ret (Fin @vwN.eq_def [] [0, 1, 5])
theorem revert_c (l : List TCoin) (t : TTx) (first : Bool) (sp : List TCoin) (h : RvX.ok ⟨l, t, first, sp⟩) : G25R [.bx (.st [.own 1]), .sq 37 (l.map coinT)] [.ptr 0 0 [], .t (txT t), .t (.bool first), .t (.sq 37 (sp.map coinT))] = some (vwN (revertV l t first sp).1, .t (.int .i64 (revertV l t first sp).2)) := by
  show G25R (vwH l) [.ptr 0 0 [], .t (txT t), .t (.bool first), .t (coinsT sp)] = _
  simp only [G25R, inv_of vwH_inj, inv_of txT_inj, inv_of coinsT_inj]
  exact if_pos h

end Go.Fw

end

section
/- view: a block undone. -/
namespace Go.Fw
open Go Go.Proofs
set_option linter.unusedVariables false
set_option linter.unusedSimpArgs false

theorem lowL_cut {sp : List TCoin} (h : lowL sp = true) (i j : Nat) : lowL ((sp.take i).drop j) = true := lowL_drop (lowL_take h i) j

/-- What Undo's trial is lent. -/
structure UdX where
  l : List TCoin
  sp : List TCoin
  ts : List TTx
noncomputable def udH (x : UdX) : List Blk := [.bx (.st [.own 1]), .sq 37 (x.l.map coinT), .bx (.t (coinsT x.sp)), .bx (.t (txsT x.ts)), .bx (.t (.fn 35))]
theorem udH_inj (a b : UdX) (h : udH a = udH b) : a = b := by
  obtain ⟨l1, t1, f1⟩ := a
  obtain ⟨l2, t2, f2⟩ := b
  simp only [udH, List.cons.injEq, Blk.sq.injEq, Blk.bx.injEq, AV.t.injEq, true_and, and_true] at h
  obtain ⟨g1, g2, g3⟩ := h
  rw [coins_inj _ _ g1, coinsT_inj _ _ g2, txsT_inj _ _ g3]
noncomputable def udN (x : UdX) (l : List TCoin) : List Blk := [.bx (.st [.own 5]), .no, .bx (.t (coinsT x.sp)), .bx (.t (txsT x.ts)), .bx (.t (.fn 35)), .sq 37 (l.map coinT)]
noncomputable def ud1 (x : UdX) : List TCoin × Int := undV nmH x.ts x.sp x.ts.length x.l
def fewIn (t : TTx) : Bool := decide (t.ins.length ≤ 10000)
def UdX.ok (x : UdX) : Prop := x.l.length ≤ 300000 ∧ lowL x.l = true ∧ x.sp.length ≤ 10000 ∧ lowL x.sp = true ∧ x.ts.length ≤ 10000 ∧ x.ts.all fewIn = true
def UdX.fit (x : UdX) : Prop := cumN x.ts x.ts.length = x.sp.length

theorem few_get {ts : List TTx} (h : ts.all fewIn = true) {i : Nat} (hi : i < ts.length) : (ts.getD i dTx).ins.length ≤ 10000 := by
  have := List.all_eq_true.1 h (ts.getD i dTx) (by simp [List.getD_eq_getElem?_getD, hi])
  exact of_decide_eq_true this
theorem insR_len (t : TTx) (f : Bool) : (insR t f).length ≤ t.ins.length := by unfold insR; split <;> simp

noncomputable def G36 : GFun
  | HB, [.ptr 0 0 [], .ptr 2 0 [], .ptr 3 0 [], .ptr 4 0 []] => match inv udH HB with
    | some x => @ite _ ((x.ok ∧ x.fit)) (Classical.propDecidable _) ((some (udN x (ud1 x).1, .t (.int .i64 (ud1 x).2)))) none
    | none => none
  | _, _ => none

theorem ct36 : CT [(34, ⟨[false, false], treeG F34⟩), (35, ⟨[true, false, false, false], G35⟩)] [0, 1, 2, 3, 5, 6, 7, 8, 9, 15, 42] [(6, [⟨1, [3], [], []⟩, ⟨0, [0], [], []⟩, ⟨1, [2], [], []⟩, ⟨0, [7], [], []⟩, ⟨1, [31, 32], [2], []⟩, ⟨1, [33], [2, 4], []⟩, ⟨0, [7], [], []⟩, ⟨0, [35], [], []⟩, ⟨0, [6], [], []⟩, ⟨0, [8], [], []⟩, ⟨1, [37, 38], [], []⟩, ⟨2, [29, 30, 34, 36, 39], [0, 2, 4, 5, 10], []⟩, ⟨0, [40], [0, 2, 4, 5, 10, 11], []⟩])] := ⟨(.cons c34.g (.cons g35 (.nil _)))⟩

set_option maxHeartbeats 4000000 in
theorem g36 : GCon Try.prog 36 G36 := by
  refine gconc E_ok (rs := [.tmp 5 30]) Try.func36 rfl Try.ntmps36 (by kernel_rfl) rfl (by decide) G36 (np := 4) ?_ ?_
  · intro HB xs h; unfold G36; split <;> first | rfl | (simp at h; done)
  intro HB xs H r hG hwf hex
  unfold G36 at hG
  split at hG <;> try (cases hG; done)
  split at hG <;> try (cases hG; done)
  rename_i x hx
  split at hG
  case isFalse => cases hG
  rename_i hcc
  cases hG
  obtain ⟨⟨hlen, hlow, hspl, hlows, htl, hfew⟩, hfit⟩ := hcc
  obtain rfl := inv_inv hx
  obtain ⟨l, sp, ts⟩ := x
  have hfit2 : cumN ts ts.length = sp.length := hfit
  dsimp only at hlen hlow hspl hlows htl hfew
  have hmt : (ts.map txT).length = ts.length := List.length_map ..
  have hms : (sp.map coinT).length = sp.length := List.length_map ..
  obtain ⟨R, hR⟩ : ∃ R, undV nmH ts sp ts.length l = R := ⟨_, rfl⟩
  simp only [udH, udN, ud1, coinsT, txsT, hR]
  have hw0 : IntKind.i64.wrap ((ts.length : Int) - 1) = (ts.length : Int) - 1 := by rw [wrap_i64 (by omega) (by omega)]
  have htk : (sp.take (cumN ts ts.length)).map coinT = sp.map coinT := by rw [hfit2, List.take_length]
  refine AWP.weak (Weak.moveBx (v' := _) 0 1 [0] 0 _ rfl rfl rfl (by decide) (by simp only [W, eqq, ↓reduceIte, Nat.reduceEqDiff, Nat.reduceLT, Nat.reduceLeDiff, Nat.reduceAdd, Nat.reduceMul, Nat.reduceSub, Nat.reduceBEq, Int.reduceLE, Int.reduceLT, Int.reduceNeg, Int.reduceToNat, Int.reduceEq, Int.reduceBEq, Int.reduceBNe, Nat.reduceBNe, bne_self_eq_false, reduceCtorEq, gt_iff_lt, ge_iff_le]) (by simp only [W, eqq, ↓reduceIte, Nat.reduceEqDiff, Nat.reduceLT, Nat.reduceLeDiff, Nat.reduceAdd, Nat.reduceMul, Nat.reduceSub, Nat.reduceBEq, Int.reduceLE, Int.reduceLT, Int.reduceNeg, Int.reduceToNat, Int.reduceEq, Int.reduceBEq, Int.reduceBNe, Nat.reduceBNe, bne_self_eq_false, reduceCtorEq, gt_iff_lt, ge_iff_le]) (by simp only [W, eqq, ↓reduceIte, Nat.reduceEqDiff, Nat.reduceLT, Nat.reduceLeDiff, Nat.reduceAdd, Nat.reduceMul, Nat.reduceSub, Nat.reduceBEq, Int.reduceLE, Int.reduceLT, Int.reduceNeg, Int.reduceToNat, Int.reduceEq, Int.reduceBEq, Int.reduceBNe, Nat.reduceBNe, bne_self_eq_false, reduceCtorEq, gt_iff_lt, ge_iff_le]; rfl)) ?_
  repeat refine St (And.intro (And.intro @gentry.eq_1 <| @gentry.eq_2) <| And.intro hmt <| hw0) ct36 ?_
  refine AWP.loop (G := { x : Nat × List TCoin // x.1 ≤ ts.length ∧ x.2.length + cumN ts x.1 ≤ 300000 + sp.length ∧ lowL x.2 = true ∧ undV nmH ts sp x.1 x.2 = R }) (fun x => ⟨[(0, .ptr 0 0 []), (1, .ptr 2 0 []), (2, .ptr 3 0 []), (3, .ptr 4 0 []), (6, .t (.sq 37 ((sp.take (cumN ts x.1.1)).map coinT))), (7, .t (.int .i64 ((x.1.1 : Int) - 1)))], [.bx (.st [.own 5]), .no, .bx (.t (.sq 37 (sp.map coinT))), .bx (.t (.sq 4 (ts.map txT))), .bx (.t (.fn 35)), .sq 37 (x.1.2.map coinT)]⟩) (fun x => x.1.1) ⟨⟨ts.length, l⟩, Nat.le_refl _, by show l.length + cumN ts ts.length ≤ 300000 + sp.length; omega, hlow, hR⟩ (Wt htk [0, 1, 2, 3, 6, 7] [0, 1, 2, 3, 4, 5]) ?_
  rintro ⟨⟨i1, L⟩, hi, hL, hLl, hT⟩
  dsimp only at hi hL hLl hT ⊢
  clear hR hw0 htk
  cases i1 with
  | zero =>
    have hge : ((0 : Int) ≤ ((0 : Nat) : Int) - 1) = False := eq_false (by omega)
    rw [undV] at hT
    subst hT
    dsimp only
    repeat refine St hge ct36 ?_
    exact AWP.ret (Fin trivial [] [0, 1, 2, 3, 4, 5])
  | succ i =>
  have hzi : ((i + 1 : Nat) : Int) - 1 = (i : Int) := by omega
  have hge : ((0 : Int) ≤ (i : Int)) = True := eq_true (by omega)
  have hlt : i < ts.length := by omega
  have hlt2 : (i : Int) < (ts.length : Int) := by omega
  have hw1 : IntKind.i64.wrap ((i : Int) - 1) = (i : Int) - 1 := by rw [wrap_i64 (by omega) (by omega)]
  have hb0 : ((i : Int) == 0) = decide (i = 0) := by
    rw [Bool.eq_iff_iff, beq_iff_eq, decide_eq_true_eq]; omega
  have hg := txs_getD ts i hlt
  have hfi := few_get hfew hlt
  have hin := inputs_c (ts.getD i dTx) (decide (i = 0)) (by omega)
  have hcm : cumN ts (i + 1) = cumN ts i + (insR (ts.getD i dTx) (decide (i = 0))).length := rfl
  have hcle : cumN ts (i + 1) ≤ sp.length := by rw [← hfit2]; exact cumN_mono ts (by omega)
  have hcut : ((sp.take (cumN ts (i + 1))).drop (cumN ts i)).length = cumN ts (i + 1) - cumN ts i := by
    rw [List.length_drop, List.length_take]; omega
  have hrv := rev_c L (ts.getD i dTx) (decide (i = 0)) ((sp.take (cumN ts (i + 1))).drop (cumN ts i)) (by omega) hLl (by omega) (lowL_cut hlows _ _) hfi
  obtain ⟨b1, b2⟩ := revV_ok hLl (ts.getD i dTx) (nmH (ts.getD i dTx)) (decide (i = 0)) (lowL_cut hlows (cumN ts (i + 1)) (cumN ts i))
  rw [undV] at hT
  have hml : ((sp.take (cumN ts (i + 1))).map coinT).length = cumN ts (i + 1) := by rw [List.length_map, List.length_take]; omega
  have hmr : ((insR (ts.getD i dTx) (decide (i = 0))).map rfT).length = (insR (ts.getD i dTx) (decide (i = 0))).length := List.length_map ..
  have hw2 : IntKind.i64.wrap ((cumN ts (i + 1) : Int) - ((insR (ts.getD i dTx) (decide (i = 0))).length : Int)) = (cumN ts i : Int) := by rw [wrap_i64 (by omega) (by omega)]; omega
  have hc1 : ((sp.take (cumN ts (i + 1))).map coinT).drop (cumN ts i) = ((sp.take (cumN ts (i + 1))).drop (cumN ts i)).map coinT := by rw [List.map_drop]
  have hc2 : ((sp.take (cumN ts (i + 1))).map coinT).take (cumN ts i) = (sp.take (cumN ts i)).map coinT := by
    rw [← List.map_take, List.take_take, Nat.min_eq_left (by omega)]
  have hci : cumN ts i ≤ cumN ts (i + 1) := by omega
  have hci2 : (cumN ts i : Int) ≤ (cumN ts (i + 1) : Int) := by omega
  have hci3 : (0 : Int) ≤ (cumN ts i : Int) := by omega
  rw [txT_st] at hg hrv
  simp only [refsT] at hin
  rw [hzi]
  rw [hcut] at b2
  clear hcut hfit2 hfit hcm hfi hlow hlen
  generalize (sp.take (cumN ts (i + 1))).drop (cumN ts i) = cu at *
  generalize ts.getD i dTx = t at *
  generalize (sp.take (cumN ts (i + 1))).map coinT = Y at *
  generalize insR t (decide (i = 0)) = I at *
  generalize I.map rfT = J at *
  obtain ⟨f, hf⟩ : ∃ f, decide (i = 0) = f := ⟨_, rfl⟩
  rw [hf] at hb0 hin hrv hT b1 b2
  generalize revV L t (nmH t) f cu = Z at *
  obtain ⟨L', e⟩ := Z
  dsimp only at hT hrv b1 b2
  simp only [vwN] at hrv
  by_cases he : e = 0
  · subst he
    rw [if_neg (by simp)] at hT
    have hd0 : ((0 : Int) != 0) = false := rfl
    repeat refine St (And.intro hge <| And.intro hlt <| And.intro hlt2 <| And.intro hmt <| And.intro hg <| And.intro hb0 <| And.intro hin <| And.intro hml <| And.intro hmr <| And.intro hw2 <| And.intro hc1 <| And.intro hc2 <| And.intro hci <| And.intro hci2 <| And.intro hci3 <| And.intro hrv <| And.intro hd0 <| hw1) ct36 ?_
    exact ⟨⟨⟨i, L'⟩, by show i ≤ ts.length; omega, by show L'.length + cumN ts i ≤ 300000 + sp.length; omega, b1, hT⟩, (Wt trivial [0, 1, 2, 3, 6, 7] [0, 1, 2, 3, 4, 6]), by simp only; omega⟩
  · rw [if_pos he] at hT
    have he2 : (e != 0) = true := by simpa using he
    subst hT
    dsimp only
    repeat refine St (And.intro hge <| And.intro hlt <| And.intro hlt2 <| And.intro hmt <| And.intro hg <| And.intro hb0 <| And.intro hin <| And.intro hml <| And.intro hmr <| And.intro hw2 <| And.intro hc1 <| And.intro hc2 <| And.intro hci <| And.intro hci2 <| And.intro hci3 <| And.intro hrv <| And.intro he2 <| hw1) ct36 ?_
    exact AWP.ret (Fin trivial [] [0, 1, 2, 3, 4, 6])

theorem ud1_c (x : UdX) (h : x.ok) (h2 : x.fit) : G36 (udH x) [.ptr 0 0 [], .ptr 2 0 [], .ptr 3 0 [], .ptr 4 0 []] = some (udN x (ud1 x).1, .t (.int .i64 (ud1 x).2)) := by
  simp only [G36, inv_of udH_inj]
  exact if_pos ⟨h, h2⟩

/-- The trial of Undo. -/
noncomputable def G32U : GFun
  | HB, [.ptr 0 0 [], .clo 36 [.ptr 2 0 [], .ptr 3 0 [], .ptr 4 0 []]] => match inv udH HB with
    | some x => @ite _ ((x.ok ∧ x.fit)) (Classical.propDecidable _) ((some (udN x (if (ud1 x).2 = 0 then (ud1 x).1 else x.l), .t (.int .i64 (ud1 x).2)))) none
    | none => none
  | _, _ => none

theorem ct32U : CT [(36, ⟨[true, true, true, true], G36⟩), (47, ⟨[true], G47⟩)] [0, 1, 4, 5, 6, 18] [] := ⟨(.cons g36 (.cons g47 (.nil _)))⟩

set_option maxHeartbeats 4000000 in
theorem g32U : GCon Try.prog 32 G32U := by
  refine gconc E_ok (rs := [.tmp 4 30]) Try.func32 rfl Try.ntmps32 (by kernel_rfl) rfl (by decide) G32U (np := 2) ?_ ?_
  · intro HB xs h; unfold G32U; split <;> first | rfl | (simp at h; done)
  intro HB xs H r hG hwf hex
  unfold G32U at hG
  split at hG <;> try (cases hG; done)
  
  split at hG <;> try (cases hG; done)
  rename_i x hx
  split at hG
  case isFalse => cases hG
  rename_i hcc
  cases hG
  obtain rfl := inv_inv hx
  have h := ud1_c x hcc.1 hcc.2
  have hcl := clone_vc x.l (by have := hcc.1.1; omega)
  generalize ud1 x = R at *
  obtain ⟨l, sp, ts⟩ := x
  obtain ⟨L, e⟩ := R
  dsimp only at h hcl ⊢
  simp only [udH, udN, coinsT, txsT] at h ⊢
  by_cases he : e = 0
  · subst he
    rw [if_pos rfl]
    have he2 : ((0 : Int) == 0) = true := rfl
    repeat refine St (And.intro (And.intro @gentry.eq_1 <| @gentry.eq_2) <| And.intro hcl <| And.intro h <| he2) ct32U ?_
    refine AWP.weak (Weak.drop 1 _ rfl rfl) ?_
    exact AWP.ret (Fin trivial [] [0, 1, 2, 3, 4, 7])
  · rw [if_neg he]
    have he2 : (e == 0) = false := by simpa using he
    repeat refine St (And.intro (And.intro @gentry.eq_1 <| @gentry.eq_2) <| And.intro hcl <| And.intro h <| he2) ct32U ?_
    refine AWP.weak (Weak.moveBx (v' := _) 0 1 [0] 0 _ rfl rfl rfl (by decide) (by simp only [W, eqq, ↓reduceIte, Nat.reduceEqDiff, Nat.reduceLT, Nat.reduceLeDiff, Nat.reduceAdd, Nat.reduceMul, Nat.reduceSub, Nat.reduceBEq, Int.reduceLE, Int.reduceLT, Int.reduceNeg, Int.reduceToNat, Int.reduceEq, Int.reduceBEq, Int.reduceBNe, Nat.reduceBNe, bne_self_eq_false, reduceCtorEq, gt_iff_lt, ge_iff_le]) (by simp only [W, eqq, ↓reduceIte, Nat.reduceEqDiff, Nat.reduceLT, Nat.reduceLeDiff, Nat.reduceAdd, Nat.reduceMul, Nat.reduceSub, Nat.reduceBEq, Int.reduceLE, Int.reduceLT, Int.reduceNeg, Int.reduceToNat, Int.reduceEq, Int.reduceBEq, Int.reduceBNe, Nat.reduceBNe, bne_self_eq_false, reduceCtorEq, gt_iff_lt, ge_iff_le]) (by simp only [W, eqq, ↓reduceIte, Nat.reduceEqDiff, Nat.reduceLT, Nat.reduceLeDiff, Nat.reduceAdd, Nat.reduceMul, Nat.reduceSub, Nat.reduceBEq, Int.reduceLE, Int.reduceLT, Int.reduceNeg, Int.reduceToNat, Int.reduceEq, Int.reduceBEq, Int.reduceBNe, Nat.reduceBNe, bne_self_eq_false, reduceCtorEq, gt_iff_lt, ge_iff_le]; rfl)) ?_
    exact AWP.ret (Fin trivial [] [0, 1, 2, 3, 4, 8])

theorem trialU_c (x : UdX) (h : x.ok) (h2 : x.fit) : G32U (udH x) [.ptr 0 0 [], .clo 36 [.ptr 2 0 [], .ptr 3 0 [], .ptr 4 0 []]] = some (udN x (if (ud1 x).2 = 0 then (ud1 x).1 else x.l), .t (.int .i64 (ud1 x).2)) := by
  simp only [G32U, inv_of udH_inj]
  exact if_pos ⟨h, h2⟩

/-- A block undone, or nothing changed. -/
noncomputable def undoV (l : List TCoin) (ts : List TTx) (sp : List TCoin) : List TCoin × Int :=
  if cumN ts ts.length = sp.length then (if (ud1 ⟨l, sp, ts⟩).2 = 0 then (ud1 ⟨l, sp, ts⟩).1 else l, (ud1 ⟨l, sp, ts⟩).2) else (l, 1)
noncomputable def G19U : GFun
  | HB, [.ptr 0 0 [], .t x, .t y] => match inv vwH HB, inv txsT x, inv coinsT y with
    | some l, some ts, some sp => @ite _ ((UdX.ok ⟨l, sp, ts⟩)) (Classical.propDecidable _) ((some (vwN (undoV l ts sp).1, .t (.int .i64 (undoV l ts sp).2)))) none
    | _, _, _ => none
  | _, _ => none

theorem ct19U : CT [(32, ⟨[true, true], G32U⟩), (34, ⟨[false, false], treeG F34⟩), (35, ⟨[true, false, false, false], G35⟩)] [0, 1, 2, 4, 5, 6, 7, 8, 9, 10, 12, 13, 14, 15, 16, 31] [] := ⟨(.cons g32U (.cons c34.g (.cons g35 (.nil _))))⟩

set_option maxHeartbeats 4000000 in
theorem g19U : GCon Try.prog 19 G19U := by
  refine gconc E_ok (rs := [.tmp 6 30]) Try.func19 rfl Try.ntmps19 (by kernel_rfl) rfl (by decide) G19U (np := 3) ?_ ?_
  · intro HB xs h; unfold G19U; split <;> first | rfl | (simp at h; done)
  intro HB xs H r hG hwf hex
  unfold G19U at hG
  split at hG <;> try (cases hG; done)
  
  rename_i x y
  split at hG <;> try (cases hG; done)
  rename_i l ts sp hl htx hsp
  split at hG
  case isFalse => cases hG
  rename_i hcc
  cases hG
  obtain rfl := inv_inv hl
  obtain rfl := inv_inv htx
  obtain rfl := inv_inv hsp
  obtain ⟨hlen, hlow, hspl, hlows, htl, hfew⟩ := hcc
  dsimp only at hlen hlow hspl hlows htl hfew
  have hmt : (ts.map txT).length = ts.length := List.length_map ..
  have hms : (sp.map coinT).length = sp.length := List.length_map ..
  have hcb : ∀ i, i ≤ ts.length → cumN ts i ≤ 10000 * i := by
    intro i
    induction i with
    | zero => intro _; exact Nat.le_refl _
    | succ i ih =>
      intro hi
      have h1 := ih (by omega)
      have h2 := insR_len (ts.getD i dTx) (decide (i = 0))
      have h3 := few_get hfew (show i < ts.length by omega)
      show cumN ts i + (insR (ts.getD i dTx) (decide (i = 0))).length ≤ _
      omega
  simp only [vwH, coinsT, txsT]
  repeat refine St (And.intro (And.intro @gentry.eq_1 <| @gentry.eq_2) <| hmt) ct19U ?_
  refine AWP.loop (G := { i : Nat // i ≤ ts.length }) (fun i => ⟨[(0, .ptr 0 0 []), (4, .ptr 2 0 []), (5, .ptr 3 0 []), (7, .t (.int .i64 (cumN ts i.1 : Int))), (13, .t (.sq 4 (ts.map txT))), (14, .t (.int .i64 (ts.length : Int))), (15, .t (.int .i64 (i.1 : Int)))], [.bx (.st [.own 1]), .sq 37 (l.map coinT), .bx (.t (.sq 4 (ts.map txT))), .bx (.t (.sq 37 (sp.map coinT)))]⟩) (fun i => ts.length - i.1) ⟨0, Nat.zero_le _⟩ (Wt (And.intro @cumN.eq_1 <| @cumN.eq_2) [0, 4, 5, 7, 13, 14, 15] [0, 1, 2, 3]) ?_
  rintro ⟨i, hi⟩
  dsimp only
  by_cases hlt : i < ts.length
  · have hlt2 : (i : Int) < (ts.length : Int) := by omega
    have hw1 : IntKind.i64.wrap ((i : Int) + 1) = ((i + 1 : Nat) : Int) := by rw [wrap_i64 (by omega) (by omega)]; omega
    have hb0 : ((i : Int) == 0) = decide (i = 0) := by
      rw [Bool.eq_iff_iff, beq_iff_eq, decide_eq_true_eq]; omega
    have hg := txs_getD ts i hlt
    have hfi := few_get hfew hlt
    have hin := inputs_c (ts.getD i dTx) (decide (i = 0)) (by omega)
    have hmr : ((insR (ts.getD i dTx) (decide (i = 0))).map rfT).length = (insR (ts.getD i dTx) (decide (i = 0))).length := List.length_map ..
    have hcm : cumN ts (i + 1) = cumN ts i + (insR (ts.getD i dTx) (decide (i = 0))).length := rfl
    have h1 := hcb i hi
    have h2 := insR_len (ts.getD i dTx) (decide (i = 0))
    have hw2 : IntKind.i64.wrap ((cumN ts i : Int) + ((insR (ts.getD i dTx) (decide (i = 0))).length : Int)) = (cumN ts (i + 1) : Int) := by rw [wrap_i64 (by omega) (by omega)]; omega
    rw [txT_st] at hg
    simp only [refsT] at hin
    clear hcm hcb h1 h2 hfi
    generalize ts.getD i dTx = t at *
    generalize insR t (decide (i = 0)) = I at *
    generalize I.map rfT = J at *
    obtain ⟨f, hf⟩ : ∃ f, decide (i = 0) = f := ⟨_, rfl⟩
    rw [hf] at hb0 hin
    repeat refine St (And.intro hlt <| And.intro hlt2 <| And.intro hmt <| And.intro hg <| And.intro hb0 <| And.intro hin <| And.intro hmr <| And.intro hw2 <| hw1) ct19U ?_
    exact ⟨⟨i + 1, by omega⟩, (Wt trivial [0, 4, 5, 7, 13, 14, 15] [0, 1, 2, 3]), by simp only; omega⟩
  obtain rfl : i = ts.length := by omega
  have hlt2 : ¬ (ts.length : Int) < (ts.length : Int) := by omega
  unfold undoV
  by_cases hfit : cumN ts ts.length = sp.length
  · have h := trialU_c ⟨l, sp, ts⟩ ⟨hlen, hlow, hspl, hlows, htl, hfew⟩ hfit
    have hne : ((cumN ts ts.length : Int) != (sp.length : Int)) = false := by
      rw [bne_eq_false_iff_eq]; omega
    rw [if_pos hfit]
    generalize ud1 ⟨l, sp, ts⟩ = R at *
    obtain ⟨L, e⟩ := R
    dsimp only at h ⊢
    generalize (if e = 0 then L else l) = Z at *
    simp only [udH, udN, coinsT, txsT] at h
    repeat refine St (And.intro hlt2 <| And.intro hms <| And.intro hne <| h) ct19U ?_
    exact AWP.ret (Fin @vwN.eq_def [] [0, 1, 5])
  · have hne : ((cumN ts ts.length : Int) != (sp.length : Int)) = true := by
      rw [bne_iff_ne]; omega
    rw [if_neg hfit]
    dsimp only
    repeat refine St (And.intro hlt2 <| And.intro hms <| hne) ct19U ?_
    refine AWP.weak (Weak.moveBx (v' := _) 0 1 [0] 0 _ rfl rfl rfl (by decide) (by simp only [W, eqq, ↓reduceIte, Nat.reduceEqDiff, Nat.reduceLT, Nat.reduceLeDiff, Nat.reduceAdd, Nat.reduceMul, Nat.reduceSub, Nat.reduceBEq, Int.reduceLE, Int.reduceLT, Int.reduceNeg, Int.reduceToNat, Int.reduceEq, Int.reduceBEq, Int.reduceBNe, Nat.reduceBNe, bne_self_eq_false, reduceCtorEq, gt_iff_lt, ge_iff_le]) (by simp only [W, eqq, ↓reduceIte, Nat.reduceEqDiff, Nat.reduceLT, Nat.reduceLeDiff, Nat.reduceAdd, Nat.reduceMul, Nat.reduceSub, Nat.reduceBEq, Int.reduceLE, Int.reduceLT, Int.reduceNeg, Int.reduceToNat, Int.reduceEq, Int.reduceBEq, Int.reduceBNe, Nat.reduceBNe, bne_self_eq_false, reduceCtorEq, gt_iff_lt, ge_iff_le]) (by simp only [W, eqq, ↓reduceIte, Nat.reduceEqDiff, Nat.reduceLT, Nat.reduceLeDiff, Nat.reduceAdd, Nat.reduceMul, Nat.reduceSub, Nat.reduceBEq, Int.reduceLE, Int.reduceLT, Int.reduceNeg, Int.reduceToNat, Int.reduceEq, Int.reduceBEq, Int.reduceBNe, Nat.reduceBNe, bne_self_eq_false, reduceCtorEq, gt_iff_lt, ge_iff_le]; rfl)) ?_
    exact AWP.ret (Fin @vwN.eq_def [] [0, 1, 4])
theorem undo_c (l : List TCoin) (ts : List TTx) (sp : List TCoin) (h : UdX.ok ⟨l, sp, ts⟩) : G19U [.bx (.st [.own 1]), .sq 37 (l.map coinT)] [.ptr 0 0 [], .t (.sq 4 (ts.map txT)), .t (.sq 37 (sp.map coinT))] = some (vwN (undoV l ts sp).1, .t (.int .i64 (undoV l ts sp).2)) := by
  show G19U (vwH l) [.ptr 0 0 [], .t (txsT ts), .t (coinsT sp)] = _
  simp only [G19U, inv_of vwH_inj, inv_of txsT_inj, inv_of coinsT_inj]
  exact if_pos h

end Go.Fw

end
