/- The abstract machine, and the contracts of the code: part 41. -/
import Derived.Test.YtchljppcenckaaaFwW

section
/- Results that lie in variables of the call's own. -/
namespace Go.Fw
open Go
set_option linter.unusedVariables false
set_option linter.unusedSimpArgs false

inductive RS where
  | tmp (i : Nat) (t : TypeId)
  | cell (i : Nat) (t : TypeId)

def RS.var : RS → ResultVar
  | .tmp i _ => .tmp i
  | .cell i t => .cell i t

def RS.val (E : Env) (H : List Blk) (s : Slots) : RS → Option AV
  | .tmp i t => some (thawV H (tydV E (lk i s) t))
  | .cell i t => match aLoad E H t (lk i s) with
    | some v => some (thawV H (tydV E v t))
    | none => none

def resVals (E : Env) (H : List Blk) (s : Slots) : List RS → Option (List AV)
  | [] => some []
  | x :: xs => match x.val E H s with
    | some v => match resVals E H s xs with
      | some vs => some (v :: vs)
      | none => none
    | none => none

def cres (E : Env) (rs : List RS) (H : List Blk) (s : Slots) (ids : List Nat) : Option (List Blk × AV) :=
  match resVals E H s rs with
  | some vs => some (renH ids H, (one vs).ren ids)
  | none => none

def cretQ (E : Env) (rs : List RS) (k : Nat) (H : List Blk) (r : AV) : Exit → AS → Prop := fun e S =>
  (e = .normal ∨ e = .ret) ∧ ∃ (fz ids : List Nat), okIds k ids ∧ cres E rs (freezeOnes S.H fz) S.s ids = some (H, r)

def runRes (tmps : Array Value) : ResultVar → Sem Value
  | .tmp t => pure (tmps.getD t undef)
  | .cell a t => do loadVar t (← asAddr (tmps.getD a undef))

theorem res_run {P : Program} {E : Env} (hE : EnvOk P E) {c : Ctx} {m : Mem} {w : World} {H : List Blk} (h : Inv c m w H) {N : Nat} {a : Act} {s : Slots} (hs : RelS m N a s) (x : RS) {v : AV} (hv : x.val E H s = some v) :
    ∃ u, (runRes a.tmps x.var).run P w = .ok u w ∧ RelA m v u := by
  cases x with
  | tmp i t =>
    simp only [RS.val, Option.some.injEq] at hv
    subst hv
    exact ⟨a.tmps.getD i undef, by simp [RS.var, runRes], thawV_ok h ((hs.2.2 i).typed E t)⟩
  | cell i t =>
    simp only [RS.val] at hv
    split at hv
    · rename_i v0 hl
      cases hv
      obtain ⟨u, h1, h2⟩ := aLoad_ok hE h (hs.2.2 i) hl
      refine ⟨u, ?_, thawV_ok h (h1.typed E t)⟩
      have hp : ∃ ad, a.tmps.getD i undef = .pointer (some ad) := by
        have hr := hs.2.2 i
        generalize a.tmps.getD i undef = val at hr
        generalize hx : lk i s = x at hr hl
        unfold aLoad at hl
        split at hl
        · cases hr; exact ⟨_, rfl⟩
        · obtain ⟨b, rfl, _⟩ := hr.ptr_inv; exact ⟨_, rfl⟩
        · cases hl
      obtain ⟨ad, had⟩ := hp
      simp only [RS.var, runRes, had] at h2 ⊢
      simpa [Instr.loadAt, Instr.sureAddr, asAddr] using h2
    · cases hv

def oneV : List Value → Value
  | [v] => v
  | vs => .tuple vs.toArray

theorem results_run {P : Program} {E : Env} (hE : EnvOk P E) {c : Ctx} {m : Mem} {w : World} {H : List Blk} (h : Inv c m w H) {N : Nat} {a : Act} {s : Slots} (hs : RelS m N a s) {fn : Func} {rs : List RS} (hr : fn.results.toList = rs.map RS.var)
    {vs : List AV} (hv : resVals E H s rs = some vs) : ∃ u, (results fn a.tmps).run P w = .ok u w ∧ RelA m (one vs) u := by
  have h1 : fn.results = (rs.map RS.var).toArray := by rw [← hr]
  have key : ∀ (rs : List RS) (vs : List AV), resVals E H s rs = some vs → ∃ us : List Value, (List.mapM (runRes a.tmps) (rs.map RS.var)).run P w = .ok us w ∧ us.length = vs.length ∧ ∀ (i : Nat) (x : AV), vs[i]? = some x → ∃ u, us[i]? = some u ∧ RelA m x u := by
    intro rs
    induction rs with
    | nil => intro vs hv; simp [resVals] at hv; subst hv; exact ⟨[], by simp, rfl, fun i x h => by simp at h⟩
    | cons r rs ih =>
      intro vs hv
      simp only [resVals] at hv
      split at hv
      · rename_i v hv1
        split at hv
        · rename_i vs' hv2
          cases hv
          obtain ⟨u, hu, hru⟩ := res_run hE h hs r hv1
          obtain ⟨us, k1, k2, k3⟩ := ih vs' hv2
          refine ⟨u :: us, ?_, by simp [k2], fun i x hi => ?_⟩
          · simp only [List.map_cons, List.mapM_cons, Sem.run_bind, Sem.run_pure, Result.andThen_ok, hu, k1]
          · cases i with
            | zero => simp at hi; subst hi; exact ⟨u, rfl, hru⟩
            | succ i => simpa using k3 i x (by simpa using hi)
        · cases hv
      · cases hv
  obtain ⟨us, k1, k2, k3⟩ := key rs vs hv
  have hres : (results fn a.tmps).run P w = .ok (oneV us) w := by
    have e : results fn a.tmps = (do let vs ← fn.results.mapM (runRes a.tmps); pure (if h : vs.size = 1 then vs[0] else .tuple vs)) := rfl
    rw [e, h1]
    simp only [Sem.run_bind, List.mapM_toArray, Sem.run_map]
    rw [k1]
    simp only [Result.andThen_ok, Sem.run_pure]
    congr 1
    match us with
    | [] => rfl
    | [r] => rfl
    | _ :: _ :: _ => simp [oneV]
  refine ⟨_, hres, ?_⟩
  match vs, us, k2, k3 with
  | [], [], _, _ => exact .tup rfl (fun i c h => by simp at h)
  | [v], [u], _, k3 => obtain ⟨u', hu, hr⟩ := k3 0 v rfl; simp at hu; subst hu; exact hr
  | v1 :: v2 :: vs', u1 :: u2 :: us', k2, k3 =>
    refine .tup (by simp at k2 ⊢; exact k2) fun i c hi => ?_
    obtain ⟨u', hu, hr⟩ := k3 i c hi
    have : (u1 :: u2 :: us').toArray.getD i undef = u' := by
      rw [Array.getD_eq_getD_getElem?, List.getElem?_toArray, hu]; rfl
    rw [← this] at hr
    exact hr

theorem gconc {P : Program} {E : Env} (hE : EnvOk P E) {f : FuncId} {fn : Func} {code : Code} {N np : Nat} {rs : List RS} (hfn : P.funcs[f]? = some fn) (hb : fn.body = some code) (hN : fn.ntmps = N)
    (hname : (fn.name == "runtime.NumGoroutine") = false) (hres : fn.results.toList = rs.map RS.var) (hnp : np ≤ N) (G : GFun) (hG : ∀ HB xs, xs.length ≠ np → G HB xs = none)
    (main : ∀ HB xs H r, G HB xs = some (H, r) → (∀ x ∈ xs, x.wf) → (∃ c m w, Inv c m w HB) → AWP HB.length P N code (cretQ E rs HB.length H r) ⟨gentry 0 xs, HB⟩) : GCon P f G := by
  refine ⟨⟨fn, hfn, hname, by rw [hb]; rfl⟩, fun HB xs H r hGx m w vs hinv hlen hrel => ?_⟩
  have hxs : xs.length = np := by
    rcases Nat.decEq xs.length np with h | h
    · rw [hG HB xs h] at hGx; cases hGx
    · exact h
  refine calls_of_wp hfn hb ?_
  have hwf : ∀ x ∈ xs, x.wf := fun x hx => by
    obtain ⟨i, hi⟩ := List.getElem?_of_mem hx
    obtain ⟨u, _, hu⟩ := hrel i x hi
    exact hu.wf
  have hentry : ∀ (xs : List AV) (k i : Nat), lk i (gentry k xs) = (if h : k ≤ i ∧ i - k < xs.length then (xs[i - k]'h.2) else .any) := by
    intro xs
    induction xs with
    | nil => intro k i; simp [gentry, lk]
    | cons x xs ih =>
      intro k i
      simp only [gentry, lk]
      split
      · rename_i e; subst e; simp
      · rename_i e
        rw [ih (k + 1) i]
        by_cases hk : k + 1 ≤ i ∧ i - (k + 1) < xs.length
        · rw [dif_pos hk, dif_pos ⟨by omega, by simp; omega⟩]
          have : i - k = (i - (k + 1)) + 1 := by omega
          simp only [this, List.getElem_cons_succ]
        · rw [dif_neg hk, dif_neg (by simp; omega)]
  have rel0 : RelS m N { tmps := vs.toArray ++ Array.replicate (fn.ntmps - vs.toArray.size) undef, defers := [] } (gentry 0 xs) := by
    refine ⟨rfl, by simp; omega, fun i => ?_⟩
    rw [hentry xs 0 i]
    split
    · rename_i h
      simp only [Nat.sub_zero] at h ⊢
      obtain ⟨u, h1, h2⟩ := hrel i _ (List.getElem?_eq_getElem h.2)
      have hlt := (List.getElem?_eq_some_iff.1 h1).1
      have : (vs.toArray ++ Array.replicate (fn.ntmps - vs.toArray.size) undef).getD i undef = u := by
        rw [Array.getD_eq_getD_getElem?, Array.getElem?_append_left (by simpa using hlt)]
        simp [h1]
      rw [this]; exact h2
    · exact .any
  refine wp_mono (main HB xs H r hGx hwf ⟨_, _, _, hinv⟩ (ctxL w m HB) rfl m w _ hinv rel0) fun e a w' ⟨m2, S, h1, h2, h3, fz, ids, hnd, hcr⟩ => ?_
  obtain ⟨rv, hrv, hH, hr⟩ : ∃ rv, resVals E (freezeOnes S.H fz) S.s rs = some rv ∧ renH ids (freezeOnes S.H fz) = H ∧ (one rv).ren ids = r := by
    unfold cres at hcr
    split at hcr
    · rename_i rv hrv; cases hcr; exact ⟨rv, hrv, rfl, rfl⟩
    · cases hcr
  obtain ⟨m', e1, h1'⟩ := freezeOnes_ok fz m2 S.H h1
  have h2' := h2.mono e1
  obtain ⟨u, hresrun, hvals⟩ := results_run hE h1' h2' hres hrv
  have h4 := h1'.ren ids hnd.1 hnd.get
  have fin : a.defers = [] ∧ ∃ v, (results fn a.tmps).run P w' = .ok v w' ∧ ∃ m3 u, Ending.returned v = .returned u ∧ MLe m.M m3.M ∧ Inv (ctxL w m HB) m3 w' H ∧ RelA m3 r u :=
    ⟨h2.1, _, hresrun, _, _, rfl, h4.le, by rw [← hH]; exact h4, by rw [← hr]; exact hvals.ren ids⟩
  rcases h3 with rfl | rfl
  · exact fin
  · exact fin

theorem ACon.of_g {P : Program} {f : FuncId} {F : Fun} (h : GCon P f (treeG F)) : ACon P f F := by
  refine ⟨h.1, fun ts H r hF M w vs hM hl hr => ?_⟩
  let m0 : Mem := ⟨M, fun _ => undef, 0⟩
  have hno : ∀ b, ¬ lent m0 [] b := fun b ⟨i, B, hi, _⟩ => by simp at hi
  have inv0 : Inv (ctxL w m0 []) m0 w [] := ⟨rfl, hM, .refl _, fun b o h => .inl h, fun i B h => by simp at h, fun i B b h => by simp at h, fun i j B B' b h => by simp at h, rfl, rfl, rfl, Nat.le_refl _, fun _ _ _ => rfl, fun i hi => by cases hi⟩
  have hall : ∀ ts : List T, allT (ts.map AV.t) = some ts := by
    intro ts
    induction ts with
    | nil => rfl
    | cons x xs ih => simp [allT, AV.asT, ih]
  refine (h.2 [] (ts.map AV.t) H r (by simp only [treeG, hall]; exact hF) m0 w vs inv0 (by simpa using hl) (fun i x hx => ?_)).mono fun e w' ⟨m', v, he, hle, hi, hv⟩ => ?_
  · simp only [List.getElem?_map, Option.map_eq_some_iff] at hx
    obtain ⟨t, ht, rfl⟩ := hx
    obtain ⟨u, hu, hru⟩ := hr i t ht
    exact ⟨u, hu, .t hru⟩
  · exact ⟨m', v, he, ⟨hi.len, hi.imm, hi.le, fun b o hb => by
      rcases hi.new b o hb with h1 | ⟨h1 | h1, hp⟩
      · exact .inl h1
      · exact .inr ⟨.inl h1, hp⟩
      · exact (hno b h1).elim, hi.ok, fun i B b h1 h2 h3 => by
      rcases hi.own i B b h1 h2 h3 with h4 | h4
      · exact .inl h4
      · exact (hno b h4).elim, hi.disj, hi.os, hi.tape, hi.output, hi.size, fun b hb _ => hi.frame b hb (hno b), fun i hi => by cases hi⟩, hv⟩

theorem gentry_map : ∀ (ts : List T) (k : Nat), gentry k (ts.map AV.t) = entry k ts
  | [], _ => rfl
  | x :: xs, k => by simp [gentry, entry, gentry_map xs (k + 1)]

theorem aconc {P : Program} {E : Env} (hE : EnvOk P E) {f : FuncId} {fn : Func} {code : Code} {N np : Nat} {rs : List RS} (hfn : P.funcs[f]? = some fn) (hb : fn.body = some code) (hN : fn.ntmps = N)
    (hname : (fn.name == "runtime.NumGoroutine") = false) (hres : fn.results.toList = rs.map RS.var) (hnp : np ≤ N) (F : Fun) (hF : ∀ ts, ts.length ≠ np → F ts = none)
    (main : ∀ ts H r, F ts = some (H, r) → (∀ t ∈ ts, t.wf) → AWP 0 P N code (cretQ E rs 0 H r) ⟨entry 0 ts, []⟩) : ACon P f F := by
  refine ACon.of_g (gconc hE hfn hb hN hname hres hnp (treeG F) (fun HB xs hl => ?_) fun HB xs H r hG hwf hex => ?_)
  · unfold treeG
    split
    · split
      · rename_i ts hts
        have := allT_ok xs ts hts
        subst this
        exact hF ts (by simpa using hl)
      · rfl
    · rfl
  · unfold treeG at hG
    split at hG
    · split at hG
      · rename_i ts hts
        have := allT_ok xs ts hts
        subst this
        rw [gentry_map]
        exact main ts H r hG (fun t ht => by have := hwf (.t t) (List.mem_map_of_mem ht); simpa only [AV.wf] using this)
      · cases hG
    · cases hG

/-! ### Ways that come together. -/

def cutQ {G : Type} (kp : Nat) (N : Nat) (st : G → AS) (Q : Exit → AS → Prop) : Exit → AS → Prop
  | .normal, S => ∃ g, Weak kp N S (st g)
  | e, S => Q e S

theorem AWP.cut {kp : Nat} {P : Program} {N : Nat} {x y : Code} {Q : Exit → AS → Prop} {S : AS} {G : Type} (st : G → AS) (h : AWP kp P N x (cutQ kp N st Q) S) (k : ∀ g, AWP kp P N y Q (st g)) : AWP kp P N (.seq x y) Q S := by
  refine AWP.seq (h.mono fun e S hq => ?_)
  cases e with
  | normal => obtain ⟨g, hw⟩ := hq; exact AWP.weak hw (k g)
  | _ => exact hq

theorem AWP.cut2 {kp : Nat} {P : Program} {N : Nat} {x y : Code} {Q : Exit → AS → Prop} {S : AS} {G : Type} (st : G → AS) (h : AWP kp P N x (cutQ kp N st Q) S) (k : ∀ g, AWP kp P N y Q (st g)) : AWP kp P N x (seqQ kp P N y Q) S := by
  refine h.mono fun e S hq => ?_
  cases e with
  | normal => obtain ⟨g, hw⟩ := hq; exact AWP.weak hw (k g)
  | _ => exact hq

end Go.Fw

end
