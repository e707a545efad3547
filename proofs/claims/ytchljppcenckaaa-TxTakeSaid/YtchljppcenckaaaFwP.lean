/- The abstract machine, and the contracts of the code: part 18. -/
import Derived.Orders
import Derived.Test.YtchljppcenckaaaFwO

section
/- A region whose order is drawn: operations that turn no memory, and calls whose results are read only. -/
namespace Go.Fw
set_option linter.unusedVariables false
set_option linter.unusedSimpArgs false
open Go

/-! ### The value of an operation hangs on its operands alone. -/

theorem aMins_congr {mx : Bool} {a : AV} {r r' : List AV} (h : r = r') : aMins mx a r = aMins mx a r' := by rw [h]

theorem abounds_congr {s s' : Slots} {n : Nat} {lo hi : Option Operand} (h1 : ∀ x, lo = some x → ev s x = ev s' x) (h2 : ∀ x, hi = some x → ev s x = ev s' x) : abounds s n lo hi = abounds s' n lo hi := by
  unfold abounds
  cases hi with
  | none =>
    cases lo with
    | none => rfl
    | some o => simp only [h1 o rfl]
  | some x =>
    simp only [h2 x rfl]
    cases lo with
    | none => rfl
    | some o => simp only [h1 o rfl]

theorem aStill_congr {E : Env} {H : List Blk} {s s' : Slots} {op : Op} (h : ∀ x ∈ op.operands, ev s x = ev s' x) : aStill E H s op = aStill E H s' op := by
  cases op
  case move x => simp only [aStill, h x (by simp [Op.operands])]
  case assign x => simp only [aStill, h x (by simp [Op.operands])]
  case pick c a b => simp only [aStill, h c (by simp [Op.operands]), h a (by simp [Op.operands]), h b (by simp [Op.operands])]
  case nilCheck x => simp only [aStill, h x (by simp [Op.operands])]
  case binOp op t x y _ => simp only [aStill, h x (by simp [Op.operands]), h y (by simp [Op.operands])]
  case unOp op t x => simp only [aStill, h x (by simp [Op.operands])]
  case convert a b x => simp only [aStill, h x (by simp [Op.operands])]
  case slice t x lo hi mx =>
    cases mx with
    | some _ => rfl
    | none =>
      have hx := h x (by simp [Op.operands])
      have hb : ∀ n, abounds s n lo hi = abounds s' n lo hi := fun n => abounds_congr (fun y hy => h y (by subst hy; simp [Op.operands])) (fun y hy => h y (by subst hy; simp [Op.operands]))
      simp only [aStill, aSlice, hx, hb]
  case indexAddr t x i => simp only [aStill, h x (by simp [Op.operands]), h i (by simp [Op.operands])]
  case load t x => simp only [aStill, h x (by simp [Op.operands])]
  case fieldAddr t x f => simp only [aStill, h x (by simp [Op.operands])]
  case extract x i => simp only [aStill, h x (by simp [Op.operands])]
  case call c =>
    obtain ⟨callee, args, tys⟩ := c
    have hargs : ∀ x ∈ args.toList, ev s x = ev s' x := fun x hx => h x (by
      simp only [Op.operands, Call.operands, Array.mem_append]
      exact .inr (Array.mem_toList_iff.1 hx))
    simp only [aStill]
    split
    · rename_i x t he1 he2
      rw [hargs x (by rw [he1]; simp)]
    · rename_i x r he1
      rw [hargs x (by rw [he1]; simp), List.map_congr_left (f := ev s) (g := ev s') (fun y hy => hargs y (by rw [he1]; simp [hy]))]
    · rename_i x r he1
      rw [hargs x (by rw [he1]; simp), List.map_congr_left (f := ev s) (g := ev s') (fun y hy => hargs y (by rw [he1]; simp [hy]))]
    · rfl
  all_goals rfl

/-! ### Calls whose results are read only. -/

mutual
def expV (H : List Blk) : AV → Option AV
  | .t x => some (.t x)
  | .own i => match H[i]? with
    | some (.by l) => some (.t (.by l))
    | some (.sq sz xs) => some (.t (.sq sz xs))
    | some (.fz x) => some (.t x)
    | _ => none
  | .tup xs => match expL H xs with
    | some ys => some (.tup ys)
    | none => none
  | _ => none
def expL (H : List Blk) : List AV → Option (List AV)
  | [] => some []
  | x :: xs => match expV H x with
    | some y => match expL H xs with
      | some ys => some (y :: ys)
      | none => none
    | none => none
end

/-- Values of trees alone that hold no memory. -/
def AV.plain : AV → Bool
  | .t x => x.clean
  | _ => false

def plainR : AV → Bool
  | .tup xs => xs.all AV.plain
  | v => v.plain

def callQ (F : Fun) (H : List Blk) (args : List AV) : Option AV :=
  match immArgs H args with
  | some ts => match F ts with
    | some (H1, r) => expV H1 r
    | none => none
  | none => match snapArgs H args with
    | some ts => match F ts with
      | some (_, r) => if plainR r = true then some r else none
      | none => none
    | none => none

def Mem.more (m : Mem) (M : Nat → Option Obj) : Mem := { m with M := M }

theorem freezeRange_ok {c : Ctx} {w : World} {m : Mem} {H : List Blk} (h : Inv c m w H) : ∃ m', Ext m m' ∧ Inv c m' w (freezeOnes H (List.range H.length)) := freezeOnes_ok _ m H h

theorem freezeOnes_get {l : List Nat} {H : List Blk} {i : Nat} : (freezeOnes H l)[i]? = (if i ∈ l then (match H[i]? with
    | some (.by k) => some (.fz (.by k))
    | some (.sq sz xs) => some (.fz (.sq sz xs))
    | some (.bx (.t x)) => some (.fb x)
    | o => o) else H[i]?) := by
  have one : ∀ (H : List Blk) (j i : Nat), (freezeOne H j)[i]? = if i = j then (match H[i]? with
    | some (.by k) => some (.fz (.by k))
    | some (.sq sz xs) => some (.fz (.sq sz xs))
    | some (.bx (.t x)) => some (.fb x)
    | o => o) else H[i]? := by
    intro H j i
    unfold freezeOne
    by_cases e : i = j
    · subst e
      rw [if_pos rfl]
      split
      · rename_i l hl; rw [hl]; simp [(List.getElem?_eq_some_iff.1 hl).1]
      · rename_i sz xs hl; rw [hl]; simp [(List.getElem?_eq_some_iff.1 hl).1]
      · rename_i x hl; rw [hl]; simp [(List.getElem?_eq_some_iff.1 hl).1]
      · rename_i h1 h2 h3
        cases hi : H[i]? with
        | none => rfl
        | some B =>
          cases B with
          | bx v => cases v <;> first | rfl | exact (h3 _ hi).elim
          | _ => first | rfl | exact (h1 _ hi).elim | exact (h2 _ _ hi).elim
    · rw [if_neg e]
      split
      · rw [List.getElem?_set_ne (fun h => e h.symm)]
      · rw [List.getElem?_set_ne (fun h => e h.symm)]
      · rw [List.getElem?_set_ne (fun h => e h.symm)]
      · rfl
  induction l generalizing H with
  | nil => simp [freezeOnes]
  | cons j r ih =>
    simp only [freezeOnes, ih, one, List.mem_cons]
    by_cases e : i = j
    · subst e
      simp only [if_true, true_or]
      split
      · cases hi : H[i]? with
        | none => rfl
        | some B =>
          cases B with
          | bx v => cases v <;> rfl
          | _ => rfl
      · rfl
    · simp [e]

mutual
theorem expV_ok {c : Ctx} {m m' : Mem} {w : World} {H : List Blk} (h : Inv c m' w (freezeOnes H (List.range H.length))) (hm : Ext m m') (hn : m.n = H.length) : ∀ (r y : AV) (u : Value), RelA m r u → expV H r = some y → ∀ m2 : Mem, m2.M = m'.M → RelA m2 y u
  | .t x, y, u, hr, he, m2, hM => by
    simp only [expV] at he; cases he
    exact .t (by rw [hM]; exact hr.t_inv.mono hm.M)
  | .own i, y, u, hr, he, m2, hM => by
    simp only [expV] at he
    obtain ⟨rfl, hin⟩ := hr.own_inv
    have hη := hm.η i hin
    have hmem : i ∈ List.range H.length := by rw [List.mem_range]; omega
    have key : ∀ x, (freezeOnes H (List.range H.length))[i]? = some (.fz x) → RelT m2.M x (m.η i) := fun x hx => by
      rw [hM, ← hη]; exact (h.ok _ _ hx).1
    split at he
    · rename_i l hl; cases he; exact .t (key _ (by rw [freezeOnes_get, if_pos hmem, hl]))
    · rename_i sz xs hl; cases he; exact .t (key _ (by rw [freezeOnes_get, if_pos hmem, hl]))
    · rename_i x hl; cases he; exact .t (key _ (by rw [freezeOnes_get, if_pos hmem, hl]))
    · cases he
  | .tup xs, y, u, hr, he, m2, hM => by
    simp only [expV] at he
    split at he
    · rename_i ys hys
      cases he
      generalize hs : AV.tup xs = v at hr
      cases hr <;> cases hs
      rename_i vs ha hr
      obtain ⟨h1, h2⟩ := expL_ok h hm hn xs ys hys
      refine .tup (by rw [ha, h1]) fun i c hi => ?_
      obtain ⟨x, hx, hxx⟩ := h2 i c hi
      exact hxx _ (hr i x hx) m2 hM
    · cases he
  | .any, y, u, hr, he, m2, hM => by simp [expV] at he
  | .und, y, u, hr, he, m2, hM => by simp [expV] at he
  | .sub _ _ _ _ _ _, y, u, hr, he, m2, hM => by simp [expV] at he
  | .ptr _ _ _, y, u, hr, he, m2, hM => by simp [expV] at he
  | .ip _, y, u, hr, he, m2, hM => by simp [expV] at he
  | .ex _, y, u, hr, he, m2, hM => by simp [expV] at he
  | .st _, y, u, hr, he, m2, hM => by simp [expV] at he
  | .clo _ _, y, u, hr, he, m2, hM => by simp [expV] at he
theorem expL_ok {c : Ctx} {m m' : Mem} {w : World} {H : List Blk} (h : Inv c m' w (freezeOnes H (List.range H.length))) (hm : Ext m m') (hn : m.n = H.length) : ∀ (xs ys : List AV), expL H xs = some ys →
    ys.length = xs.length ∧ ∀ (i : Nat) (y : AV), ys[i]? = some y → ∃ x, xs[i]? = some x ∧ ∀ u, RelA m x u → ∀ m2 : Mem, m2.M = m'.M → RelA m2 y u
  | [], ys, he => by simp only [expL] at he; cases he; simp
  | x :: xs, ys, he => by
    simp only [expL] at he
    split at he
    · rename_i y hy
      split at he
      · rename_i ys' hys
        cases he
        obtain ⟨h1, h2⟩ := expL_ok h hm hn xs ys' hys
        refine ⟨by simp [h1], fun i z hz => ?_⟩
        cases i with
        | zero => simp at hz; subst hz; exact ⟨x, rfl, fun u hu m2 hM => expV_ok h hm hn x y u hu hy m2 hM⟩
        | succ i => simpa using h2 i z (by simpa using hz)
      · cases he
    · cases he
end

/-- Behind a call whose results are read only: the caller's blocks as they were. -/
theorem Inv.callQ {c : Ctx} {m m1 : Mem} {w w1 : World} {H H1 : List Blk} {Mc M : Nat → Option Obj} (h : Inv c m w H) (h1 : Inv (ctx0 w Mc) m1 w1 H1)
    (hM : (M = m1.M ∧ Mc = m.M) ∨ M = m.M) : Inv c (m.more M) w1 H ∧ MLe m.M M := by
  have hat : ∀ k B b, H[k]? = some B → B.live = true → blk (m.η k) = some b → m.M b = none ∧ b < w.heap.size := fun k B b hk hl hb => (h.ok k B hk).at hl hb
  have hold : ∀ b, b < w.heap.size → w1.heap[b]? = w.heap[b]? := fun b hb => h1.frame b hb (fun h => h)
  have hMle : MLe m.M M := by
    rcases hM with ⟨rfl, rfl⟩ | rfl
    · exact h1.le
    · exact .refl _
  have hext : Ext m (m.more M) := ⟨hMle, Nat.le_refl _, fun _ _ => rfl⟩
  have hnone : ∀ k B b, H[k]? = some B → B.live = true → blk (m.η k) = some b → M b = none := by
    intro k B b hk hl hb
    obtain ⟨g1, g2⟩ := hat k B b hk hl hb
    rcases hM with ⟨rfl, rfl⟩ | rfl
    · cases e : m1.M b with
      | none => rfl
      | some o =>
        rcases h1.new b o e with h5 | ⟨h5 | h5, hp⟩
        · have h5' : m.M b = some o := h5
          rw [g1] at h5'; cases h5'
        · have : w.heap.size ≤ b := h5
          omega
        · exact h5.elim
    · exact g1
  refine ⟨⟨h.len, ?_, h.le.trans hMle, ?_, ?_, h.own, h.disj, h1.os.trans h.os, h1.tape.trans h.tape, h1.output.trans h.output, Nat.le_trans h.size h1.size, ?_, h.keep⟩, hMle⟩
  · intro b o hb
    rcases hM with ⟨rfl, rfl⟩ | rfl
    · exact h1.imm b o hb
    · have := h.imm b o hb
      rw [hold b (lt_of_heap this)]; exact this
  · intro b o hb
    rcases hM with ⟨rfl, rfl⟩ | rfl
    · rcases h1.new b o hb with h5 | ⟨h5 | h5, hp⟩
      · exact h.new b o h5
      · exact .inr ⟨.inl (Nat.le_trans h.size h5), hp⟩
      · exact h5.elim
    · exact h.new b o hb
  · intro k B hk
    exact (h.ok k B hk).move hext (fun b hl hb => hnone k B b hk hl hb) (fun b hl hb => hold b (hat k B b hk hl hb).2)
  · intro b hb hO
    rw [hold b (Nat.lt_of_lt_of_le hb h.size)]
    exact h.frame b hb hO

theorem plain_ok {m m2 : Mem} {v : AV} {u : Value} (h : RelA m v u) (hp : plainR v = true) : RelA m2 v u := by
  have one : ∀ (v : AV) (u : Value), RelA m v u → v.plain = true → RelA m2 v u := by
    intro v u h hp
    cases v with
    | t x => exact .t (h.t_inv.clean hp)
    | _ => simp [AV.plain] at hp
  cases v with
  | tup xs =>
    simp only [plainR, List.all_eq_true] at hp
    generalize hs : AV.tup xs = v at h
    cases h <;> cases hs
    rename_i vs ha hr
    exact .tup ha fun i c hi => one _ _ (hr i c hi) (hp c (List.mem_of_getElem? hi))
  | _ => exact one _ _ h hp

theorem callQ_ok {P : Program} {f : FuncId} {F : Fun} (hcon : ACon P f F) {c : Ctx} {m : Mem} {w : World} {H : List Blk} (h : Inv c m w H) {args : List AV} {us : List Value} (hl : us.length = args.length)
    (hr : ∀ (i : Nat) (x : AV), args[i]? = some x → ∃ u, us[i]? = some u ∧ RelA m x u) {v : AV} (hv : callQ F H args = some v) :
    Calls P f us.toArray w (fun e w' => ∃ m' u, e = .returned u ∧ Ext m m' ∧ Inv c m' w' H ∧ RelA m' v u) := by
  unfold callQ at hv
  split at hv
  · rename_i ts hts
    split at hv
    · rename_i H1 r hF
      obtain ⟨g1, g2⟩ := immArgs_ok h args us ts hl hr hts
      refine (hcon.2 ts H1 r hF m.M w us h.snap g1 g2).mono fun e w' ⟨m1, u, he, h1, hu⟩ => ?_
      obtain ⟨m2, e2, h2⟩ := freezeRange_ok h1
      obtain ⟨h3, h4⟩ := h.callQ h2 (.inl ⟨rfl, rfl⟩)
      exact ⟨m.more m2.M, u, he, ⟨h4, Nat.le_refl _, fun _ _ => rfl⟩, h3, expV_ok h2 e2 h1.len r v u hu hv _ rfl⟩
    · cases hv
  · split at hv
    · rename_i ts hts
      split at hv
      · rename_i H1 r hF
        split at hv
        · rename_i hp
          cases hv
          obtain ⟨g1, g2⟩ := snapArgs_ok h args us ts hl hr hts
          refine (hcon.2 ts H1 _ hF (snap w) w us (.refl _) g1 g2).mono fun e w' ⟨m1, u, he, h1, hu⟩ => ?_
          obtain ⟨h3, h4⟩ := h.callQ (M := m.M) h1 (.inr rfl)
          exact ⟨m.more m.M, u, he, ⟨h4, Nat.le_refl _, fun _ _ => rfl⟩, h3, plain_ok hu hp⟩
        · cases hv
      · cases hv
    · cases hv

def qstep (E : Env) (cl : Calls?) (s : Slots) (H : List Blk) (op : Op) : Option AV :=
  match op with
  | .call ⟨.value (.func f), args, tys⟩ => match lkF f cl with
    | some F => callQ F H (tydL E tys.toList (args.toList.map (ev s)))
    | none => none
  | op => aStill E H s op

theorem qstep_congr {E : Env} {cl : Calls?} {H : List Blk} {s s' : Slots} {op : Op} (h : ∀ x ∈ op.operands, ev s x = ev s' x) : qstep E cl s H op = qstep E cl s' H op := by
  unfold qstep
  split
  · rename_i f args tys
    have hargs : args.toList.map (ev s) = args.toList.map (ev s') := List.map_congr_left fun x hx => h x (by
      simp only [Op.operands, Call.operands, Array.mem_append]
      exact .inr (Array.mem_toList_iff.1 hx))
    rw [hargs]
  · exact aStill_congr h

theorem qstep_ok {P : Program} {E : Env} (hE : EnvOk P E) {cl : Calls?} (hcl : ClOk P cl) {c : Ctx} {m : Mem} {w : World} {a : Act} {H : List Blk} (h : Inv c m w H) {s : Slots} (hs : ∀ x, RelA m (ev s x) (a.eval x)) {o : Oper} {v : AV}
    (hv : qstep E cl s H o.op = some v) (K : Act → World → Prop) (Q : Exit → Act → World → Prop)
    (hK : ∀ m' w' u, Ext m m' → Inv c m' w' H → RelA m' v u → K (a.put o.dst u) w') : o.wp P a w K Q := by
  unfold qstep at hv
  split at hv
  · rename_i f args tys hop
    split at hv
    · rename_i F hF
      have hcon := hcl f F hF
      have hargs : ∀ (i : Nat) (x : AV), (tydL E tys.toList (args.toList.map (ev s)))[i]? = some x → ∃ u, (args.toList.map a.eval)[i]? = some u ∧ RelA m x u := by
        have gen : ∀ (ts : List TypeId) (xs : List Operand) (i : Nat) (x : AV), (tydL E ts (xs.map (ev s)))[i]? = some x → ∃ u, (xs.map a.eval)[i]? = some u ∧ RelA m x u := by
          intro ts xs
          induction xs generalizing ts with
          | nil => intro i x hi; cases ts <;> simp [tydL] at hi
          | cons y ys ih =>
            intro i x hi
            cases ts with
            | nil =>
              simp only [tydL, List.map_cons] at hi
              cases i with
              | zero => simp at hi; subst hi; exact ⟨_, rfl, hs y⟩
              | succ i => exact ih [] i x (by simpa [tydL] using hi)
            | cons t ts =>
              simp only [tydL, List.map_cons] at hi
              cases i with
              | zero => simp at hi; subst hi; exact ⟨_, rfl, tyd_ok (hs y)⟩
              | succ i => exact ih ts i x (by simpa using hi)
        exact gen _ _
      have hlen : (args.toList.map a.eval).length = (tydL E tys.toList (args.toList.map (ev s))).length := by
        have gen : ∀ (ts : List TypeId) (vs : List AV), (tydL E ts vs).length = vs.length := by
          intro ts vs
          induction vs generalizing ts with
          | nil => cases ts <;> rfl
          | cons v vs ih => cases ts <;> simp [tydL, ih]
        rw [gen]; simp
      have hc := callQ_ok hcon h hlen hargs hv
      obtain ⟨⟨fn, hfn, hname, hbody⟩⟩ := hcon.1
      have hrun : (execOp a.eval o).run P w = .ok (.enter f (args.toList.map a.eval).toArray) w := by
        have e1 : (args.toList.map a.eval).toArray = args.map a.eval := by apply Array.ext'; simp
        have e2 := run_enter hfn hname hbody (#[] ++ args.map a.eval ++ #[]) w
        have e3 : (#[] ++ args.map a.eval ++ #[] : Array Value) = args.map a.eval := by simp
        rw [e3] at e2
        rw [e1]
        simp [execOp, hop, resolve, Act.eval, Deferred.ofValue, invoke]
        exact e2
      unfold Oper.wp
      rw [hrun]
      refine hc.mono fun e w' ⟨m', u, he, e1, h1, hu⟩ => ?_
      subst he
      exact hK m' w' u e1 h1 hu
    · cases hv
  · obtain ⟨u, r1, run⟩ := aStill_ok (P := P) hE h hs hv
    unfold Oper.wp
    rw [run]
    exact hK m w u (.refl m) h r1

end Go.Fw

end
