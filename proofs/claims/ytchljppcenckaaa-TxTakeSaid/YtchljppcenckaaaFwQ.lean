/- The abstract machine, and the contracts of the code: part 19. -/
import Derived.Test.YtchljppcenckaaaFwP

section
/- A region whose order is drawn: whatever the order, the slots are those of the order of the text. -/
namespace Go.Fw
set_option linter.unusedVariables false
set_option linter.unusedSimpArgs false
open Go

section
variable {kp : Nat}

def qone (E : Env) (cl : Calls?) (ops : List Oper) (H : List Blk) (s : Slots) (o : Oper) : Option AV :=
  match wantA ops s o with
  | some true => qstep E cl s H o.op
  | some false => some .und
  | none => none

/-- In the order of the text: the slots behind it. -/
def qrun (E : Env) (cl : Calls?) (N : Nat) (ops : List Oper) (H : List Blk) : List Oper → Slots → Option Slots
  | [], s => some s
  | o :: l, s => match qone E cl ops H s o with
    | some v => match o.dst with
      | some d => if d < N then qrun E cl N ops H l ((d, v) :: s) else none
      | none => none
    | none => none

def aft (o : Oper) : List Nat := (o.after.toList.filter fun e => Region.binds .any e).map (·.on)

/-- Each slot that an operation looks at is written ahead of it and bound so, or behind it and bound so, or not at all; no slot is written twice; an operation is bound to earlier ones alone. -/
def depOk (ops : List Oper) : Bool :=
  (List.range ops.length).all fun j => match ops[j]? with
    | none => true
    | some o => (aft o).all (fun i => decide (i < j)) &&
      (List.range ops.length).all fun i => match ops[i]? with
        | none => true
        | some p => (decide (i = j) || decide (p.dst ≠ o.dst)) &&
          (match p.dst with
            | none => true
            | some d => !((o.looksAt ops.toArray).contains d) || (decide (i < j) && (aft o).contains i) || (decide (j < i) && (aft p).contains j))

structure DepOk (ops : List Oper) : Prop where
  back : ∀ (j : Nat) (o : Oper) (i : Nat), ops[j]? = some o → i ∈ aft o → i < j
  once : ∀ (i j : Nat) (p o : Oper) (d : Nat), ops[i]? = some p → ops[j]? = some o → p.dst = some d → o.dst = some d → i = j
  look : ∀ (i j : Nat) (p o : Oper) (d : Nat), ops[i]? = some p → ops[j]? = some o → p.dst = some d → d ∈ o.looksAt ops.toArray → (i < j ∧ i ∈ aft o) ∨ (j < i ∧ j ∈ aft p)

theorem depOk_ok {ops : List Oper} (h : depOk ops = true) : DepOk ops := by
  simp only [depOk, List.all_eq_true, List.mem_range] at h
  have get : ∀ (j : Nat) (o : Oper), ops[j]? = some o → j < ops.length := fun j o hj => (List.getElem?_eq_some_iff.1 hj).1
  refine ⟨fun j o i hj hi => ?_, fun i j p o d hi hj hp ho => ?_, fun i j p o d hi hj hp hd => ?_⟩
  · have := h j (get j o hj)
    rw [hj] at this
    simp only [Bool.and_eq_true, List.all_eq_true] at this
    simpa using this.1 i hi
  · have := h j (get j o hj)
    rw [hj] at this
    simp only [Bool.and_eq_true, List.all_eq_true, List.mem_range] at this
    have := this.2 i (get i p hi)
    rw [hi] at this
    simp only [Bool.and_eq_true, Bool.or_eq_true, decide_eq_true_eq] at this
    exact this.1.resolve_right (fun hne => hne (by rw [hp, ho]))
  · have := h j (get j o hj)
    rw [hj] at this
    simp only [Bool.and_eq_true, List.all_eq_true, List.mem_range] at this
    have := this.2 i (get i p hi)
    rw [hi] at this
    simp only [Bool.and_eq_true, hp] at this
    have h2 := this.2
    have hc : (o.looksAt ops.toArray).contains d = true := by simpa using hd
    rw [hc] at h2
    simp at h2
    rcases h2 with h2 | h2
    · exact .inl h2
    · exact .inr h2

/-- The slots ahead of each operation in the order of the text, and its value. -/
structure Texts (E : Env) (cl : Calls?) (N : Nat) (ops : List Oper) (H : List Blk) (s0 sN : Slots) where
  pre : Nat → Slots
  val : Nat → AV
  zero : pre 0 = s0
  last : pre ops.length = sN
  step : ∀ (j : Nat) (o : Oper), ops[j]? = some o → qone E cl ops H (pre j) o = some (val j) ∧ ∃ d, o.dst = some d ∧ d < N ∧ pre (j + 1) = (d, val j) :: pre j

theorem texts_of {E : Env} {cl : Calls?} {N : Nat} {ops : List Oper} {H : List Blk} {s0 sN : Slots} (h : qrun E cl N ops H ops s0 = some sN) : Nonempty (Texts E cl N ops H s0 sN) := by
  have key : ∀ (l : List Oper) (k : Nat) (s : Slots), (∀ j, l[j]? = ops[k + j]?) → k + l.length = ops.length → qrun E cl N ops H l s = some sN →
      ∃ (pre : Nat → Slots) (val : Nat → AV), pre k = s ∧ pre ops.length = sN ∧ ∀ (j : Nat) (o : Oper), k ≤ j → ops[j]? = some o → qone E cl ops H (pre j) o = some (val j) ∧ ∃ d, o.dst = some d ∧ d < N ∧ pre (j + 1) = (d, val j) :: pre j := by
    intro l
    induction l with
    | nil =>
      intro k s _ hk hq
      simp only [qrun, Option.some.injEq] at hq
      refine ⟨fun _ => s, fun _ => .any, rfl, hq, fun j o hj ho => ?_⟩
      have := (List.getElem?_eq_some_iff.1 ho).1
      simp at hk; omega
    | cons o l ih =>
      intro k s hl hk hq
      simp only [qrun] at hq
      split at hq
      · rename_i v hv
        split at hq
        · rename_i d hd
          split at hq
          · rename_i hdN
            obtain ⟨pre, val, h1, h2, h3⟩ := ih (k + 1) _ (fun j => by have := hl (j + 1); simpa [Nat.add_assoc, Nat.add_comm 1 j] using this) (by simp at hk; omega) hq
            refine ⟨fun j => if j = k then s else pre j, fun j => if j = k then v else val j, by simp, ?_, fun j o' hj ho' => ?_⟩
            · have : ops.length ≠ k := by simp at hk; omega
              simp only [if_neg this]; exact h2
            · by_cases e : j = k
              · subst e
                have h0 : ops[j]? = some o := by have := hl 0; simpa using this.symm
                rw [ho'] at h0; cases h0
                simp only [if_true]
                refine ⟨hv, d, hd, hdN, ?_⟩
                rw [if_neg (by omega)]; exact h1
              · simp only [if_neg e, if_neg (show j + 1 ≠ k by omega)]
                exact h3 j o' (by omega) ho'
          · cases hq
        · cases hq
      · cases hq
  obtain ⟨pre, val, h1, h2, h3⟩ := key ops 0 s0 (by simp) (by simp) h
  exact ⟨⟨pre, val, h1, h2, fun j o ho => h3 j o (Nat.zero_le _) ho⟩⟩

/-- What is looked up in the slots ahead of an operation: an earlier operation's value, or what was there. -/
theorem Texts.lk_pre {E : Env} {cl : Calls?} {N : Nat} {ops : List Oper} {H : List Blk} {s0 sN : Slots} (T : Texts E cl N ops H s0 sN) (hd : DepOk ops) (t : Nat) : ∀ (j : Nat), j ≤ ops.length →
    (∃ i o, i < j ∧ ops[i]? = some o ∧ o.dst = some t ∧ lk t (T.pre j) = T.val i) ∨ ((∀ i o, i < j → ops[i]? = some o → o.dst ≠ some t) ∧ lk t (T.pre j) = lk t s0) := by
  intro j
  induction j with
  | zero => intro _; exact .inr ⟨fun i o h => by omega, by rw [T.zero]⟩
  | succ j ih =>
    intro hj
    have ho : ops[j]? = some (ops[j]'(by omega)) := List.getElem?_eq_getElem _
    obtain ⟨_, d, hdst, hdN, hpre⟩ := T.step j _ ho
    rw [hpre]
    simp only [lk]
    by_cases e : t = d
    · subst e
      rw [if_pos rfl]
      exact .inl ⟨j, _, by omega, ho, hdst, rfl⟩
    · rw [if_neg e]
      rcases ih (by omega) with ⟨i, o, h1, h2, h3, h4⟩ | ⟨h1, h2⟩
      · exact .inl ⟨i, o, by omega, h2, h3, h4⟩
      · refine .inr ⟨fun i o hi hio => ?_, h2⟩
        rcases Nat.lt_or_ge i j with hlt | hge
        · exact h1 i o hlt hio
        · have : i = j := by omega
          subst this
          rw [hio] at ho; cases ho
          intro h; rw [hdst] at h; cases h; exact e rfl

def countF (l : Array Bool) : Nat := l.toList.count false

theorem wantA_congr {ops : List Oper} {s s' : Slots} {o : Oper} (h : ∀ t ∈ o.looksAt ops.toArray, lk t s = lk t s') : wantA ops s o = wantA ops s' o := by
  unfold wantA
  cases hg : o.guard with
  | none => rfl
  | some g =>
    obtain ⟨j, want⟩ := g
    simp only
    cases hj : ops[j]? with
    | none => rfl
    | some oj =>
      simp only
      cases hd : oj.dst with
      | none => rfl
      | some d =>
        simp only
        have hj' : ops.toArray[j]? = some oj := by simpa using hj
        rw [h d (by unfold Oper.looksAt; rw [hg]; simp [hj, hd])]

theorem lk_prune {keep : List Nat} {s : Slots} {i : Nat} (h : i ∈ keep) : lk i (prune keep s) = lk i s := by
  induction keep with
  | nil => cases h
  | cons k r ih =>
    simp only [prune, List.map_cons, lk]
    split
    · rename_i e; subst e; rfl
    · rename_i e
      exact ih ((List.mem_cons.1 h).resolve_left e)

theorem lk_prune_or (keep : List Nat) (s : Slots) (i : Nat) : (i ∈ keep ∧ lk i (prune keep s) = lk i s) ∨ lk i (prune keep s) = .any := by
  by_cases h : i ∈ keep
  · exact .inl ⟨h, lk_prune h⟩
  · right
    induction keep with
    | nil => rfl
    | cons k r ih =>
      simp only [prune, List.map_cons, lk]
      rw [if_neg (fun e => h (by simp [e]))]
      exact ih (fun hr => h (by simp [hr]))

/-- Any order of the region. -/
theorem any_order {P : Program} {E : Env} (hE : EnvOk P E) {cl : Calls?} (hcl : ClOk P cl) {c : Ctx} {N : Nat} {ops : List Oper} {H : List Blk} {s0 sN : Slots} (T : Texts E cl N ops H s0 sN) (hd : DepOk ops) {Q : Exit → Act → World → Prop}
    (hQ : ∀ m w a, Inv c m w H → RelS m N a sN → Q .normal a w) : ∀ (fuel : Nat) (listed : Array Bool) (a : Act) (w : World) (m : Mem), listed.size = ops.length → countF listed = fuel →
    (∀ (j : Nat) (o : Oper), ops[j]? = some o → listed.getD j false = true → ∀ i ∈ aft o, listed.getD i false = true) → Inv c m w H → a.defers = [] → a.tmps.size = N →
    (∀ (i : Nat) (o : Oper) (d : Nat), ops[i]? = some o → listed.getD i false = true → o.dst = some d → RelA m (T.val i) (a.tmps.getD d undef)) →
    (∀ t, (∀ (i : Nat) (o : Oper), ops[i]? = some o → listed.getD i false = true → o.dst ≠ some t) → RelA m (lk t s0) (a.tmps.getD t undef)) →
    wpAny P .any ops.toArray Q fuel listed a w := by
  -- all done: the slots of the text
  have fin : ∀ (listed : Array Bool) (a : Act) (w : World) (m : Mem), (∀ (i : Nat) (o : Oper), ops[i]? = some o → listed.getD i false = true) → Inv c m w H → a.defers = [] → a.tmps.size = N →
      (∀ (i : Nat) (o : Oper) (d : Nat), ops[i]? = some o → listed.getD i false = true → o.dst = some d → RelA m (T.val i) (a.tmps.getD d undef)) →
      (∀ t, (∀ (i : Nat) (o : Oper), ops[i]? = some o → listed.getD i false = true → o.dst ≠ some t) → RelA m (lk t s0) (a.tmps.getD t undef)) → Q .normal a w := by
    intro listed a w m hall hi h1 h2 h3 h4
    refine hQ m w a hi ⟨h1, h2, fun t => ?_⟩
    rw [← T.last]
    rcases T.lk_pre hd t ops.length (Nat.le_refl _) with ⟨i, o, _, hio, hdst, he⟩ | ⟨hno, he⟩
    · rw [he]; exact h3 i o t hio (hall i o hio) hdst
    · rw [he]
      exact h4 t fun i o hio _ => hno i o (List.getElem?_eq_some_iff.1 hio).1 hio
  intro fuel
  induction fuel with
  | zero =>
    intro listed a w m hsz hcnt hdeps hi h1 h2 h3 h4
    have hall : ∀ (i : Nat) (o : Oper), ops[i]? = some o → listed.getD i false = true := by
      intro i o hio
      have hlt := (List.getElem?_eq_some_iff.1 hio).1
      have hlt' : i < listed.size := by omega
      cases e : listed.getD i false with
      | true => rfl
      | false =>
        have : false ∈ listed.toList := by
          rw [Array.getD_eq_getD_getElem?, Array.getElem?_eq_getElem hlt'] at e
          simp at e
          rw [← e]; exact Array.getElem_mem_toList _
        have := List.count_pos_iff.2 this
        unfold countF at hcnt; omega
    refine ⟨?_, fin listed a w m hall hi h1 h2 h3 h4⟩
    cases e : Region.ready .any ops.toArray listed with
    | nil => rfl
    | cons x xs =>
      have hx : x ∈ Region.ready .any ops.toArray listed := by rw [e]; simp
      obtain ⟨g1, o, g2, _⟩ := mem_ready.1 hx
      have := hall x o (by simpa using g2)
      rw [Array.getD_eq_getD_getElem?] at g1 this
      cases hh : listed[x]? with
      | none => rw [hh] at this; simp at this
      | some b => rw [hh] at g1 this; simp at g1 this; rw [g1] at this; cases this
  | succ fuel ih =>
    intro listed a w m hsz hcnt hdeps hi h1 h2 h3 h4
    refine ⟨fun hready => ?_, fun j hj => ?_⟩
    · -- nothing is ready: all is done
      refine fin listed a w m ?_ hi h1 h2 h3 h4
      intro i
      induction i using Nat.strongRecOn with
      | _ i ihi =>
        intro o hio
        cases e : listed.getD i false with
        | true => rfl
        | false =>
          exfalso
          have hlt := (List.getElem?_eq_some_iff.1 hio).1
          have : i ∈ Region.ready .any ops.toArray listed := by
            refine mem_ready.2 ⟨?_, o, by simpa using hio, fun e' he' hb => ?_⟩
            · rw [Array.getD_eq_getD_getElem?] at e ⊢
              rw [Array.getElem?_eq_getElem (by omega)] at e ⊢
              simpa using e
            · have hmem : e'.on ∈ aft o := by
                simp only [aft, List.mem_map, List.mem_filter]
                exact ⟨e', ⟨Array.mem_toList_iff.2 he', hb⟩, rfl⟩
              have hback := hd.back i o _ hio hmem
              have hlt2 : e'.on < ops.length := by omega
              exact ihi _ hback _ (List.getElem?_eq_getElem hlt2)
          rw [hready] at this; cases this
    · obtain ⟨g1, o, g2, g3⟩ := mem_ready.1 hj
      have hjo : ops[j]? = some o := by simpa using g2
      have hjlt := (List.getElem?_eq_some_iff.1 hjo).1
      have hjl : listed[j]? = some false := by
        rw [Array.getD_eq_getD_getElem?, Array.getElem?_eq_getElem (by omega)] at g1
        rw [Array.getElem?_eq_getElem (by omega)]
        simpa using g1
      have hjf : listed.getD j false = false := by rw [Array.getD_eq_getD_getElem?, hjl]; rfl
      have hafter : ∀ i ∈ aft o, listed.getD i false = true := by
        intro i hi'
        simp only [aft, List.mem_map, List.mem_filter] at hi'
        obtain ⟨e', ⟨he1, he2⟩, rfl⟩ := hi'
        exact g3 e' (Array.mem_toList_iff.1 he1) he2
      obtain ⟨hone, d, hdst, hdN, hpre⟩ := T.step j o hjo
      -- what the operation looks at
      have hlook : ∀ t ∈ o.looksAt ops.toArray, RelA m (lk t (T.pre j)) (a.tmps.getD t undef) := by
        intro t ht
        rcases T.lk_pre hd t j (by omega) with ⟨i, p, hij, hip, hpd, he⟩ | ⟨hno, he⟩
        · rw [he]
          have hlisted : listed.getD i false = true := by
            rcases hd.look i j p o t hip hjo hpd ht with ⟨_, h5⟩ | ⟨h5, _⟩
            · exact hafter i h5
            · omega
          exact h3 i p t hip hlisted hpd
        · rw [he]
          refine h4 t fun i p hip hli hpd => ?_
          rcases hd.look i j p o t hip hjo hpd ht with ⟨h5, _⟩ | ⟨h5, h6⟩
          · exact hno i p h5 hip hpd
          · have := hdeps i p hip hli j h6
            rw [hjf] at this; cases this
      let sl : Slots := prune (o.looksAt ops.toArray) (T.pre j)
      have hsl : ∀ x, RelA m (ev sl x) (a.eval x) := by
        intro x
        cases x with
        | tmp t =>
          simp only [ev]
          rcases lk_prune_or (o.looksAt ops.toArray) (T.pre j) t with ⟨hm, he⟩ | he
          · simp only [sl, he]; exact hlook t hm
          · simp only [sl, he]; exact .any
        | const v => exact konst_ok m v
        | global g => exact .any
        | func f => exact .t .fn
      have hws : wantA ops sl o = wantA ops (T.pre j) o := wantA_congr fun t ht => lk_prune ht
      have hqs : qstep E cl sl H o.op = qstep E cl (T.pre j) H o.op := qstep_congr fun x hx => by
        cases x with
        | tmp t =>
          simp only [ev]
          exact lk_prune (by
            unfold Oper.looksAt
            rw [List.mem_append]; left
            rw [List.mem_filterMap]
            exact ⟨.tmp t, Array.mem_toList_iff.2 hx, rfl⟩)
        | _ => rfl
      have hrelS : RelS m N a sl := ⟨h1, h2, fun t => hsl (.tmp t)⟩
      -- behind the operation
      have next : ∀ (m' : Mem) (w' : World) (u : Value), Ext m m' → Inv c m' w' H → RelA m' (T.val j) u → wpAny P .any ops.toArray Q fuel (listed.setIfInBounds j true) (a.put o.dst u) w' := by
        intro m' w' u e1 i1 r1
        have hset : ∀ i, (listed.setIfInBounds j true).getD i false = true ↔ (i = j ∨ listed.getD i false = true) := by
          intro i
          by_cases e : i = j
          · subst e
            simp only [true_or, iff_true]
            rw [Array.getD_eq_getD_getElem?, Array.getElem?_setIfInBounds_self_of_lt (by omega)]
            rfl
          · rw [getD_set_ne false (fun h => e h.symm)]
            simp [e]
        have hput : ∀ t, (a.put o.dst u).tmps.getD t undef = if t = d then u else a.tmps.getD t undef := by
          intro t
          rw [hdst]
          simp only [Act.put]
          by_cases e : t = d
          · subst e; rw [if_pos rfl]; simp [h2, hdN]
          · rw [if_neg e, Array.getD_eq_getD_getElem?, Array.getElem?_setIfInBounds_ne (fun h => e h.symm), Array.getD_eq_getD_getElem?]
        refine ih _ _ w' m' (by simpa using hsz) ?_ ?_ i1 ?_ ?_ ?_ ?_
        · have : (listed.setIfInBounds j true).toList = listed.toList.set j true := by simp
          unfold countF at hcnt ⊢
          rw [this, List.count_set (by simp; omega)]
          have hge : listed.toList[j]'(by simp; omega) = false := by
            have := hjl
            rw [Array.getElem?_eq_getElem (by omega)] at this
            simpa using this
          rw [hge]
          have e1 : (false == false) = true := rfl
          have e2 : (true == false) = false := rfl
          rw [e1, e2]
          simp only [if_true, Bool.false_eq_true, if_false]
          omega
        · intro i p hip hli k hk
          rw [hset] at hli ⊢
          right
          rcases hli with rfl | hli
          · rw [hjo] at hip; cases hip; exact hafter k hk
          · exact hdeps i p hip hli k hk
        · rw [hdst]; exact h1
        · rw [hdst]; simp [Act.put, h2]
        · intro i p d' hip hli hpd
          rw [hset] at hli
          rw [hput]
          by_cases e : i = j
          · subst e
            rw [hjo] at hip; cases hip
            rw [hdst] at hpd; cases hpd
            rw [if_pos rfl]; exact r1
          · rw [if_neg (fun he => e (hd.once i j p o d hip hjo (by rw [hpd, he]) hdst))]
            exact (h3 i p d' hip (hli.resolve_left e) hpd).mono e1
        · intro t ht
          rw [hput]
          rw [if_neg (fun he => ht j o hjo ((hset j).2 (.inl rfl)) (by rw [hdst, he]))]
          exact (h4 t fun i p hip hli => ht i p hip ((hset i).2 (.inr hli))).mono e1
      unfold wpOp
      have hjo' : ops.toArray[j]? = some o := by simpa using hjo
      rw [hjo']
      simp only
      unfold qone at hone
      split at hone
      · rename_i hw
        rw [← hws] at hw
        rw [if_pos (wantA_ok hrelS (by simpa using hw))]
        rw [← hqs] at hone
        exact .inl (qstep_ok hE hcl hi hsl hone _ _ next)
      · rename_i hw
        rw [← hws] at hw
        rw [if_neg (by rw [wantA_ok hrelS (by simpa using hw)]; simp)]
        have hund : T.val j = .und := (Option.some.inj hone).symm
        exact next m w undef (.refl m) hi (by rw [hund]; exact .und)
      · cases hone

theorem Inv.drawn {c : Ctx} {m : Mem} {w : World} {H : List Blk} (h : Inv c m w H) : Inv c m { w with drawn := w.drawn + 1 } H := h.still rfl rfl rfl rfl

def qrunP (E : Env) (cl : Calls?) (N : Nat) (keep : List Nat) (ops : List Oper) (S : AS) : Option AS :=
  match qrun E cl N ops S.H ops S.s with
  | some s => some ⟨prune keep s, S.H⟩
  | none => none

theorem AWP.draw {P : Program} {E : Env} (hE : EnvOk P E) {cl : Calls?} (hcl : ClOk P cl) (keep : List Nat) (hmix : P.follows .mixedOrders = true) {N id : Nat} {l : List Oper} (hdep : depOk l = true) {Q : Exit → AS → Prop} {S S' : AS}
    (h : qrunP E cl N keep l S = some S') (hQ : Q .normal S') : AWP kp P N (.region id l.toArray true) Q S := by
  unfold qrunP at h
  split at h
  · rename_i sN hq
    cases h
    obtain ⟨T⟩ := texts_of hq
    intro c hc m w a hi hs
    refine wp_region_any hmix ?_
    have hcount : countF (Array.replicate l.toArray.size false) = l.toArray.size := by simp [countF]
    refine any_order hE hcl T (depOk_ok hdep) (fun m' w' a' h1 h2 => ⟨m', ⟨prune keep sN, S.H⟩, h1, h2.prune keep, hQ⟩) _ _ a _ m (by simp) hcount ?_ hi.drawn hs.1 hs.2.1 ?_ ?_
    · intro j o hj hl i _
      rw [Array.getD_eq_getD_getElem?] at hl
      have : (Array.replicate l.toArray.size false)[j]? = some false := by
        rw [Array.getElem?_replicate, if_pos (by simpa using (List.getElem?_eq_some_iff.1 hj).1)]
      rw [this] at hl; simp at hl
    · intro i o d hj hl _
      rw [Array.getD_eq_getD_getElem?] at hl
      have : (Array.replicate l.toArray.size false)[i]? = some false := by
        rw [Array.getElem?_replicate, if_pos (by simpa using (List.getElem?_eq_some_iff.1 hj).1)]
      rw [this] at hl; simp at hl
    · intro t _; exact hs.2.2 t
  · cases h

theorem AWP.seqD {P : Program} {E : Env} (hE : EnvOk P E) {cl : Calls?} (hcl : ClOk P cl) (keep : List Nat) (hmix : P.follows .mixedOrders = true) {N id : Nat} {l : List Oper} (hdep : depOk l = true) {y : Code} {Q : Exit → AS → Prop} {S S' : AS}
    (h : qrunP E cl N keep l S = some S') (hQ : AWP kp P N y Q S') : AWP kp P N (.seq (.region id l.toArray true) y) Q S :=
  AWP.seq (AWP.draw hE hcl keep hmix hdep h hQ)

end

end Go.Fw

end
