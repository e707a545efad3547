/- The abstract machine, and the contracts of the code: part 51. -/
import Derived.RangeFuncOwn
import Derived.TacticsIn
import Derived.Test.YthhpapbokodpdaaP50

section
/- A range over a function: regions within a round, and behind one. -/
namespace Go.Fw
set_option linter.unusedVariables false
set_option linter.unusedSimpArgs false
open Go Go.RowKit

/-- No fence but for the kind of the frame. -/
abbrev wideAt (ρ : Option Nat) : Fence := { Fence.wide with round := ρ }
/-- An activation with deferred calls more. -/
def Act.more (a : Act) (D : List Deferred) : Act := { a with defers := a.defers ++ D }
theorem more_nil (a : Act) : Act.more a [] = a := by cases a; simp [Act.more]
theorem more_put (a : Act) (D : List Deferred) (d : Option Tmp) (v : Value) : (Act.more a D).put d v = Act.more (a.put d v) D := by cases d <;> rfl
theorem more_eval (a : Act) (D : List Deferred) : (Act.more a D).eval = a.eval := by funext x; cases x <;> rfl

theorem callsIn_at {ρ : Option Nat} {n : Nat} {P : Program} {f : FuncId} {args : Array Value} {w : World} {R : Ending → World → Prop} (h : Calls P f args w R) : CallsIn (wideAt ρ) n P f args w R :=
  show CallsIn Fence.wide n P f args w R from callsIn_wide.2 h
theorem rowsIn_at {ρ : Option Nat} {n : Nat} {P : Program} {row : String} {args : Array Value} {w : World} {R : Value → World → Prop} (h : Rows P row args w R) : RowsIn (wideAt ρ) n P row args w R :=
  show RowsIn Fence.wide n P row args w R from fun c cs _ => let ⟨v, w', r, s⟩ := h c cs; ⟨v, w', r, stepsIn_wide.2 s⟩

/-- An operation that goes on in one way only, under any fence. -/
theorem upon_in {ρ : Option Nat} {n : Nat} {P : Program} {o : Oper} {a : Act} {D : List Deferred} {next next' : Act → World → Prop} {Q Q' : Exit → Act → World → Prop} {r : Result Next}
    (hn : ∀ a1 w, (∃ v, a1.tmps = (a.put o.dst v).tmps) → next a1 w → next' (Act.more a1 D) w) (hQ : ∀ e a w, e ≠ .normal → ¬ Q e a w) (h : o.upon P a next Q r) : o.uponIn (wideAt ρ) n P (Act.more a D) next' Q' r := by
  have hlo : ¬ LetsOut Q := fun ⟨a, w, h⟩ => hQ _ _ _ (by simp) h
  unfold Oper.upon at h
  unfold Oper.uponIn
  split at h
  · rename_i v w'
    show next' ((Act.more a D).put o.dst v) w'
    rw [more_put]
    exact hn _ _ ⟨v, rfl⟩ h
  · rename_i w'
    show next' ((Act.more a D).put o.dst undef) w'
    rw [more_put]
    exact hn _ _ ⟨undef, rfl⟩ h
  · rename_i d w'
    have := hn _ _ ⟨undef, by cases o.dst <;> rfl⟩ h
    show next' ({ (Act.more a D) with defers := d :: (Act.more a D).defers }.put o.dst undef) w'
    have e : ({ (Act.more a D) with defers := d :: (Act.more a D).defers } : Act) = Act.more { a with defers := d :: a.defers } D := rfl
    rw [e, more_put]
    exact this
  · rename_i f args w'
    refine ⟨fun hd => by simp [Fence.wide] at hd, callsIn_at (h.mono fun e w'' he => ?_)⟩
    cases e with
    | returned v =>
      show next' ((Act.more a D).put o.dst v) w''
      rw [more_put]
      exact hn _ _ ⟨v, rfl⟩ he
    | panicked ch => exact (hQ _ _ _ (by simp) he).elim
    | outgrown => exact (hlo he).elim
  · rename_i row args w'
    refine ⟨fun hd => by simp [Fence.wide] at hd, rowsIn_at (h.mono fun v w'' he => ?_)⟩
    show next' ((Act.more a D).put o.dst v) w''
    rw [more_put]
    exact hn _ _ ⟨v, rfl⟩ he
  · exact (hQ _ _ _ (by simp) h).elim
  · exact h.elim

def preK (ρ : Option Nat) (n : Nat) (P : Program) (ops : Array Oper) (Q : Exit → Act → World → Prop) (D : List Deferred) (rest : List Oper) (T : Nat → Prop) (t0 : Array Value) : Exit → Act → World → Prop
  | .normal, a, w => (∀ i, T i → a.tmps.getD i undef = t0.getD i undef) → wpListIn (wideAt ρ) n P ops Q rest (Act.more a D) w
  | _, _, _ => False
theorem preK_no {ρ : Option Nat} {n : Nat} {P : Program} {ops : Array Oper} {Q : Exit → Act → World → Prop} {D : List Deferred} {rest : List Oper} {T : Nat → Prop} {t0 : Array Value} (e : Exit) (a : Act) (w : World) (he : e ≠ .normal) : ¬ preK ρ n P ops Q D rest T t0 e a w := by
  cases e <;> first | exact (he rfl).elim | exact fun h => h

def noDefer (l : List Oper) : Bool := l.all fun o => match o.op with | .defer _ => false | _ => true

theorem put_tmp (a : Act) (d : Option Tmp) (v : Value) (i : Nat) (h : d ≠ some i) : (a.put d v).tmps.getD i undef = a.tmps.getD i undef := by
  cases d with
  | none => rfl
  | some k =>
    show (a.tmps.setIfInBounds k v).getD i undef = _
    have hk : k ≠ i := fun e => h (by rw [e])
    simp [Array.getD_eq_getD_getElem?, Array.getElem?_setIfInBounds_ne hk]

/-- A region's beginning, proved for any plain frame, holds under the fence, too; temporaries that it does not write stay. -/
theorem wpListIn_pre {ρ : Option Nat} {n : Nat} {P : Program} {ops : Array Oper} {Q : Exit → Act → World → Prop} {D : List Deferred} {rest : List Oper} {T : Nat → Prop} {t0 : Array Value} :
    ∀ (pre : List Oper) (a : Act) (w : World), noDefer pre = true → (∀ i, T i → ∀ o ∈ pre, o.dst ≠ some i) → (∀ i, T i → a.tmps.getD i undef = t0.getD i undef) →
      wpList P ops (preK ρ n P ops Q D rest T t0) pre a w → wpListIn (wideAt ρ) n P ops Q (pre ++ rest) (Act.more a D) w
  | [], a, w, _, _, ht, h => h ht
  | o :: pre, a, w, hd, hT, ht, h => by
    have hd2 : noDefer pre = true := by
      unfold noDefer at hd ⊢
      simp only [List.all_cons, Bool.and_eq_true] at hd
      exact hd.2
    have hdo : ∀ c, o.op ≠ .defer c := by
      intro c hc
      unfold noDefer at hd
      simp [hc] at hd
    have ht2 : ∀ a1 : Act, (∃ v, a1.tmps = (a.put o.dst v).tmps) → ∀ i, T i → a1.tmps.getD i undef = t0.getD i undef := by
      rintro a1 ⟨v, hv⟩ i hi
      rw [hv, put_tmp a o.dst v i (hT i hi o (by simp))]
      exact ht i hi
    have hnx : ∀ a1 w1, (∃ v, a1.tmps = (a.put o.dst v).tmps) → wpList P ops (preK ρ n P ops Q D rest T t0) pre a1 w1 → wpListIn (wideAt ρ) n P ops Q (pre ++ rest) (Act.more a1 D) w1 :=
      fun a1 w1 hv h1 => wpListIn_pre pre a1 w1 hd2 (fun i hi o ho => hT i hi o (by simp [ho])) (ht2 a1 hv) h1
    rw [List.cons_append]
    unfold wpListIn
    unfold wpList at h
    have hy : yielded ops (Act.more a D).tmps = yielded ops a.tmps := rfl
    rw [hy]
    by_cases hw : Region.wanted o (yielded ops a.tmps) = true
    · rw [if_pos hw] at h ⊢
      refine ⟨fun f _ => trivial, ?_⟩
      rcases h with h | ⟨_, ⟨a1, w1, h1⟩⟩
      · rw [Oper.semAt_eq _ _ _ hdo, more_eval]
        exact upon_in hnx preK_no h
      · exact h1.elim
    · rw [if_neg hw] at h ⊢
      refine ⟨fun f _ => trivial, ?_⟩
      rw [more_put]
      exact hnx _ _ ⟨undef, rfl⟩ h

/-! ### The abstract machine under the fence. -/
def AWF (ρ : Option Nat) (D : List Deferred) (kp : Nat) (P : Program) (N : Nat) (code : Code) (Q : Exit → AS → Prop) (S : AS) : Prop :=
  ∀ (n : Nat) (c : Ctx), c.k = kp → ∀ (m : Mem) (w : World) (a : Act), Inv c m w S.H → RelS m N a S.s → code.wpIn (wideAt ρ) n P (fun e a' w' => ∃ a0, a' = Act.more a0 D ∧ APost c N Q e a0 w') (Act.more a D) w

section
variable {ρ : Option Nat} {D : List Deferred} {kp : Nat} {P : Program} {N : Nat} {Q : Exit → AS → Prop} {S : AS}

def seqF (ρ : Option Nat) (D : List Deferred) (kp : Nat) (P : Program) (N : Nat) (y : Code) (Q : Exit → AS → Prop) : Exit → AS → Prop
  | .normal, S => AWF ρ D kp P N y Q S
  | e, S => Q e S
theorem AWF.seq {x y : Code} (h : AWF ρ D kp P N x (seqF ρ D kp P N y Q) S) : AWF ρ D kp P N (.seq x y) Q S := fun n c hc m w a hi hs =>
  wpIn_seq (wpIn_mono (h n c hc m w a hi hs) fun e a' w' ⟨a0, ha, m1, S1, h1, h2, h3⟩ => by
    subst ha
    cases e with
    | normal => exact h3 n c hc m1 w' a0 h1 h2
    | _ => exact ⟨a0, rfl, m1, S1, h1, h2, h3⟩)
theorem AWF.block {id : Nat} {x : Code} (h : AWF ρ D kp P N x (blockQ id Q) S) : AWF ρ D kp P N (.block id x) Q S := fun n c hc m w a hi hs =>
  wpIn_block (wpIn_mono (h n c hc m w a hi hs) fun e a' w' ⟨a0, ha, m1, S1, h1, h2, h3⟩ => by
    subst ha
    cases e with
    | exit id' =>
      simp only [Exit.inBlock, blockQ] at h3 ⊢
      split
      · rename_i e; rw [if_pos e] at h3; exact ⟨a0, rfl, m1, S1, h1, h2, h3⟩
      · rename_i e; rw [if_neg e] at h3; exact ⟨a0, rfl, m1, S1, h1, h2, h3⟩
    | _ => exact ⟨a0, rfl, m1, S1, h1, h2, h3⟩)
theorem AWF.exit {id : Nat} (h : Q (.exit id) S) : AWF ρ D kp P N (.exit id) Q S := fun n c hc m w a hi hs => wpIn_exit ⟨a, rfl, m, S, hi, hs, h⟩
theorem AWF.ret (h : Q .ret S) : AWF ρ D kp P N .ret Q S := fun n c hc m w a hi hs => wpIn_ret ⟨a, rfl, m, S, hi, hs, h⟩
theorem AWF.skip (h : Q .normal S) : AWF ρ D kp P N .skip Q S := fun n c hc m w a hi hs => wpIn_skip ⟨a, rfl, m, S, hi, hs, h⟩
theorem AWF.condT {cd : Operand} {x y : Code} {b : Bool} (hc : ev S.s cd = .t (.bool b)) (hb : b = true) (ht : AWF ρ D kp P N x Q S) : AWF ρ D kp P N (.cond cd x y) Q S := fun n c hk m w a hi hs =>
  wpIn_cond_true (by rw [more_eval]; have := hs.ev cd; rw [hc] at this; rw [← hb]; exact this.bool_inv) (ht n c hk m w a hi hs)
theorem AWF.condF {cd : Operand} {x y : Code} {b : Bool} (hc : ev S.s cd = .t (.bool b)) (hb : b = false) (ht : AWF ρ D kp P N y Q S) : AWF ρ D kp P N (.cond cd x y) Q S := fun n c hk m w a hi hs =>
  wpIn_cond_false (by rw [more_eval]; have := hs.ev cd; rw [hc] at this; rw [← hb]; exact this.bool_inv) (ht n c hk m w a hi hs)
theorem AWF.weak {code : Code} {S' : AS} (hw : Weak kp N S S') (h : AWF ρ D kp P N code Q S') : AWF ρ D kp P N code Q S := fun n c hc m w a hi hs =>
  let ⟨m', h1, h2⟩ := hw c hc m w a hi hs; h n c hc m' w a h1 h2
theorem AWF.greg {E : Env} {q : List TypeId} (hX : XOk P E q) {gl : GCalls} (hcl : GClOk P gl) (keep : List Nat) {id : Nat} {l : List Oper} {S' : AS} (hd : noDefer l = true)
    (h : gopsP E q gl N keep l S = some S') (hQ : Q .normal S') : AWF ρ D kp P N (.region id l.toArray false) Q S := by
  unfold gopsP at h
  split at h
  · rename_i S1 h1
    cases h
    intro n c hc m w a hi hs
    refine wpIn_region_list ?_
    have e1 : l.toArray.toList = l ++ [] := by simp
    rw [e1]
    refine wpListIn_pre (T := fun _ => False) (t0 := #[]) l a w hd (fun i hi => hi.elim) (fun i hi => hi.elim) ?_
    exact gops_ok hX hcl _ S S1 m w a (by simpa using h1) hi hs fun m' w' a' h1 h2 _ => ⟨a', rfl, m', ⟨Fw.prune keep S1.s, S1.H⟩, h1, h2.prune keep, hQ⟩
  · cases h
end

theorem AWF.run0 {ρ : Option Nat} {kp : Nat} {P : Program} {N : Nat} {Q : Exit → AS → Prop} {S : AS} {code : Code} (h : AWF ρ [] kp P N code Q S) {n : Nat} {c : Ctx} (hc : c.k = kp) {m : Mem} {w : World} {a : Act} (hi : Inv c m w S.H) (hs : RelS m N a S.s) :
    code.wpIn (wideAt ρ) n P (APost c N Q) a w := by
  have := h n c hc m w a hi hs
  rw [more_nil] at this
  exact wpIn_mono this fun e a' w' ⟨a0, ha, h1⟩ => by rw [more_nil] at ha; rw [ha]; exact h1

/-! ### A part of the walk, as a call: its own context, its first blocks kept. -/
def ctxK (w : World) (m : Mem) (HB : List Blk) (k : Nat) : Ctx := ⟨w, lent m HB, m.M, k, m.η⟩

theorem inv_ctxK {c : Ctx} {m : Mem} {w : World} {HB : List Blk} {k : Nat} (h : Inv c m w HB) (hk : k ≤ HB.length) : Inv (ctxK w m HB k) m w HB where
  len := h.len
  imm := h.imm
  le := .refl _
  new := fun b o hb => .inl hb
  ok := h.ok
  own := fun i B b h1 h2 h3 => .inr ⟨i, B, h1, h2, h3⟩
  disj := h.disj
  os := rfl
  tape := rfl
  output := rfl
  size := Nat.le_refl _
  frame := fun b _ _ => rfl
  keep := fun i hi => ⟨by rw [h.len]; exact Nat.lt_of_lt_of_le hi hk, rfl⟩

theorem inv_comp {c : Ctx} {m m' : Mem} {w w' : World} {HB H' : List Blk} {k : Nat} (h : Inv c m w HB) (hc : c.k ≤ k) (h' : Inv (ctxK w m HB k) m' w' H') : Inv c m' w' H' where
  len := h'.len
  imm := h'.imm
  le := h.le.trans h'.le
  new := fun b o hb => by
    rcases h'.new b o hb with h1 | h1 | ⟨i, B, h1, h2, h3⟩
    · exact h.new b o h1
    · exact .inr (.inl (Nat.le_trans h.size h1))
    · exact .inr (h.own i B b h1 h2 h3)
  ok := h'.ok
  own := fun i B b h1 h2 h3 => by
    rcases h'.own i B b h1 h2 h3 with h4 | ⟨i, B, h1, h2, h3⟩
    · exact .inl (Nat.le_trans h.size h4)
    · exact h.own i B b h1 h2 h3
  disj := h'.disj
  os := h'.os.trans h.os
  tape := h'.tape.trans h.tape
  output := h'.output.trans h.output
  size := Nat.le_trans h.size h'.size
  frame := fun b hb ho => by
    refine (h'.frame b (Nat.lt_of_lt_of_le hb h.size) fun ⟨i, B, h1, h2, h3⟩ => ?_).trans (h.frame b hb ho)
    rcases h.own i B b h1 h2 h3 with h4 | h4
    · omega
    · exact ho h4
  keep := fun i hi => by
    obtain ⟨h1, h2⟩ := h'.keep i (Nat.lt_of_lt_of_le hi hc)
    exact ⟨h1, h2.trans (h.keep i hi).2⟩

/-- What is no cells lies as it lay. -/
theorem kept_obj {c : Ctx} {m m' : Mem} {w w' : World} {HB H' : List Blk} {k b : Nat} {o : Obj} (h : Inv c m w HB) (h' : Inv (ctxK w m HB k) m' w' H') (hb : w.heap[b]? = some o) (ho : o.isCells = false) (hM : m.M b = none) :
    w'.heap[b]? = some o ∧ m'.M b = none := by
  have hlt := lt_of_heap hb
  have hno : ¬ lent m HB b := fun ⟨i, B, h1, h2, h3⟩ => by
    have hok := h.ok i B h1
    generalize m.η i = hd at *
    cases B with
    | «by» l =>
      rcases hok with ⟨rfl, _⟩ | ⟨b', cap, cur, e, rfl, hh, _⟩
      · simp [blk] at h3
      · simp [blk] at h3; subst h3; rw [hh] at hb; cases hb; cases ho
    | sq sz xs =>
      rcases hok with ⟨_, ⟨rfl, _⟩ | ⟨b', cap, cur, e, rfl, hh, _⟩⟩
      · simp [blk] at h3
      · simp [blk] at h3; subst h3; rw [hh] at hb; cases hb; cases ho
    | bx v =>
      obtain ⟨b', cur, e, rfl, hh, _⟩ := hok
      simp [blk] at h3; subst h3; rw [hh] at hb; cases hb; cases ho
    | fz x => cases h2
    | fb x => cases h2
    | no => cases h2
  refine ⟨(h'.frame b hlt hno).trans hb, ?_⟩
  cases hx : m'.M b with
  | none => rfl
  | some y =>
    rcases h'.new b y hx with h1 | h1 | h1
    · have : m.M b = some y := h1
      rw [hM] at this; cases this
    · exact absurd h1 (by show ¬ w.heap.size ≤ b; omega)
    · exact (hno h1).elim

/-- A block that is no cells is laid, or turned. -/
theorem inv_alloc {c : Ctx} {m : Mem} {w : World} {H : List Blk} (h : Inv c m w H) (o : Obj) : Inv c m (w.alloc o) H := by
  have hold : ∀ b x, w.heap[b]? = some x → (w.alloc o).heap[b]? = some x := fun b x hb => (Below.heap_alloc w o b (lt_of_heap hb)).trans hb
  exact {
    len := h.len
    imm := fun b x hb => hold b x (h.imm b x hb)
    le := h.le
    new := h.new
    ok := fun i B hi => (h.ok i B hi).move (.refl m) (fun b hl hb => ((h.ok i B hi).at hl hb).1) (fun b hl hb => by
      obtain ⟨_, hlt⟩ := (h.ok i B hi).at hl hb
      exact Below.heap_alloc w o b hlt)
    own := h.own
    disj := h.disj
    os := h.os
    tape := h.tape
    output := h.output
    size := Nat.le_trans h.size (by rw [World.size_alloc]; exact Nat.le_succ _)
    frame := fun b hb ho => (Below.heap_alloc w o b (Nat.lt_of_lt_of_le hb h.size)).trans (h.frame b hb ho)
    keep := h.keep }
theorem inv_putObj {c : Ctx} {m : Mem} {w : World} {H : List Blk} (h : Inv c m w H) {r : Nat} {o : Obj} (o' : Obj) (hr : w.heap[r]? = some o) (ho : o.isCells = false) (hM : m.M r = none) (hc : c.w0.heap.size ≤ r) : Inv c m (w.putObj r o') H := by
  have hne : ∀ i B b, H[i]? = some B → B.live = true → blk (m.η i) = some b → b ≠ r := by
    intro i B b hi hl hb e
    subst e
    have hok := h.ok i B hi
    generalize m.η i = hd at *
    cases B with
    | «by» l =>
      rcases hok with ⟨rfl, _⟩ | ⟨b', cap, cur, e, rfl, hh, _⟩
      · simp [blk] at hb
      · simp [blk] at hb; subst hb; rw [hh] at hr; cases hr; cases ho
    | sq sz xs =>
      rcases hok with ⟨_, ⟨rfl, _⟩ | ⟨b', cap, cur, e, rfl, hh, _⟩⟩
      · simp [blk] at hb
      · simp [blk] at hb; subst hb; rw [hh] at hr; cases hr; cases ho
    | bx v =>
      obtain ⟨b', cur, e, rfl, hh, _⟩ := hok
      simp [blk] at hb; subst hb; rw [hh] at hr; cases hr; cases ho
    | fz x => cases hl
    | fb x => cases hl
    | no => cases hl
  exact {
    len := h.len
    imm := fun b x hb => (World.putObj_heap_other (fun e => by subst e; rw [hM] at hb; cases hb)).trans (h.imm b x hb)
    le := h.le
    new := h.new
    ok := fun i B hi => (h.ok i B hi).move (.refl m) (fun b hl hb => ((h.ok i B hi).at hl hb).1) (fun b hl hb => World.putObj_heap_other (hne i B b hi hl hb))
    own := h.own
    disj := h.disj
    os := h.os
    tape := h.tape
    output := h.output
    size := Nat.le_trans h.size (by rw [World.putObj_size]; exact Nat.le_refl _)
    frame := fun b hb hO => (World.putObj_heap_other (by omega)).trans (h.frame b hb hO)
    keep := h.keep }

end Go.Fw

end
