/- The abstract machine, and the contracts of the code: part 27. -/
import Derived.Lib.ConvBytes
import Derived.Test.YtchljppcenckaaaFwT4

section
/- Equality as a step, slices of arrays, slices with three bounds, arrays of slices, strings as bytes, append to a slice without room, copies into a part. -/
namespace Go.Fw
set_option linter.unusedVariables false
set_option linter.unusedSimpArgs false
open Go

/-! ### Equality. -/

def eqRes (op : BinOp) (r : Option Bool) : Option AV :=
  match r with
  | some b => match op with
    | .eql => some (.t (.bool b))
    | .neq => some (.t (.bool (!b)))
    | _ => none
  | none => none

def isNilp : AV → Option Bool
  | .t .nilp => some true
  | .ptr _ _ _ => some false
  | .ip _ => some false
  | _ => none

def aEqG (E : Env) (q : List TypeId) (op : BinOp) (t : TypeId) (x y : AV) : Option AV :=
  match (E t).ty with
  | .ptr _ => match y with
    | .t .nilp => eqRes op (isNilp x)
    | _ => match x with
      | .t .nilp => eqRes op (isNilp y)
      | _ => none
  | _ => match x with
    | .t x => match y with
      | .t y => if x.isAgg = true ∧ y.isAgg = true ∧ x.dep ≤ 10000 ∧ q.contains t = true then eqRes op (eqT E q x y t) else none
      | _ => none
    | _ => none

theorem RelT.agg_val {M : Nat → Option Obj} {x : T} {v : Value} (h : RelT M x v) (ha : x.isAgg = true) : ∃ arr, v = .agg arr := by
  cases h <;> first | exact ⟨_, rfl⟩ | simp [T.isAgg] at ha

theorem isNilp_ok {m : Mem} {x : AV} {v : Value} {b : Bool} (h : RelA m x v) (hb : isNilp x = some b) : ∃ p, v = .pointer p ∧ p.isNone = b := by
  cases x with
  | t x =>
    cases x with
    | nilp => cases h.t_inv; cases hb; exact ⟨_, rfl, rfl⟩
    | _ => simp [isNilp] at hb
  | ptr i o p => obtain ⟨b', rfl, _⟩ := h.ptr_inv; cases hb; exact ⟨_, rfl, rfl⟩
  | ip x => cases hb; cases h; exact ⟨_, rfl, rfl⟩
  | _ => simp [isNilp] at hb

theorem run_eq_nil {P : Program} {w : World} {t e : TypeId} (ht : P.underlying t = some (.pointer e)) (p : Option Addr) :
    (Op.equal t (.pointer p) (.pointer none)).run P w = .ok p.isNone w ∧ (Op.equal t (.pointer none) (.pointer p)).run P w = .ok p.isNone w := by
  have key : ∀ d, (Op.equalIn (d + 1) t (.pointer p) (.pointer none)).run P w = .ok p.isNone w ∧ (Op.equalIn (d + 1) t (.pointer none) (.pointer p)).run P w = .ok p.isNone w := by
    intro d
    cases p <;> simp [Op.equalIn, run_underlying ht]
  exact key 9999

theorem aEqG_ok {P : Program} {E : Env} (hE : EnvOk P E) (hB : ByteOk E) {q : List TypeId} (hq : ∀ t ∈ q, EqTy P t) {m : Mem} {w : World} {op : BinOp} {t : TypeId} {x y : Operand} {ax ay v : AV} {a b : Value}
    (h : aEqG E q op t ax ay = some v) (hx : RelA m ax a) (hy : RelA m ay b) :
    ∃ val, RelA m v val ∧ ((do eqGuard op t x y a b; binOp op t a b) : Sem Value).run P w = .ok val w := by
  have fin : ∀ (r : Bool), (Op.equal t a b).run P w = .ok r w → eqRes op (some r) = some v → (eqGuard op t x y a b).run P w = .ok () w → (∀ o, o = op → o = .eql ∨ o = .neq → (binOp o t a b).run P w = ((Op.equal t a b).run P w).andThen fun r w => .ok (.bool (if o = .eql then r else !r)) w) →
      ∃ val, RelA m v val ∧ ((do eqGuard op t x y a b; binOp op t a b) : Sem Value).run P w = .ok val w := by
    intro r h1 h2 h3 h4
    simp only [eqRes] at h2
    split at h2
    · cases h2
      exact ⟨.bool r, .t .bool, by rw [Sem.run_bind, h3, Result.andThen_ok, h4 _ rfl (.inl rfl), h1]; rfl⟩
    · cases h2
      exact ⟨.bool (!r), .t .bool, by rw [Sem.run_bind, h3, Result.andThen_ok, h4 _ rfl (.inr rfl), h1]; rfl⟩
    · cases h2
  unfold aEqG at h
  split at h
  · rename_i e ht
    have d := (hE.ty ht (by simp)).1
    simp only [DescOk] at d
    have key : ∀ (p p' : Option Addr), a = .pointer p → b = .pointer p' → ∀ r, (Op.equal t a b).run P w = .ok r w → eqRes op (some r) = some v → ∃ val, RelA m v val ∧ ((do eqGuard op t x y a b; binOp op t a b) : Sem Value).run P w = .ok val w := by
      intro p p' ha hb r hr hv
      refine fin r hr hv ?_ ?_
      · subst ha; subst hb; cases op <;> simp [eqGuard]
      · intro o ho hc
        subst ha; subst hb
        rcases hc with rfl | rfl <;> simp [binOp]
    split at h
    · cases hy.t_inv
      cases hn : isNilp ax with
      | none => rw [hn] at h; simp [eqRes] at h
      | some r =>
        rw [hn] at h
        obtain ⟨p, rfl, hp⟩ := isNilp_ok hx hn
        exact key p none rfl rfl r (by rw [← hp]; exact (run_eq_nil d p).1) h
    · split at h
      · cases hx.t_inv
        cases hn : isNilp ay with
        | none => rw [hn] at h; simp [eqRes] at h
        | some r =>
          rw [hn] at h
          obtain ⟨p, rfl, hp⟩ := isNilp_ok hy hn
          exact key none p rfl rfl r (by rw [← hp]; exact (run_eq_nil d p).2) h
      · cases h
  · split at h
    · rename_i x' 
      split at h
      · rename_i y'
        split at h
        · rename_i hc
          obtain ⟨c1, c2, c3, c4⟩ := hc
          cases hr : eqT E q x' y' t with
          | none => rw [hr] at h; simp [eqRes] at h
          | some r =>
            rw [hr] at h
            have h1 := eqT_ok hE hB hq x' y' t r 10000 w a b hr c3 hx.t_inv hy.t_inv
            obtain ⟨xs, rfl⟩ := hx.t_inv.agg_val c1
            obtain ⟨ys, rfl⟩ := hy.t_inv.agg_val c2
            refine fin r h1 h ?_ ?_
            · exact run_eqGuard_agg w op t x y xs ys (hq t (by simpa using c4)).1
            · intro o ho hc
              rcases hc with rfl | rfl <;> simp [binOp]
        · cases h
      · cases h
    · cases h

/-! ### Slices of arrays, slices with three bounds, arrays of slices. -/

/-- 'x[lo:hi]' of an array's address. -/
def aSliceArr (E : Env) (s : Slots) (t : TypeId) (x : Operand) (lo hi : Option Operand) : Option AV :=
  match (E t).ty with
  | .arr n e => match abounds s n lo hi with
    | some (lo, hi) => match ev s x with
      | .ptr i off p => if 0 < (E e).size ∧ n ≤ 1000000 then some (.sub i p (E e).size off (lo.getD 0) (hi.getD n - lo.getD 0)) else none
      | .ip (.ba k l) => if (E e).size = 1 ∧ k = n ∧ n ≤ 1000000 then some (.t (.by ((l.drop (lo.getD 0)).take (hi.getD n - lo.getD 0)))) else none
      | _ => none
    | none => none
  | _ => none

theorem aSliceArr_ok {P : Program} {E : Env} (hE : EnvOk P E) {m : Mem} {w : World} {s : Slots} {ρ : Operand → Value}
    (hs : ∀ x, RelA m (ev s x) (ρ x)) {t : TypeId} {x : Operand} {lo hi : Option Operand} {v : AV} (hv : aSliceArr E s t x lo hi = some v) :
    ∃ val, RelA m v val ∧ (Instr.sliceAt t (ρ x) (lo.map ρ) (hi.map ρ) none).run P w = .ok val w := by
  unfold aSliceArr at hv
  split at hv
  case h_2 => cases hv
  rename_i n e ht
  have d := (hE.ty ht (by simp)).1
  simp only [DescOk] at d
  split at hv
  case h_2 => cases hv
  rename_i lo' hi' hbd
  split at hv
  case h_3 => cases hv
  case h_2 =>
    rename_i k l hx
    split at hv
    case isFalse => cases hv
    rename_i hc
    obtain ⟨hp, rfl, hn⟩ := hc
    cases hv
    have hxr := hs x
    rw [hx] at hxr
    obtain ⟨b1, b2, b3⟩ := abounds_ok (P := P) (w := w) hs (Nat.le_refl k) hbd false
    simp only at b1 b2 b3
    have he := hE.size (t := e) rfl (by omega)
    generalize hu : ρ x = u at hxr
    generalize hip : AV.ip (.ba k l) = ax at hxr
    cases hxr <;> cases hip
    rename_i b off cur ty fr hM hw hr
    have hlk : l.length = k := by simpa [T.wf] using hw
    refine ⟨.slice (some (if k = lo'.getD 0 then ⟨b, off, none⟩ else ⟨b, off + lo'.getD 0 * (E e).size, none⟩)) (hi'.getD k - lo'.getD 0) (k - lo'.getD 0), ?_, ?_⟩
    · rw [hp]
      have hll : ((l.drop (lo'.getD 0)).take (hi'.getD k - lo'.getD 0)).length = hi'.getD k - lo'.getD 0 := by
        rw [List.length_take, List.length_drop]; omega
      by_cases h0 : k = lo'.getD 0
      · rw [if_pos h0]
        have e1 : hi'.getD k - lo'.getD 0 = 0 := by omega
        have e2 : k - lo'.getD 0 = 0 := by omega
        rw [e1, e2, List.take_zero]
        exact .t .byn
      · rw [if_neg h0]
        have key := RelT.by (l := (l.drop (lo'.getD 0)).take (hi'.getD k - lo'.getD 0)) (off := off + lo'.getD 0 * 1) (cap := k - lo'.getD 0) hM (by rw [hll]; omega) (by unfold maxLen; omega) (fun i c hic => by
          rw [List.getElem?_take] at hic
          split at hic
          · rw [List.getElem?_drop] at hic
            obtain ⟨u, hu1, hu2⟩ := hr (lo'.getD 0 + i) (u8 c) (by simp only [T.cells, List.getElem?_map, hic]; rfl)
            cases hu2
            rw [show vu8 c = .int .u8 (c.toNat : Int) from rfl, ← hu1]; congr 1; omega
          · cases hic)
        rw [hll] at key
        exact .t key
    · simp only [Instr.sliceAt, Sem.run_bind, run_underlying d, Result.andThen_ok, Instr.sureAddr, Sem.run_pure, b3, he.sizeOf, addr_add]
  rename_i i off p hx
  split at hv
  case isFalse => cases hv
  rename_i hc
  obtain ⟨hp, hn⟩ := hc
  cases hv
  have hxr := hs x
  rw [hx] at hxr
  obtain ⟨b, hu, hin, hb⟩ := hxr.ptr_inv
  obtain ⟨b1, b2, b3⟩ := abounds_ok (P := P) (w := w) hs (Nat.le_refl n) hbd false
  simp only at b1 b2 b3
  have he := hE.size (t := e) rfl hp
  refine ⟨.slice (some (if n = lo'.getD 0 then ⟨b, off, none⟩ else ⟨b, off + lo'.getD 0 * (E e).size, none⟩)) (hi'.getD n - lo'.getD 0) (n - lo'.getD 0), ?_, ?_⟩
  · refine .sub hin (by omega) (by unfold maxLen; omega) (.inr ⟨b, if n = lo'.getD 0 then off else off + lo'.getD 0 * (E e).size, hb, ?_, ?_⟩)
    · split <;> rfl
    · intro hne
      rw [if_neg (by omega)]
  · rw [hu]
    simp only [Instr.sliceAt, Sem.run_bind, run_underlying d, Result.andThen_ok, Instr.sureAddr, Sem.run_pure, b3, he.sizeOf, addr_add]

theorem RelT.narrow {M : Nat → Option Obj} {x : T} {a : Option Addr} {n cap : Nat} (h : RelT M x (.slice a n cap)) (hx : ∀ v, x ≠ .op v := by intro v e; cases e) : RelT M x (.slice a n n) := by
  cases h with
  | op _ => exact (hx _ rfl).elim
  | nil => exact .nil
  | byn => exact .byn
  | «by» hM hl hm hc => exact .by hM (Nat.le_refl _) (by omega) hc
  | sqn h => exact .sqn h
  | sq hM hw hl hm g hc hr => exact .sq hM hw (Nat.le_refl _) (by omega) g hc hr

/-- 'x[:n:n]' of all elements of a slice. -/
def aSlice3 (E : Env) (H : List Blk) (s : Slots) (t : TypeId) (x : Operand) (hi mx : Operand) : Option AV :=
  match (E t).ty with
  | .sl e => match immT H (ev s x) with
    | some (.by l) => match ev s hi with
      | .t (.int _ a) => match ev s mx with
        | .t (.int _ b) => if a = l.length ∧ b = a ∧ (E e).size = 1 then some (.ex (.by l)) else none
        | _ => none
      | _ => none
    | some (.sq sz xs) => match ev s hi with
      | .t (.int _ a) => match ev s mx with
        | .t (.int _ b) => if a = xs.length ∧ b = a ∧ (E e).size = sz then some (.ex (.sq sz xs)) else none
        | _ => none
      | _ => none
    | _ => none
  | _ => none

theorem aSlice3_ok {P : Program} {E : Env} (hE : EnvOk P E) {c : Ctx} {m : Mem} {w : World} {H : List Blk} (h : Inv c m w H) {s : Slots} {ρ : Operand → Value}
    (hs : ∀ x, RelA m (ev s x) (ρ x)) {t : TypeId} {x : Operand} {hi mx : Operand} {v : AV} (hv : aSlice3 E H s t x hi mx = some v) :
    ∃ val, RelA m v val ∧ (Instr.sliceAt t (ρ x) none (some (ρ hi)) (some (ρ mx))).run P w = .ok val w := by
  unfold aSlice3 at hv
  split at hv
  case h_2 => cases hv
  rename_i e ht
  have d := (hE.ty ht (by simp)).1
  simp only [DescOk] at d
  have key : ∀ (y : T) (n : Nat) (k k' : IntKind) (a b : Int), (∀ v, y ≠ .op v) → (∃ a' cap, ρ x = .slice a' n cap ∧ n ≤ cap) → RelT m.M y (ρ x) → ev s hi = .t (.int k a) → ev s mx = .t (.int k' b) → a = n → b = a → 0 < (E e).size →
      ∃ val, RelA m (.ex y) val ∧ (Instr.sliceAt t (ρ x) none (some (ρ hi)) (some (ρ mx))).run P w = .ok val w := by
    intro y n k k' a b hop ⟨a', cap, hu, hcap⟩ hy hh hm ha hb hp
    have h1 := hs hi
    have h2 := hs mx
    rw [hh] at h1; rw [hm] at h2
    have e1 := h1.int_inv.1
    have e2 := h2.int_inv.1
    rw [hu] at hy
    subst hb
    subst ha
    refine ⟨.slice (if n = 0 then a' else a'.map (·.add (0 * (E e).size))) n n, ?_, ?_⟩
    · by_cases h0 : n = 0
      · rw [if_pos h0]; exact .ex (hy.narrow hop)
      · rw [if_neg h0]
        have : a'.map (·.add (0 * (E e).size)) = a' := by cases a' <;> simp [Addr.add]
        rw [this]; exact .ex (hy.narrow hop)
    · rw [hu, e1, e2]
      have he := hE.size (t := e) rfl hp
      have q1 : ((0 : Int) ≤ (n : Int) ∧ (n : Int) ≤ (cap : Int)) := by omega
      simp [Instr.sliceAt, Instr.slice, run_underlying d, Instr.sliceBounds, Instr.sliceBound, asIntOf, he.sizeOf, hcap]
  split at hv
  · rename_i l hl
    have hr := immT_ok h (hs x) hl
    split at hv
    · rename_i k a hh
      split at hv
      · rename_i k' b hm
        split at hv
        · rename_i hc
          cases hv
          refine key _ l.length k k' a b (by intro v e; cases e) ?_ hr hh hm hc.1 hc.2.1 (by omega)
          generalize ρ x = u at hr
          cases hr with
          | byn => exact ⟨_, _, rfl, by simp⟩
          | «by» hM hl hm hc => exact ⟨_, _, rfl, hl⟩
        · cases hv
      · cases hv
    · cases hv
  · rename_i sz xs hl
    have hr := immT_ok h (hs x) hl
    split at hv
    · rename_i k a hh
      split at hv
      · rename_i k' b hm
        split at hv
        · rename_i hc
          cases hv
          have hw := hr.wf
          simp only [T.wf] at hw
          refine key _ xs.length k k' a b (by intro v e; cases e) ?_ hr hh hm hc.1 hc.2.1 (by omega)
          generalize ρ x = u at hr
          cases hr with
          | sqn h => exact ⟨_, _, rfl, by simp⟩
          | sq hM hw hl hm g hc hr => exact ⟨_, _, rfl, hl⟩
        · cases hv
      · cases hv
    · cases hv
  · cases hv

/-- '[n]byte(x)': the address of the slice's first cells; the slice is read only from then on. -/
def aArrPtr (E : Env) (H : List Blk) (t : TypeId) (x : AV) : Option (AV × List Blk) :=
  match (E t).ty with
  | .arr n e => match immT (freezeOnes H x.rows) x with
    | some (.by l) => if n ≤ l.length ∧ 0 < n ∧ (E e).ty = .int .u8 then some (.ip (.ba n (l.take n)), freezeOnes H x.rows) else none
    | _ => none
  | _ => none

theorem aArrPtr_ok {P : Program} {E : Env} (hE : EnvOk P E) {c : Ctx} {m : Mem} {w : World} {H : List Blk} (h : Inv c m w H) {t : TypeId} {x v : AV} {a : Value} {H' : List Blk}
    (hx : RelA m x a) (hv : aArrPtr E H t x = some (v, H')) :
    ∃ m' w' val, Ext m m' ∧ Inv c m' w' H' ∧ RelA m' v val ∧ (Instr.arrayAt t a).run P w = .ok val w' := by
  unfold aArrPtr at hv
  split at hv
  case h_2 => cases hv
  rename_i n e ht
  have d := (hE.ty ht (by simp)).1
  simp only [DescOk] at d
  split at hv
  case h_2 => cases hv
  rename_i l hl
  split at hv
  case isFalse => cases hv
  rename_i hc
  obtain ⟨hn, hp, he⟩ := hc
  cases hv
  obtain ⟨m1, e1, h1⟩ := freezeOnes_ok x.rows m H h
  have hr := immT_ok h1 (hx.mono e1) hl
  cases hr with
  | byn => simp at hn; omega
  | «by» hM hl' hm hcc =>
    rename_i b off cap cur ty fr
    refine ⟨m1, w, .pointer (some ⟨b, off, none⟩), e1, h1, .ip hM (by simp [T.wf]; omega) ?_, ?_⟩
    · intro i c' hi
      simp only [T.cells, List.getElem?_map, Option.map_eq_some_iff] at hi
      obtain ⟨u, hu, rfl⟩ := hi
      rw [List.getElem?_take] at hu
      split at hu
      · exact ⟨vu8 u, hcc _ _ hu, RelT_u8 u⟩
      · cases hu
    · have : ¬ l.length < n := by omega
      simp [Instr.arrayAt, run_underlying d, this]

/-! ### What is made and read only from the first. -/

/-- A new block that nobody turns. -/
theorem Inv.publish {c : Ctx} {m : Mem} {w w' : World} {H : List Blk} (h : Inv c m w H) {o : Obj} (hos : w'.os = w.os) (htape : w'.tape = w.tape)
    (hout : w'.output = w.output) (hsize : w'.heap.size = w.heap.size + 1) (hold : ∀ b, b < w.heap.size → w'.heap[b]? = w.heap[b]?) (hnew : w'.heap[w.heap.size]? = some o) (hpl : plainO o) :
    ∃ m', Ext m m' ∧ Inv c m' w' H ∧ m'.M w.heap.size = some o := by
  let m' : Mem := { m with M := fun b => if b = w.heap.size then some o else m.M b }
  have hfree : m.M w.heap.size = none := M_fresh h (Nat.le_refl _)
  have hext : Ext m m' := ⟨fun b o' hb => by
    show (if b = w.heap.size then some o else m.M b) = some o'
    rw [if_neg (fun e => by rw [e, hfree] at hb; cases hb)]; exact hb, Nat.le_refl _, fun _ _ => rfl⟩
  refine ⟨m', hext, ⟨h.len, ?_, h.le.trans hext.M, ?_, ?_, h.own, h.disj, hos.trans h.os, htape.trans h.tape, hout.trans h.output, by have := h.size; omega, ?_, h.keep⟩, by simp [m']⟩
  · intro b o' hb
    show w'.heap[b]? = some o'
    have hb' : (if b = w.heap.size then some o else m.M b) = some o' := hb
    split at hb'
    · rename_i e; subst e; cases hb'; exact hnew
    · have := h.imm b o' hb'
      rw [hold b (lt_of_heap this)]; exact this
  · intro b o' hb
    have hb' : (if b = w.heap.size then some o else m.M b) = some o' := hb
    split at hb'
    · rename_i e; subst e; cases hb'; exact .inr ⟨.inl h.size, hpl⟩
    · exact h.new b o' hb'
  · intro i B hi
    refine (h.ok i B hi).move hext (fun b hl hb => ?_) (fun b hl hb => hold b ((h.ok i B hi).at hl hb).2)
    obtain ⟨h1, h2⟩ := (h.ok i B hi).at hl hb
    show (if b = w.heap.size then some o else m.M b) = none
    rw [if_neg (by omega)]; exact h1
  · intro b hb hO
    rw [hold b (Nat.lt_of_lt_of_le hb h.size)]
    exact h.frame b hb hO

/-- '[]byte(s)'. -/
def aStrBytes (E : Env) (src dst : TypeId) (x : AV) : Option AV :=
  match (E src).ty with
  | .str => match (E dst).ty with
    | .sl e => if (E e).ty = .int .u8 then (match x with
      | .t (.str l) => if l.length ≤ 281474976710656 then some (.t (.by l)) else none
      | _ => none) else none
    | _ => none
  | _ => none

theorem aStrBytes_ok {P : Program} {E : Env} (hE : EnvOk P E) {c : Ctx} {m : Mem} {w : World} {H : List Blk} (h : Inv c m w H) {src dst : TypeId} {x v : AV} {a : Value}
    (hx : RelA m x a) (hv : aStrBytes E src dst x = some v) :
    ∃ m' w' val, Ext m m' ∧ Inv c m' w' H ∧ RelA m' v val ∧ (convert src dst a).run P w = .ok val w' := by
  unfold aStrBytes at hv
  split at hv
  case h_2 => cases hv
  rename_i hsrc
  split at hv
  case h_2 => cases hv
  rename_i e hdst
  split at hv
  case isFalse => cases hv
  rename_i he
  split at hv
  case h_2 => cases hv
  rename_i l
  split at hv
  case isFalse => cases hv
  rename_i hlen
  cases hv
  obtain ⟨rfl, hm⟩ := hx.str_inv
  have d1 := (hE.ty hsrc (by simp)).1
  have d2 := (hE.ty hdst (by simp)).1
  have d3 := (hE.ty he (by simp)).1
  simp only [DescOk] at d1 d2 d3
  have hsz : (⟨l.toArray⟩ : ByteArray).size = l.length := rfl
  have hrun := Lib.run_convert_string_bytes (P := P) w src dst e ⟨l.toArray⟩ d1 d2 d3
  obtain ⟨m', e1, h1, hM⟩ := h.publish (w' := Lib.bytesWorld w e ⟨l.toArray⟩) rfl rfl rfl (Lib.bytesWorld_size w e _)
    (fun b hb => Lib.bytesWorld_at_old w e _ b hb) (Lib.bytesWorld_at_new w e _) (.inr (Nat.le_refl _))
  refine ⟨m', _, _, e1, h1, ?_, hrun⟩
  have hcap := grownCap_ge w l.length 0 e
  have hmax := grownCap_le_maxLen w l.length 0 e (by omega)
  have := RelT.by (M := m'.M) (l := l) (b := w.heap.size) (off := 0) (cap := grownCap w (⟨l.toArray⟩ : ByteArray).size 0 e) hM hcap hmax (by
    intro i c' hi
    have hlt := (List.getElem?_eq_some_iff.1 hi).1
    simp only [Lib.bytesCells, Nat.zero_add]
    rw [Array.getElem?_append_left (by simpa using hlt)]
    simp [hi, vu8])
  exact .t this

end Go.Fw

end
