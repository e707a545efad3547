/- The abstract machine, and the contracts of the code: part 6. -/
import Derived.Test.YtchljppcenckaaaFwD

section
/- All operations that turn no memory, in one function; the model's run makes a value of that kind. -/
namespace Go.Fw
set_option linter.unusedVariables false
set_option linter.unusedSimpArgs false
open Go

def aConv (E : Env) (H : List Blk) (src dst : TypeId) (x : AV) : Option AV :=
  match (E src).ty, (E dst).ty with
  | .int _, .int k' => match x with
    | .t (.int _ n) => some (.t (.int k' (k'.wrap n)))
    | _ => none
  | .sl e, .str => if (E e).ty = .int .u8 then (match rowT H x with
    | some (.by l) => some (.t (.str l))
    | some .nil => some (.t (.str []))
    | _ => none) else none
  | .str, .str => match x with
    | .t (.str l) => some (.t (.str l))
    | _ => none
  | _, _ => none

theorem RelT.bytesToString {P : Program} {w : World} {l : List UInt8} {u : Value} (h : RelT (snap w) (.by l) u) : (Conv.bytesToString u).run P w = .ok (.string ⟨l.toArray⟩) w := by
  cases h with
  | byn =>
    rename_i a
    cases a with
    | none => simp [Conv.bytesToString]; rfl
    | some a =>
      have hload : (loadCells a 0).run P w = .ok (([] : List Int).map (Value.int .u8)).toArray w := run_loadCells_list w a [] (by simp)
      rw [run_bytesToString w _ _ _ _ hload]; rfl
  | «by» hM hl hm hc =>
    rename_i b off cap cur ty fr
    have hM' : w.heap[b]? = some (.cells cur ty fr) := hM
    have hload : (loadCells ⟨b, off, none⟩ l.length).run P w = .ok ((l.map fun c => (c.toNat : Int)).map (Value.int .u8)).toArray w := by
      have e : (l.map fun c => (c.toNat : Int)).map (Value.int .u8) = l.map vu8 := by simp [vu8, Function.comp_def]
      rw [e, show l.length = (l.map vu8).length by simp]
      refine run_loadCells_list w _ _ ?_
      intro j v hj
      simp only [List.getElem?_map, Option.map_eq_some_iff] at hj
      obtain ⟨c, hc', rfl⟩ := hj
      rw [addr_add, cell_at hM']
      exact hc j c hc'
    rw [run_bytesToString w _ _ _ _ hload]
    congr 2
    have : ∀ (l : List UInt8) (s : ByteArray), (l.map fun c => (c.toNat : Int)).foldl (fun r n => r.push (UInt8.ofNat n.toNat)) s = ⟨(s.data.toList ++ l).toArray⟩ := by
      intro l
      induction l with
      | nil => intro s; simp
      | cons c l ih =>
        intro s
        simp only [List.map_cons, List.foldl_cons, ih]
        congr 1
        simp [ByteArray.push, UInt8.ofNat_toNat]
    simpa using this l ByteArray.empty

theorem aConv_ok {P : Program} {E : Env} (hE : EnvOk P E) {c : Ctx} {m : Mem} {w : World} {H : List Blk} (h : Inv c m w H) {src dst : TypeId} {x v : AV} {a : Value}
    (hx : RelA m x a) (hv : aConv E H src dst x = some v) : ∃ val, RelA m v val ∧ (convert src dst a).run P w = .ok val w := by
  unfold aConv at hv
  split at hv
  · rename_i k k' h1 h2
    have d1 := (hE.ty h1 (by simp)).1
    have d2 := (hE.ty h2 (by simp)).1
    simp only [DescOk] at d1 d2
    split at hv
    · cases hv
      obtain ⟨rfl, _⟩ := hx.int_inv
      exact ⟨_, .t (.int (wrap_inK _ _)), by simp [convert, run_underlying d1, run_underlying d2, Conv.intToInt]⟩
    · cases hv
  · rename_i e h1 h2
    have d1 := (hE.ty h1 (by simp)).1
    have d2 := (hE.ty h2 (by simp)).1
    simp only [DescOk] at d1 d2
    split at hv
    · rename_i he
      have d3 := (hE.ty he (by simp)).1
      simp only [DescOk] at d3
      split at hv
      · rename_i l hl
        cases hv
        have hr := rowT_ok h hx hl rfl
        have hw := hr.wf
        simp only [T.wf] at hw
        refine ⟨_, .t (.str hw), ?_⟩
        obtain ⟨a', n, cap, rfl⟩ : ∃ a' n cap, a = .slice a' n cap := by cases hr <;> exact ⟨_, _, _, rfl⟩
        rw [run_convert_bytes_string w src dst e a' n cap d1 d3 d2]
        exact hr.bytesToString
      · rename_i hl
        cases hv
        have hr := rowT_ok h hx hl rfl
        refine ⟨_, .t (.str (l := []) (by simp)), ?_⟩
        cases hr
        rw [run_convert_bytes_string w src dst e none 0 0 d1 d3 d2]
        exact RelT.byn.bytesToString
      · cases hv
    · cases hv
  · rename_i h1 h2
    have d1 := (hE.ty h1 (by simp)).1
    have d2 := (hE.ty h2 (by simp)).1
    simp only [DescOk] at d1 d2
    split at hv
    · cases hv
      obtain ⟨rfl, hm⟩ := hx.str_inv
      exact ⟨_, .t (.str hm), by simp [convert, run_underlying d1, run_underlying d2]⟩
    · cases hv
  · cases hv

def aUn (op : UnOp) (x : AV) : Option AV :=
  match op, x with
  | .not, .t (.bool b) => some (.t (.bool (!b)))
  | .neg, .t (.int k n) => some (.t (.int k (k.wrap (0 - n))))
  | .xor, .t (.int k n) => some (.t (.int k (abits .xor k (if k.signed then -1 else k.max) n)))
  | _, _ => none

theorem aUn_ok {P : Program} {m : Mem} {w : World} {op : UnOp} {x v : AV} {a : Value} (hx : RelA m x a) (hv : aUn op x = some v) :
    ∃ val, RelA m v val ∧ (Op.unary op a).run P w = .ok val w := by
  unfold aUn at hv
  split at hv <;> cases hv
  · obtain rfl := hx.bool_inv; exact ⟨_, .t .bool, rfl⟩
  · obtain ⟨rfl, _⟩ := hx.int_inv; exact ⟨_, .t (.int (wrap_inK _ _)), by simp [Op.unary, Op.intArith]⟩
  · obtain ⟨rfl, _⟩ := hx.int_inv; exact ⟨_, .t (.int (wrap_inK _ _)), by simp [Op.unary, Op.intBits, abits]⟩

def aMin2 (mx : Bool) (x y : AV) : Option AV :=
  match x, y with
  | .t (.int k a), .t (.int k' b) => if k = k' then some (.t (.int k (if mx then (if b > a then b else a) else (if b < a then b else a)))) else none
  | _, _ => none

def aMins (mx : Bool) : AV → List AV → Option AV
  | x, [] => some x
  | x, y :: r => match aMin2 mx x y with
    | some z => aMins mx z r
    | none => none

def aFieldAddr (E : Env) (t : TypeId) (x : AV) (f : Nat) : Option AV :=
  match (E t).ty with
  | .st fs => match fs[f]? with
    | some (o, ft) => match x with
      | .ptr i off p => if 0 < (E ft).size then some (.ptr i (off + o) (p ++ [f])) else none
      | .ip (.st xs) => match xs[f]? with
        | some y => if T.sizeL (xs.take f) = o ∧ 0 < (E ft).size then some (.ip y) else none
        | none => none
      | _ => none
    | none => none
  | _ => none

theorem aFieldAddr_ok {P : Program} {E : Env} (hE : EnvOk P E) {m : Mem} {w : World} {t : TypeId} {x v : AV} {a : Value} {f : Nat}
    (hx : RelA m x a) (hv : aFieldAddr E t x f = some v) : ∃ val, RelA m v val ∧ (Instr.fieldAt t a f).run P w = .ok val w := by
  unfold aFieldAddr at hv
  split at hv
  · rename_i fs ht
    have d := (hE.ty ht (by simp)).1
    simp only [DescOk] at d
    obtain ⟨fields, hd, hfs⟩ := d
    split at hv
    · rename_i o ft hf
      rw [← hfs, List.getElem?_map, Option.map_eq_some_iff] at hf
      obtain ⟨fl, hfl, he⟩ := hf
      simp at he
      obtain ⟨ho, hft⟩ := he
      have hfl' : fields[f]? = some fl := by simpa using hfl
      have run : ∀ b off, 0 < (E ft).size → (Instr.fieldAt t (.pointer (some ⟨b, off, none⟩)) f).run P w = .ok (.pointer (some ⟨b, off + o, none⟩)) w := by
        intro b off hp
        have hsz := (hE.size rfl hp).sizeOf (P := P) (E := E) w
        simp [Instr.fieldAt, run_underlying hd, hfl', Instr.sureAddr, fieldPlace, hft, hsz, Nat.ne_of_gt hp, addr_add, ho]
      split at hv
      · split at hv
        · rename_i hp
          cases hv
          obtain ⟨b, rfl, hi, hb⟩ := hx.ptr_inv
          exact ⟨_, .ptr hi hb, run _ _ hp⟩
        · cases hv
      · split at hv
        · rename_i xs y hy
          split at hv
          · rename_i hc
            obtain ⟨hs, hp⟩ := hc
            cases hv
            cases hx with
            | ip hM hw hr =>
              simp only [T.wf] at hw
              refine ⟨_, .ip hM (wfL_get hw hy) fun i c hi => ?_, run _ _ hp⟩
              have := cellsL_get hw hy i c hi
              obtain ⟨u, h1, h2⟩ := hr _ c (by simpa only [T.cells] using this)
              exact ⟨u, by rw [← hs, Nat.add_assoc]; exact h1, h2⟩
          · cases hv
        · cases hv
      · cases hv
    · cases hv
  · cases hv

def aStill (E : Env) (H : List Blk) (s : Slots) (op : Op) : Option AV :=
  match op with
  | .move x => some (ev s x)
  | .assign x => some (ev s x)
  | .pick c a b => match ev s c with
    | .t (.bool p) => if p = true then some (ev s a) else some (ev s b)
    | _ => none
  | .nilCheck x => match ev s x with
    | .ptr i o p => some (.ptr i o p)
    | .ip y => some (.ip y)
    | .clo f cs => some (.clo f cs)
    | .t (.fn f) => some (.t (.fn f))
    | _ => none
  | .binOp op t x y _ => aBin E op t (ev s x) (ev s y)
  | .unOp op _ x => aUn op (ev s x)
  | .convert src dst x => aConv E H src dst (ev s x)
  | .slice t x lo hi none => aSlice E H s t x lo hi
  | .indexAddr t x i => aIndexAddr E H t (ev s x) (ev s i)
  | .load t a => aLoad E H t (ev s a)
  | .fieldAddr t x f => aFieldAddr E t (ev s x) f
  | .extract x i => match ev s x with
    | .tup xs => xs[i]?
    | _ => none
  | .call c => match c.callee, c.args.toList, c.argTypes.toList with
    | .builtin .len, [x], [t] => match (E t).ty with
      | .sl _ => match ev s x with
        | .t (.str _) => none
        | v => (alen H v).map fun (n : Nat) => AV.t (T.int .i64 (n : Int))
      | .str => match ev s x with
        | .t (.str l) => some (.t (.int .i64 l.length))
        | _ => none
      | _ => none
    | .builtin .min, x :: r, _ => match ev s x with
      | .t (.int k n) => aMins false (.t (.int k n)) (r.map (ev s))
      | _ => none
    | .builtin .max, x :: r, _ => match ev s x with
      | .t (.int k n) => aMins true (.t (.int k n)) (r.map (ev s))
      | _ => none
    | _, _, _ => none
  | _ => none

theorem aMins_ok {P : Program} {m : Mem} {w : World} (mx : Bool) : ∀ (r : List AV) (x : AV) (a : Value) (as : List Value) (v : AV), RelA m x a → r.length = as.length →
    (∀ (i : Nat) (c : AV), r[i]? = some c → ∃ u, as[i]? = some u ∧ RelA m c u) → aMins mx x r = some v →
    ∃ val, RelA m v val ∧ (as.foldlM (if mx then Builtin.max2 else Builtin.min2) a : Sem Value).run P w = .ok val w := by
  intro r
  induction r with
  | nil =>
    intro x a as v hx hl _ h
    cases as with
    | nil => cases h; exact ⟨a, hx, by simp⟩
    | cons _ _ => simp at hl
  | cons y r ih =>
    intro x a as v hx hl hr h
    cases as with
    | nil => simp at hl
    | cons b as =>
      simp only [aMins] at h
      split at h
      · rename_i z hz
        obtain ⟨u, hu, hy⟩ := hr 0 y rfl
        simp at hu; subst hu
        unfold aMin2 at hz
        split at hz
        · rename_i k n k' n'
          obtain ⟨rfl, i1⟩ := hx.int_inv
          obtain ⟨rfl, i2⟩ := hy.int_inv
          split at hz
          · rename_i hk
            subst hk
            cases hz
            obtain ⟨val, h1, h2⟩ := ih _ _ as v (RelA.t (.int (by cases mx <;> simp <;> split <;> first | exact i2 | exact i1))) (by simpa using hl)
              (fun i c hi => by simpa using hr (i + 1) c (by simpa using hi)) h
            refine ⟨val, h1, ?_⟩
            rw [List.foldlM_cons, Sem.run_bind]
            cases mx
            · simpa [Builtin.min2] using h2
            · simpa [Builtin.max2] using h2
          · cases hz
        · cases hz
      · cases h

theorem aStill_ok {P : Program} {E : Env} (hE : EnvOk P E) {c : Ctx} {m : Mem} {w : World} {H : List Blk} (h : Inv c m w H) {s : Slots} {ρ : Operand → Value}
    (hs : ∀ x, RelA m (ev s x) (ρ x)) {o : Oper} {v : AV} (hv : aStill E H s o.op = some v) :
    ∃ val, RelA m v val ∧ (execOp ρ o).run P w = .ok (.value val) w := by
  unfold aStill at hv
  unfold execOp
  generalize ho : o.op = op at hv
  rw [ho] at *
  split at hv
  · cases hv; exact ⟨_, hs _, by simp⟩
  · cases hv; exact ⟨_, hs _, by simp⟩
  · rename_i c a b
    have hc := hs c
    split at hv
    · rename_i p hp
      rw [hp] at hc
      have := hc.bool_inv
      split at hv
      · rename_i h1; cases hv; exact ⟨_, hs a, by simp [this, asBool, h1]⟩
      · rename_i h1; cases hv; exact ⟨_, hs b, by simp [this, asBool, h1]⟩
    · cases hv
  · rename_i x
    have hx := hs x
    split at hv
    · rename_i i o p hp
      cases hv
      rw [hp] at hx
      obtain ⟨b, hb, _⟩ := hx.ptr_inv
      exact ⟨_, hx, by simp [hb]⟩
    · rename_i y hp
      cases hv
      rw [hp] at hx
      refine ⟨_, hx, ?_⟩
      obtain ⟨a, hu⟩ : ∃ a, ρ x = .pointer (some a) := by
        generalize ρ x = u at hx
        cases hx
        exact ⟨_, rfl⟩
      simp [hu]
    · rename_i f cs hp
      cases hv
      rw [hp] at hx
      refine ⟨_, hx, ?_⟩
      obtain ⟨f', pv, vs, hu⟩ : ∃ f' pv vs, ρ x = .func (.func f') pv vs := by
        generalize ρ x = u at hx
        cases hx
        rename_i vs0
        by_cases hf : f < 1000000
        · exact ⟨_, _, _, fnV_lt hf⟩
        · exact ⟨_, _, _, fnV_ge hf⟩
      simp [hu]
    · rename_i f hp
      cases hv
      rw [hp] at hx
      have h1 := hx.t_inv
      refine ⟨_, hx, ?_⟩
      have hu : ρ x = .func (.func f) #[] #[] := by
        generalize ρ x = u at h1
        cases h1
        rfl
      simp [hu]
    · cases hv
  · rename_i op t x y _
    obtain ⟨val, h1, h2⟩ := run_aBin (P := P) (w := w) (x := x) (y := y) hE hv (hs x) (hs y)
    refine ⟨val, h1, ?_⟩
    simp only [Sem.run_bind, h2, Result.andThen_ok, Sem.run_pure]
  · rename_i op _ x
    obtain ⟨val, h1, h2⟩ := aUn_ok (P := P) (w := w) (hs x) hv
    exact ⟨val, h1, by simp [h2]⟩
  · rename_i src dst x
    obtain ⟨val, h1, h2⟩ := aConv_ok hE h (hs x) hv
    exact ⟨val, h1, by simp [h2]⟩
  · rename_i t x lo hi
    obtain ⟨val, h1, h2⟩ := aSlice_ok hE h hs hv
    refine ⟨val, h1, ?_⟩
    simp only [Sem.run_bind, Option.map_none, h2, Result.andThen_ok, Sem.run_pure]
  · rename_i t x i
    obtain ⟨val, h1, h2⟩ := aIndexAddr_ok hE h (hs x) (hs i) hv
    exact ⟨val, h1, by simp [h2]⟩
  · rename_i t a
    obtain ⟨val, h1, h2⟩ := aLoad_ok hE h (hs a) hv
    exact ⟨val, h1, by simp [h2]⟩
  · rename_i t x f
    obtain ⟨val, h1, h2⟩ := aFieldAddr_ok (w := w) hE (hs x) hv
    exact ⟨val, h1, by simp [h2]⟩
  · rename_i x i
    have hx := hs x
    split at hv
    · rename_i xs hp
      rw [hp] at hx
      obtain ⟨vs, hu, ha, hr⟩ : ∃ vs, ρ x = .tuple vs ∧ vs.size = xs.length ∧ ∀ (i : Nat) (c : AV), xs[i]? = some c → RelA m c (vs.getD i undef) := by
        generalize ρ x = u at hx
        cases hx
        exact ⟨_, rfl, by assumption, by assumption⟩
      have hlt := (List.getElem?_eq_some_iff.1 hv).1
      refine ⟨_, hr i v hv, ?_⟩
      have : i < vs.size := by omega
      simp [Instr.extract, hu, this]
    · cases hv
  · rename_i c
    obtain ⟨callee, args, argTypes⟩ := c
    simp only at hv
    split at hv
    · rename_i x t he2 he3
      obtain rfl : args = #[x] := by cases args; simp_all
      obtain rfl : argTypes = #[t] := by cases argTypes; simp_all
      have hx := hs x
      split at hv
      · rename_i e ht
        have d := (hE.ty ht (by simp)).1
        simp only [DescOk] at d
        split at hv
        · cases hv
        · rename_i v' hne
          simp only [Option.map_eq_some_iff] at hv
          obtain ⟨n, hn, rfl⟩ := hv
          rcases alen_ok h hx hn with ⟨a, cap, hu, h1, h2, _⟩ | ⟨l, hl, _⟩
          · refine ⟨.int .i64 n, .t (.int ?_), ?_⟩
            · unfold maxLen at h2; simp [inK, IntKind.min, IntKind.max, IntKind.signed, IntKind.bits]; omega
            · simp [resolve, invoke, builtin, Builtin.len_, run_underlying d, hu, goInt]
          · exact (hne l hl).elim
      · rename_i ht
        have d := (hE.ty ht (by simp)).1
        simp only [DescOk] at d
        split at hv
        · rename_i l hl
          cases hv
          rw [hl] at hx
          obtain ⟨hu, hm⟩ := hx.str_inv
          refine ⟨.int .i64 l.length, .t (.int ?_), ?_⟩
          · unfold maxLen at hm; simp [inK, IntKind.min, IntKind.max, IntKind.signed, IntKind.bits]; omega
          · have hsz : (⟨l.toArray⟩ : ByteArray).size = l.length := rfl
            simp [resolve, invoke, builtin, Builtin.len_, run_underlying d, hu, goInt, hsz]
        · cases hv
      · cases hv
    · rename_i x r he2
      obtain rfl : args = (x :: r).toArray := by cases args; simp_all
      have hx := hs x
      split at hv
      · rename_i k n hk
        rw [hk] at hx
        obtain ⟨val, h1, h2⟩ := aMins_ok (P := P) (w := w) false (r.map (ev s)) _ _ (r.map ρ) v hx (by simp) (by
          intro i c hi
          simp only [List.getElem?_map, Option.map_eq_some_iff] at hi ⊢
          obtain ⟨y, hy, rfl⟩ := hi
          exact ⟨_, ⟨y, hy, rfl⟩, hs y⟩) hv
        exact ⟨val, h1, by simp [resolve, invoke, builtin, Builtin.min_] at h2 ⊢; simp [h2]⟩
      · cases hv
    · rename_i x r he2
      obtain rfl : args = (x :: r).toArray := by cases args; simp_all
      have hx := hs x
      split at hv
      · rename_i k n hk
        rw [hk] at hx
        obtain ⟨val, h1, h2⟩ := aMins_ok (P := P) (w := w) true (r.map (ev s)) _ _ (r.map ρ) v hx (by simp) (by
          intro i c hi
          simp only [List.getElem?_map, Option.map_eq_some_iff] at hi ⊢
          obtain ⟨y, hy, rfl⟩ := hi
          exact ⟨_, ⟨y, hy, rfl⟩, hs y⟩) hv
        exact ⟨val, h1, by simp [resolve, invoke, builtin, Builtin.max_] at h2 ⊢; simp [h2]⟩
      · cases hv
    · cases hv
  · cases hv

end Go.Fw

end
