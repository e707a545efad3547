/- The abstract machine, and the contracts of the code: part 47. -/
import Derived.Lib.UnsafeStr
import Derived.Laws.Externs
import Derived.Lib.Overlaps
import Derived.Laws.IdiomCopy
import Derived.Test.YthhpapbokodpdaaFwT

section
/- Bytes compared by the machine's own entry: a region that calls it. -/
namespace Go.Fw
set_option linter.unusedVariables false
set_option linter.unusedSimpArgs false
open Go

/-- How two rows of bytes stand to one another: -1, 0, 1. -/
def cmpL : List UInt8 → List UInt8 → Int
  | [], [] => 0
  | [], _ :: _ => -1
  | _ :: _, [] => 1
  | x :: a, y :: b => if x = y then cmpL a b else if x < y then -1 else 1

theorem cmp_eq (a b : List UInt8) : Extern.BytealgCompare.cmp ⟨a.toArray⟩ ⟨b.toArray⟩ = cmpL a b := by
  have get : ∀ (l : List UInt8) (i : Nat), (⟨l.toArray⟩ : ByteArray)[i]! = l.getD i default := by
    intro l i
    rw [getElem!_def]
    by_cases h : i < l.length
    · have : (⟨l.toArray⟩ : ByteArray)[i]? = some l[i] := by
        rw [getElem?_pos (⟨l.toArray⟩ : ByteArray) i (by simpa [ByteArray.size] using h)]
        rfl
      rw [this]
      simp [List.getD_eq_getElem?_getD, h]
    · have : (⟨l.toArray⟩ : ByteArray)[i]? = none := by
        rw [getElem?_neg (⟨l.toArray⟩ : ByteArray) i (by simpa [ByteArray.size] using h)]
      rw [this]
      simp [List.getD_eq_getElem?_getD, List.getElem?_eq_none (show l.length ≤ i by omega)]
  unfold Extern.BytealgCompare.cmp
  simp only [get]
  have hsz : ∀ l : List UInt8, (⟨l.toArray⟩ : ByteArray).size = l.length := fun l => by simp [ByteArray.size]
  simp only [hsz]
  induction a generalizing b with
  | nil =>
    cases b with
    | nil => rfl
    | cons y b => simp [cmpL]
  | cons x a ih =>
    cases b with
    | nil => simp [cmpL]
    | cons y b =>
      have := ih b
      simp only [List.length_cons, cmpL]
      rw [show min (a.length + 1) (b.length + 1) = min a.length b.length + 1 by omega, List.range_succ_eq_map, List.find?_cons]
      by_cases hxy : x = y
      · subst hxy
        simp only [List.getD_cons_zero, bne_self_eq_false, if_true]
        rw [← this, List.find?_map]
        simp only [Function.comp_def, List.getD_cons_succ]
        cases (List.range (min a.length b.length)).find? fun i => a.getD i default != b.getD i default with
        | none => simp
        | some i => simp
      · have hne : (x != y) = true := by simpa using hxy
        simp only [List.getD_cons_zero, hne, if_neg hxy]

theorem run_loadB {P : Program} {w : World} : ∀ (l : List UInt8) (b off : Nat) (acc : ByteArray), (∀ j x, l[j]? = some x → w.cell? ⟨b, off + j, none⟩ = some (vu8 x)) →
    (Extern.Bytes.loadBytes ⟨b, off, none⟩ l.length acc).run P w = .ok ⟨acc.data ++ l.toArray⟩ w
  | [], b, off, acc, _ => by simp [Extern.Bytes.loadBytes]
  | x :: l, b, off, acc, h => by
    have h0 := h 0 x rfl
    rw [Nat.add_zero] at h0
    have ih := run_loadB (P := P) l b (off + 1) (acc.push x) (fun j y hy => by
      have := h (j + 1) y (by simpa using hy)
      rw [show off + 1 + j = off + (j + 1) by omega]
      exact this)
    have hx : ((x.toNat : Int).toNat).toUInt8 = x := by simp
    have he : (⟨b, off, none⟩ : Addr).add 1 = ⟨b, off + 1, none⟩ := by simp [Addr.add]
    simp only [List.length_cons, Extern.Bytes.loadBytes, Sem.run_bind, run_load, h0, Result.andThen, vu8, hx, he]
    rw [ih]
    congr 1
    apply ByteArray.ext
    simp
theorem RelT.bytesOf {P : Program} {w : World} {l : List UInt8} {u : Value} (h : RelT (snap w) (.by l) u) : (Extern.Bytes.bytesOf u).run P w = .ok ⟨l.toArray⟩ w := by
  cases h with
  | byn =>
    rename_i a
    cases a with
    | none => rfl
    | some a => rfl
  | «by» hM hl hm hc =>
    rename_i b off cap cur ty fr
    have hM' : w.heap[b]? = some (.cells cur ty fr) := hM
    have := run_loadB (P := P) (w := w) l b off .empty (fun j x hj => by
      rw [cell_at hM']
      exact hc j x hj)
    simp only [Extern.Bytes.bytesOf]
    rw [this]
    congr 1
    apply ByteArray.ext
    simp

/-- A function that compares bytes. -/
structure CmpFn (P : Program) (f : FuncId) : Prop where
  fn : ∃ fn, P.funcs[f]? = some fn ∧ (fn.name == "runtime.NumGoroutine") = false ∧ fn.body.isNone = true ∧ Extern.findNext fn = none ∧ Extern.find fn = some Extern.BytealgCompare.compare

/-- A region in which bytes are compared. -/
theorem AWP.gcmp {kp : Nat} {P : Program} {E : Env} {q : List TypeId} (hX : XOk P E q) {gl : GCalls} (hcl : GClOk P gl) (keep : List Nat) {N id d i j : Nat} {f : FuncId} {l l2 : List Oper} {o : Oper} {tys : Array TypeId} {x y : List UInt8} {Q : Exit → AS → Prop} {S S1 S3 : AS}
    (hf : CmpFn P f) (hop : o.op = .call { callee := .value (.func f), args := #[.tmp i, .tmp j], argTypes := tys }) (hd : o.dst = some d) (hdN : d < N)
    (h : gops E q gl N (l ++ (o :: l2)) l S = some S1) (hw : wantA (l ++ (o :: l2)) S1.s o = some true) (hi : lk i S1.s = .t (.by x)) (hj : lk j S1.s = .t (.by y))
    (h2 : gops E q gl N (l ++ (o :: l2)) l2 ⟨(d, .t (.int .i64 (cmpL x y))) :: S1.s, S1.H⟩ = some S3) (hQ : Q .normal ⟨prune keep S3.s, S3.H⟩) : AWP kp P N (.region id (l ++ (o :: l2)).toArray false) Q S := by
  intro c hc m w a hi0 hs
  refine wp_region_list ?_
  have e1 : (l ++ (o :: l2)).toArray.toList = l ++ (o :: l2) := by simp
  rw [e1]
  refine gops_then hX hcl (o :: l2) l S S1 m w a (by rw [e1]; exact h) hi0 hs fun m' w' a' k1 k2 => ?_
  have hw' := wantA_ok (ops := (l ++ (o :: l2)).toArray) k2 (by rw [e1]; exact hw)
  unfold wpList
  rw [if_pos hw']
  refine .inl ?_
  have r1 := k2.2.2 i
  rw [hi] at r1
  have r2 := k2.2.2 j
  rw [hj] at r2
  have b1 := (r1.t_inv.mono k1.imm).bytesOf (P := P)
  have b2 := (r2.t_inv.mono k1.imm).bytesOf (P := P)
  obtain ⟨fn, f1, f2, f3, f4, f5⟩ := hf.fn
  have hexec : (execOp a'.eval o).run P w' = .ok (.value (.int .i64 (cmpL x y))) w' := by
    simp only [execOp, hop]
    have ev0 : a'.eval (.func f) = .func (.func f) #[] #[] := rfl
    have ev1 : a'.eval (.tmp i) = a'.tmps.getD i undef := rfl
    have ev2 : a'.eval (.tmp j) = a'.tmps.getD j undef := rfl
    simp only [resolve, List.map_toArray, List.map_cons, List.map_nil, ev0, ev1, ev2, Deferred.ofValue, Sem.run_bind, Sem.run_pure, Result.andThen_ok, invoke]
    rw [run_callFunc_extern f1 f2 f3 f4 f5]
    have hc : (Extern.BytealgCompare.compare #[a'.tmps.getD i undef, a'.tmps.getD j undef]).run P w' = .ok (.int .i64 (cmpL x y)) w' := by
      change Sem.run P (do
        let x ← Extern.Bytes.bytesOf (a'.tmps.getD i undef)
        let y ← Extern.Bytes.bytesOf (a'.tmps.getD j undef)
        pure (goInt (Extern.BytealgCompare.cmp x y))) w' = _
      simp only [Sem.run_bind, b1, b2, Result.andThen_ok, Sem.run_pure, cmp_eq]
      rfl
    have ha : (#[] ++ #[a'.tmps.getD i undef, a'.tmps.getD j undef] ++ #[] : Array Value) = #[a'.tmps.getD i undef, a'.tmps.getD j undef] := by simp
    rw [ha, hc]
    rfl
  unfold Oper.wp
  rw [hexec]
  show wpList P (l ++ (o :: l2)).toArray (APost c N Q) l2 (a'.put o.dst (.int .i64 (cmpL x y))) w'
  have hk : inK .i64 (cmpL x y) := by
    have : -1 ≤ cmpL x y ∧ cmpL x y ≤ 1 := by
      clear hi hj h2 b1 b2 hexec r1 r2
      induction x generalizing y with
      | nil => cases y <;> simp [cmpL]
      | cons u x ih =>
        cases y with
        | nil => simp [cmpL]
        | cons v y =>
          unfold cmpL
          split
          · exact ih
          · split <;> omega
    exact ⟨by show (-9223372036854775808 : Int) ≤ _; omega, by show _ ≤ (9223372036854775807 : Int); omega⟩
  have hp : aputs N o (.t (.int .i64 (cmpL x y))) S1.s = some ((d, .t (.int .i64 (cmpL x y))) :: S1.s) := by simp only [aputs, hd]; rw [if_pos hdN]
  have := gops_then (ops := (l ++ (o :: l2)).toArray) (Q := APost c N Q) hX hcl [] l2 ⟨(d, .t (.int .i64 (cmpL x y))) :: S1.s, S1.H⟩ S3 m' w' (a'.put o.dst (.int .i64 (cmpL x y))) (by rw [e1]; exact h2) k1 (k2.puts (.t (.int hk)) hp) fun m2 w2 a2 g1 g2 => by
    refine wpList_nil ?_
    exact ⟨m2, ⟨prune keep S3.s, S3.H⟩, g1, g2.prune keep, hQ⟩
  rw [List.append_nil] at this
  exact this

end Go.Fw

end

section
/- Any order of a region: the rule, also where two operations write no slot. -/
namespace Go.Fw
set_option linter.unusedVariables false
set_option linter.unusedSimpArgs false
open Go

def depOk2 (ops : List Oper) : Bool :=
  (List.range ops.length).all fun j => match ops[j]? with
    | none => true
    | some o => (aft o).all (fun i => decide (i < j)) &&
      (List.range ops.length).all fun i => match ops[i]? with
        | none => true
        | some p => (decide (i = j) || decide (p.dst ≠ o.dst) || p.dst.isNone) &&
          (match p.dst with
            | none => true
            | some d => !((o.looksAt ops.toArray).contains d) || (decide (i < j) && (aft o).contains i) || (decide (j < i) && (aft p).contains j))

theorem depOk2_ok {ops : List Oper} (h : depOk2 ops = true) : DepOk ops := by
  simp only [depOk2, List.all_eq_true, List.mem_range] at h
  have get : ∀ (j : Nat) (o : Oper), ops[j]? = some o → j < ops.length := fun j o hj => (List.getElem?_eq_some_iff.1 hj).1
  refine ⟨fun j o i hj hi => ?_, fun i j p o d hi hj hp ho => ?_, fun i j p o d hi hj hp hd => ?_⟩
  · have := h j (get j o hj)
    rw [hj] at this
    simp only [Bool.and_eq_true, List.all_eq_true] at this
    simpa using this.1 i hi
  · have := h j (get j o hj)
    rw [hj] at this
    simp only [Bool.and_eq_true, List.all_eq_true, List.mem_range] at this
    have := this.2 i (get i p hi)
    rw [hi] at this
    simp only [Bool.and_eq_true, Bool.or_eq_true, decide_eq_true_eq] at this
    rcases this.1 with (h1 | h1) | h1
    · exact h1
    · exact (h1 (by rw [hp, ho])).elim
    · rw [hp] at h1; simp at h1
  · have := h j (get j o hj)
    rw [hj] at this
    simp only [Bool.and_eq_true, List.all_eq_true, List.mem_range] at this
    have := this.2 i (get i p hi)
    rw [hi] at this
    simp only [Bool.and_eq_true, hp] at this
    have h2 := this.2
    have hc : (o.looksAt ops.toArray).contains d = true := by simpa using hd
    rw [hc] at h2
    simp at h2
    rcases h2 with h2 | h2
    · exact .inl h2
    · exact .inr h2

def dOk2 (ops : List Oper) (fs : List Info) : Bool :=
  depOk2 ops && (fs.length == ops.length) && ((List.range ops.length).all fun j => match ops[j]?, fs[j]? with
    | some o, some f => f.looks.all (fun t => (o.looksAt ops.toArray).contains t) &&
      f.anc.all (fun a => (aft o).contains a || (aft o).any fun b => match fs[b]? with | some g => g.anc.contains a | none => false) &&
      (f.cls != 2 || (List.range ops.length).all fun k => (k == j) || match fs[k]? with
        | some g => (g.cls == 0) || (if k < j then f.anc.contains k else g.anc.contains j)
        | none => true) && decide (f.cls ≤ 2)
    | _, _ => false) && fs.all fun f => (f.cls != 0) || f.st.all fun i => fs.all fun g => (g.cls != 2) || g.st.contains i

theorem dOk2_ok {ops : List Oper} {fs : List Info} (h : dOk2 ops fs = true) : DOk ops fs := by
  unfold dOk2 at h
  rw [Bool.and_eq_true] at h
  obtain ⟨h, h5⟩ := h
  simp only [Bool.and_eq_true, beq_iff_eq, List.all_eq_true, List.mem_range] at h
  obtain ⟨⟨h1, h2⟩, h3⟩ := h
  have get : ∀ (j : Nat) (f : Info), fs[j]? = some f → j < ops.length := fun j f hj => by have := (List.getElem?_eq_some_iff.1 hj).1; omega
  have each : ∀ (j : Nat) (o : Oper) (f : Info), ops[j]? = some o → fs[j]? = some f → (((∀ t ∈ f.looks, (o.looksAt ops.toArray).contains t = true) ∧ (∀ a ∈ f.anc, ((aft o).contains a || (aft o).any fun b => match fs[b]? with | some g => g.anc.contains a | none => false) = true)) ∧
      (f.cls != 2 || (List.range ops.length).all fun k => (k == j) || match fs[k]? with
        | some g => (g.cls == 0) || (if k < j then f.anc.contains k else g.anc.contains j)
        | none => true) = true) ∧ f.cls ≤ 2 := by
    intro j o f ho hf
    have := h3 j (get j f hf)
    rw [ho, hf] at this
    simp only [Bool.and_eq_true, List.all_eq_true, decide_eq_true_eq] at this
    exact this
  refine ⟨depOk2_ok h1, h2, fun j o f ho hf t ht => ?_, fun j o f ho hf a ha => ?_, fun j f hf hc k g hg hg0 hkj => ?_, fun j f hj => ?_, fun j f hf hc i hi k g hg hgc => ?_⟩
  · have := (each j o f ho hf).1.1.1 t ht
    simpa using this
  · have := (each j o f ho hf).1.1.2 a ha
    simp only [Bool.or_eq_true, List.any_eq_true] at this
    rcases this with h | ⟨b, hb, h⟩
    · exact .inl (by simpa using h)
    · right
      cases hg : fs[b]? with
      | none => rw [hg] at h; simp at h
      | some g => rw [hg] at h; exact ⟨b, hb, g, hg, by simpa using h⟩
  · have hlt := get j f hf
    have := (each j _ f (List.getElem?_eq_getElem hlt) hf).1.2
    simp only [Bool.or_eq_true, bne_iff_ne, ne_eq, List.all_eq_true, List.mem_range, beq_iff_eq] at this
    rcases this with h | h
    · exact (h hc).elim
    · have h4 := h k (get k g hg)
      rcases h4 with h4 | h4
      · exact (hkj h4).elim
      · rw [hg] at h4
        simp only [Bool.or_eq_true, beq_iff_eq] at h4
        rcases h4 with h4 | h4
        · exact (hg0 h4).elim
        · split at h4
          · rename_i hlt'; exact .inl ⟨hlt', by simpa using h4⟩
          · exact .inr ⟨by omega, by simpa using h4⟩
  · have hlt := get j f hj
    exact (each j _ f (List.getElem?_eq_getElem hlt) hj).2
  · have h6 := List.all_eq_true.1 h5 f (List.mem_of_getElem? hf)
    rw [hc] at h6
    simp only [bne_self_eq_false, Bool.false_or] at h6
    have h7 := List.all_eq_true.1 (List.all_eq_true.1 h6 i hi) g (List.mem_of_getElem? hg)
    rw [hgc] at h7
    simpa using h7

section
variable {P : Program} {E : Env} {q : List TypeId} {gl : GCalls} {N : Nat} {ops : List Oper} {fs : List Info} {s0 sN : Slots} {H0 HN : List Blk}
theorem AWP.gdraw2 {kp : Nat} (hX : XOk P E q) (hcl : GClOk P gl) (keep : List Nat) (hmix : P.follows .mixedOrders = true) {id : Nat} {l : List Oper} (fs : List Info) (hdep : dOk2 l fs = true) {Q : Exit → AS → Prop} {S S' : AS}
    (h : drunP E q gl N keep l fs S = some S') (hQ : Q .normal S') : AWP kp P N (.region id l.toArray true) Q S := by
  unfold drunP at h
  split at h
  case h_2 => cases h
  rename_i S1 hq
  cases h
  have hd := dOk2_ok hdep
  obtain ⟨T⟩ := dt_of hd.len (sN := S1.s) (HN := S1.H) hq
  intro c hc m w a hi hs
  refine wp_region_any hmix ?_
  have hcount : countF (Array.replicate l.toArray.size false) = l.toArray.size := by simp [countF]
  have hfalse : ∀ k, (Array.replicate l.toArray.size false).getD k false = false := by
    intro k
    rw [Array.getD_eq_getD_getElem?, Array.getElem?_replicate]
    split <;> rfl
  obtain ⟨τ, t1, t2, t3, t4⟩ := next_turn fs l.length 0 (by omega)
  have hstill : ∀ k g, 0 ≤ k → k < τ → fs[k]? = some g → g.cls ≤ 1 := fun k g h1 h2 h3 => by
    have := hd.top k g h3; have := t3 k g h1 h2 h3; omega
  obtain ⟨R, hR⟩ := T.prefix_ hd 0 τ t2 t1 hstill
  have h00 : T.hp 0 = S.H := T.zero.2
  rw [h00] at hR
  obtain ⟨m2, e2, i2⟩ := hi.drawn.pad R.length
  have hck : c.k ≤ S.H.length := by
    rcases Nat.eq_zero_or_pos c.k with h0 | h0
    · omega
    · have := (hi.keep (c.k - 1) (by omega)).1; rw [hi.len] at this; omega
  refine d_order hX hcl hck T hd (fun t k hk => ?_) (fun m' w' a' h1 h2 => ⟨m', ⟨prune keep S1.s, S1.H⟩, h1, h2.prune keep, hQ⟩) _ _ a _ m2 0 τ _ (by simp) hcount ?_ i2 ?_ hs.1 hs.2.1 ?_ ?_
  · have := (hs.2.2 t).idxs_lt k hk
    rw [hi.len] at this; exact this
  · intro j o hj hl i _
    rw [hfalse] at hl; cases hl
  · refine ⟨t1, t2, fun k g _ _ hk => by omega, fun k g _ _ _ => hfalse k, hstill, t4, by rw [hR]; simp, fun i hi' => ?_, fun k i hk1 hk2 hi1 hi2 => ?_, fun i B hi' hB k hk => ?_⟩
    · rw [h00] at hi'
      rw [hR, List.getElem?_append_left hi', List.getElem?_append_left hi']
    · have g1 := T.mono hd 0 k (by omega) (by omega)
      have g2 := T.mono hd (k + 1) τ (by omega) t2
      rw [h00] at g1
      have g3 : (T.hp τ).length = S.H.length + R.length := by rw [hR]; simp
      rw [if_neg (by rw [hfalse]; simp), List.getElem?_append_right (by omega), List.getElem?_replicate, if_pos (by omega)]
    · rw [h00] at hB ⊢
      have := hi.blk_lt hB k hk
      rw [hi.len] at this; exact this
  · intro i o d hj hl _
    rw [hfalse] at hl; cases hl
  · intro t _
    exact (hs.2.2 t).mono e2

end
end Go.Fw

end

section
/- Numbers, sizes, strings and lists as bytes: plain laws. -/
namespace Go.Fw
open Go
set_option linter.unusedVariables false
set_option linter.unusedSimpArgs false

/-- A number, shifted right by so many bytes. -/
def shrB : Nat → Int → Int
  | 0, x => x
  | k + 1, x => (shrB k x).fdiv 256

/-- The lowest so many bytes of a number. -/
def le : Nat → Int → List UInt8
  | 0, _ => []
  | k + 1, x => le k x ++ [UInt8.ofNat (IntKind.u8.wrap (shrB k x)).toNat]

theorem le_len (k : Nat) (x : Int) : (le k x).length = k := by
  induction k with
  | zero => rfl
  | succ k ih => simp [le, ih]

theorem shrB_range (k : Nat) (x : Int) (h0 : 0 ≤ x) (h1 : x ≤ 18446744073709551615) : 0 ≤ shrB k x ∧ shrB k x ≤ 18446744073709551615 := by
  induction k with
  | zero => exact ⟨h0, h1⟩
  | succ k ih =>
    simp only [shrB]
    rw [Int.fdiv_eq_ediv_of_nonneg _ (by omega)]
    omega

theorem inK_u8 {n : Int} (h : inK .u8 n) : 0 ≤ n ∧ n ≤ 255 := by simpa [inK, IntKind.min, IntKind.max, IntKind.signed, IntKind.bits] using h

theorem inK_u16 {n : Int} (h : inK .u16 n) : 0 ≤ n ∧ n ≤ 65535 := by simpa [inK, IntKind.min, IntKind.max, IntKind.signed, IntKind.bits] using h

theorem inK_u32 {n : Int} (h : inK .u32 n) : 0 ≤ n ∧ n ≤ 4294967295 := by simpa [inK, IntKind.min, IntKind.max, IntKind.signed, IntKind.bits] using h

theorem inK_u64 {n : Int} (h : inK .u64 n) : 0 ≤ n ∧ n ≤ 18446744073709551615 := by simpa [inK, IntKind.min, IntKind.max, IntKind.signed, IntKind.bits] using h

theorem inK_i64 {n : Int} (h : inK .i64 n) : -9223372036854775808 ≤ n ∧ n ≤ 9223372036854775807 := by simpa [inK, IntKind.min, IntKind.max, IntKind.signed, IntKind.bits] using h

theorem wrap_u8 {n : Int} (h1 : 0 ≤ n) (h2 : n ≤ 255) : IntKind.u8.wrap n = n := by simp only [IntKind.wrap, IntKind.signed, IntKind.bits]; simp; omega

theorem wrap_u16 {n : Int} (h1 : 0 ≤ n) (h2 : n ≤ 65535) : IntKind.u16.wrap n = n := by simp only [IntKind.wrap, IntKind.signed, IntKind.bits]; simp; omega

theorem wrap_u32 {n : Int} (h1 : 0 ≤ n) (h2 : n ≤ 4294967295) : IntKind.u32.wrap n = n := by simp only [IntKind.wrap, IntKind.signed, IntKind.bits]; simp; omega

/-- A size, as bytes. -/
def sizeB (n : Int) : List UInt8 :=
  if n < 253 then le 1 n else if n < 65536 then le 1 253 ++ le 2 n else if n < 4294967296 then le 1 254 ++ le 4 n else le 1 255 ++ le 8 n

theorem sizeB_len (n : Int) : (sizeB n).length ≤ 9 := by
  unfold sizeB
  split
  · simp [le_len]
  · split
    · simp [le_len]
    · split <;> simp [le_len]

/-- The strings of a list, each behind its size. -/
def flat : List (List UInt8) → List UInt8
  | [] => []
  | x :: l => sizeB x.length ++ x ++ flat l

theorem flat_snoc (l : List (List UInt8)) (x : List UInt8) : flat (l ++ [x]) = flat l ++ (sizeB x.length ++ x) := by
  induction l with
  | nil => simp [flat]
  | cons y l ih => simp [flat, ih]

def strs (l : List (List UInt8)) : T := .sq 1 (l.map .by)

def asBys : List T → Option (List (List UInt8))
  | [] => some []
  | .by l :: r => match asBys r with
    | some ls => some (l :: ls)
    | none => none
  | _ => none

theorem asBys_map (l : List (List UInt8)) : asBys (l.map .by) = some l := by
  induction l with
  | nil => rfl
  | cons x l ih => simp [asBys, ih]

theorem asBys_inv {xs : List T} {l : List (List UInt8)} (h : asBys xs = some l) : xs = l.map .by := by
  induction xs generalizing l with
  | nil => cases h; rfl
  | cons x xs ih =>
    unfold asBys at h
    split at h
    · rename_i heq; cases heq
    · rename_i y r heq
      cases heq
      split at h
      · rename_i ls hls; cases h; simp [ih hls]
      · cases h
    · cases h

theorem flat_take_len (l : List (List UInt8)) (k : Nat) : (flat (l.take k)).length ≤ (flat l).length := by
  induction l generalizing k with
  | nil => simp [flat]
  | cons x l ih =>
    cases k with
    | zero => simp [flat]
    | succ k => simp only [List.take_succ_cons, flat, List.length_append]; have := ih k; omega

theorem take_getD (l : List (List UInt8)) (k : Nat) (h : k < l.length) : l.take (k + 1) = l.take k ++ [l.getD k []] := by
  rw [List.take_succ_eq_append_getElem h]; simp [h]

theorem flat_take (l : List (List UInt8)) (k : Nat) (h : k < l.length) : flat (l.take (k + 1)) = flat (l.take k) ++ (sizeB (l.getD k []).length ++ l.getD k []) := by
  rw [take_getD l k h, flat_snoc]

theorem map_getD (l : List (List UInt8)) (k : Nat) (h : k < l.length) : (l.map T.by).getD k default = .by (l.getD k []) := by simp [h]

theorem flat_get_len (l : List (List UInt8)) (k : Nat) (h : k < l.length) : (flat (l.take k)).length + (l.getD k []).length ≤ (flat l).length := by
  have h1 := flat_take_len l (k + 1)
  rw [flat_take l k h] at h1
  simp only [List.length_append] at h1
  omega

theorem len_le_flat (l : List (List UInt8)) : l.length ≤ (flat l).length := by
  induction l with
  | nil => simp
  | cons x l ih =>
    have : 1 ≤ (sizeB x.length).length := by
      unfold sizeB
      split
      · simp [le_len]
      · split
        · simp [le_len]
        · split <;> simp [le_len]
    simp only [List.length_cons, flat, List.length_append]; omega

theorem tdiv_256 {n : Int} (h : 0 ≤ n) : n.tdiv 256 = n.fdiv 256 := by
  rw [Int.tdiv_eq_ediv_of_nonneg h, Int.fdiv_eq_ediv_of_nonneg _ (by omega)]

/-- How a cut ends, what it takes, what it leaves. -/
def spE (b : List UInt8) (n : Int) : Int := if n < 0 then 1 else if (b.length : Int) < n then 2 else 0

def spA (b : List UInt8) (n : Int) : List UInt8 := if n < 0 then [] else if (b.length : Int) < n then [] else b.take n.toNat

def spB (b : List UInt8) (n : Int) : List UInt8 := if n < 0 then [] else if (b.length : Int) < n then [] else b.drop n.toNat

theorem spA_len (b : List UInt8) (n : Int) : (spA b n).length ≤ b.length := by unfold spA; split <;> (try split) <;> simp <;> omega

theorem spB_len (b : List UInt8) (n : Int) : (spB b n).length ≤ b.length := by unfold spB; split <;> (try split) <;> simp

theorem spA_le (b : List UInt8) (n : Int) (m : Nat) (h : n ≤ m) : (spA b n).length ≤ m := by unfold spA; split <;> (try split) <;> simp <;> omega

/-- The number that bytes stand for, the lowest first. -/
def num : List UInt8 → Nat
  | [] => 0
  | c :: l => c.toNat + 256 * num l

theorem num_lt (l : List UInt8) : num l < 256 ^ l.length := by
  induction l with
  | nil => simp [num]
  | cons c l ih =>
    have hc : c.toNat < 256 := c.toNat_lt
    simp only [num, List.length_cons, Nat.pow_succ]
    omega

theorem num_lt8 (l : List UInt8) (h : l.length ≤ 8) : num l ≤ 18446744073709551615 := by
  have h1 := num_lt l
  have h2 : 256 ^ l.length ≤ 256 ^ 8 := Nat.pow_le_pow_right (by omega) h
  have h3 : (256 : Nat) ^ 8 = 18446744073709551616 := by decide
  omega

theorem num_snoc (l : List UInt8) (c : UInt8) : num (l ++ [c]) = num l + c.toNat * 256 ^ l.length := by
  induction l with
  | nil => simp [num]
  | cons d l ih => simp only [List.cons_append, num, ih, List.length_cons, Nat.pow_succ, Nat.mul_add]; rw [Nat.mul_left_comm, Nat.mul_comm 256 (256 ^ l.length)]; omega

theorem num_drop (l : List UInt8) (k : Nat) (h : k < l.length) : num (l.drop k) = (l.getD k 0).toNat + 256 * num (l.drop (k + 1)) := by
  rw [List.drop_eq_getElem_cons h]; simp [num, h]

theorem num_take (l : List UInt8) (k : Nat) (h : k < l.length) : num (l.take (k + 1)) = num (l.take k) + (l.getD k 0).toNat * 256 ^ k := by
  rw [List.take_succ_eq_append_getElem h, num_snoc]; simp [h]; rw [Nat.min_eq_left (by omega)]

theorem pow256 (k : Nat) : (256 : Nat) ^ k = 2 ^ (8 * k) := by rw [Nat.pow_mul]

theorem or_step (a c k : Nat) (ha : a < 256 ^ k) (hs : a + c * 256 ^ k < 18446744073709551616) : arith .or .u64 (a : Int) ((c * 256 ^ k : Nat) : Int) = some (.int .u64 ((a + c * 256 ^ k : Nat) : Int)) := by
  simp only [arith, abits, IntKind.bits]
  have h1 : ((a : Int) % 2 ^ 64).toNat = a := by omega
  have h2 : (((c * 256 ^ k : Nat) : Int) % 2 ^ 64).toNat = c * 256 ^ k := by omega
  rw [h1, h2]
  have h3 : a ||| c * 256 ^ k = a + c * 256 ^ k := by
    have := Nat.two_pow_add_eq_or_of_lt (i := 8 * k) (b := a) (by rw [← pow256]; exact ha) c
    rw [Nat.or_comm, pow256, Nat.mul_comm c, ← this]; omega
  rw [h3, wrap_u64 (by omega) (by omega)]

theorem shl_step (c k : Nat) (hk : k ≤ 8) (hs : c * 256 ^ k < 18446744073709551616) : arith .shl .u64 (c : Int) ((8 * k : Nat) : Int) = some (.int .u64 ((c * 256 ^ k : Nat) : Int)) := by
  simp only [arith, IntKind.bits]
  rw [if_neg (by omega)]
  have h1 : min ((8 * k : Nat) : Int).toNat 64 = 8 * k := by omega
  have h2 : (c : Int) * 2 ^ (8 * k) = ((c * 256 ^ k : Nat) : Int) := by rw [pow256]; push_cast; rfl
  rw [h1, h2, wrap_u64 (by omega) (by omega)]

theorem mul_step (k : Nat) (hk : k ≤ 8) : arith .mul .i64 8 (k : Int) = some (.int .i64 ((8 * k : Nat) : Int)) := by
  simp only [arith]
  rw [wrap_i64 (by omega) (by omega)]; push_cast; rfl

theorem num_lt4 (l : List UInt8) (h : l.length ≤ 4) : num l ≤ 4294967295 := by
  have h1 := num_lt l
  have h2 : 256 ^ l.length ≤ 256 ^ 4 := Nat.pow_le_pow_right (by omega) h
  have h3 : (256 : Nat) ^ 4 = 4294967296 := by decide
  omega

/-- A long number: what it is, what is left, how it ended. -/
def rdR (b : List UInt8) (long : Int) (least : Nat) : Nat × List UInt8 × Int :=
  if spE b long ≠ 0 then (0, [], spE b long) else if num (spA b long) < least then (0, [], 3) else (num (spA b long), spB b long, 0)

/-- A size. -/
def sz (b : List UInt8) : Nat × List UInt8 × Int :=
  if spE b 1 ≠ 0 then (0, [], spE b 1) else if num (spA b 1) = 253 then rdR (spB b 1) 2 253 else if num (spA b 1) = 254 then rdR (spB b 1) 4 65536
  else if num (spA b 1) = 255 then rdR (spB b 1) 8 4294967296 else (num (spA b 1), spB b 1, 0)

theorem sp_bad {b : List UInt8} {n : Int} (h : spE b n ≠ 0) : spA b n = [] ∧ spB b n = [] := by
  unfold spE at h; unfold spA spB
  split
  · exact ⟨rfl, rfl⟩
  · split
    · exact ⟨rfl, rfl⟩
    · rename_i h1 h2; rw [if_neg h1, if_neg h2] at h; exact absurd rfl h

theorem num_lt1 (l : List UInt8) (h : l.length ≤ 1) : num l ≤ 255 := by
  have h1 := num_lt l
  have h2 : 256 ^ l.length ≤ 256 ^ 1 := Nat.pow_le_pow_right (by omega) h
  have h3 : (256 : Nat) ^ 1 = 256 := by decide
  omega

theorem rdR_len (b : List UInt8) (n : Int) (k : Nat) : (rdR b n k).2.1.length ≤ b.length := by
  have := spB_len b n
  unfold rdR; split
  · simp
  · split <;> simp <;> omega

theorem rdR_lt (b : List UInt8) (n : Int) (k : Nat) (hn : n ≤ 8) : (rdR b n k).1 ≤ 18446744073709551615 := by
  have := num_lt8 (spA b n) (spA_le b n 8 hn)
  unfold rdR; split
  · simp
  · split <;> simp <;> omega

theorem sz_len (b : List UInt8) : (sz b).2.1.length ≤ b.length := by
  have := spB_len b 1
  have h1 := rdR_len (spB b 1) 2 253
  have h2 := rdR_len (spB b 1) 4 65536
  have h3 := rdR_len (spB b 1) 8 4294967296
  unfold sz; repeat' split
  all_goals first | (simp; done) | omega | (simp only; omega)

theorem sz_lt (b : List UInt8) : (sz b).1 ≤ 18446744073709551615 := by
  have h0 := num_lt1 (spA b 1) (spA_le b 1 1 (by omega))
  have h1 := rdR_lt (spB b 1) 2 253 (by omega)
  have h2 := rdR_lt (spB b 1) 4 65536 (by omega)
  have h3 := rdR_lt (spB b 1) 8 4294967296 (by omega)
  unfold sz; repeat' split
  all_goals first | (simp; done) | omega | (simp only; omega)

/-- A bounded size. -/
def bnd (b : List UInt8) (most : Int) : Nat × List UInt8 × Int :=
  if (sz b).2.2 ≠ 0 then (0, [], (sz b).2.2) else if most < 0 ∨ most < ((sz b).1 : Int) then (0, [], 4) else ((sz b).1, (sz b).2.1, 0)

/-- Bounded bytes. -/
def lim (b : List UInt8) (most : Int) : List UInt8 × List UInt8 × Int :=
  if (bnd b most).2.2 ≠ 0 then ([], [], (bnd b most).2.2)
  else (spA (bnd b most).2.1 (bnd b most).1, spB (bnd b most).2.1 (bnd b most).1, spE (bnd b most).2.1 (bnd b most).1)

theorem bnd_len (b : List UInt8) (most : Int) : (bnd b most).2.1.length ≤ b.length := by
  have := sz_len b
  unfold bnd; repeat' split
  all_goals first | (simp; done) | omega | (simp only; omega)

theorem bnd_lt (b : List UInt8) (most : Int) (h : most ≤ 9223372036854775807) : ((bnd b most).1 : Int) ≤ 9223372036854775807 := by
  unfold bnd; split
  · simp
  · split
    · simp
    · rename_i hn; simp only; omega

theorem lim_len (b : List UInt8) (most : Int) : (lim b most).1.length ≤ b.length ∧ (lim b most).2.1.length ≤ b.length := by
  have h0 := bnd_len b most
  have h1 := spA_len (bnd b most).2.1 (bnd b most).1
  have h2 := spB_len (bnd b most).2.1 (bnd b most).1
  unfold lim; split
  · simp
  · simp only; omega

theorem wf_rows {l : List (List UInt8)} (h : (T.sq 1 (l.map .by)).wf) : l.length ≤ maxLen := by
  simp only [T.wf] at h; simpa using h.2.1

def smallB (l : List (List UInt8)) : Bool := decide (l.length ≤ 40) && l.all fun x => decide (x.length ≤ 300)

theorem flat_small (l : List (List UInt8)) (h : smallB l = true) : (flat l).length ≤ 40 * 309 := by
  simp only [smallB, Bool.and_eq_true, decide_eq_true_eq, List.all_eq_true] at h
  obtain ⟨h1, h2⟩ := h
  have : ∀ l : List (List UInt8), (∀ x ∈ l, x.length ≤ 300) → (flat l).length ≤ l.length * 309 := by
    intro l
    induction l with
    | nil => simp [flat]
    | cons x l ih =>
      intro h
      have a := h x (by simp)
      have b := ih (fun y hy => h y (by simp [hy]))
      have c := sizeB_len (x.length : Int)
      simp only [flat, List.length_append, List.length_cons]
      omega
  exact Nat.le_trans (this l h2) (Nat.mul_le_mul_right 309 h1)

/-- So many strings, taken one after the other. -/
def tkF (most : Int) : Nat → List (List UInt8) → List UInt8 → List (List UInt8) × List UInt8 × Int
  | 0, acc, b => (acc, b, 0)
  | n + 1, acc, b => if (lim b most).2.2 ≠ 0 then ([], [], (lim b most).2.2) else tkF most n (acc ++ [(lim b most).1]) (lim b most).2.1

/-- A list, taken. -/
def lst (b : List UInt8) (many most : Int) : List (List UInt8) × List UInt8 × Int :=
  if (bnd b many).2.2 ≠ 0 then ([], [], (bnd b many).2.2) else tkF most (bnd b many).1 [] (bnd b many).2.1

theorem rdR_eat {b : List UInt8} {n : Int} {k : Nat} (h : (rdR b n k).2.2 = 0) : (rdR b n k).2.1.length ≤ b.length := rdR_len b n k

theorem sp1_eat {b : List UInt8} (h : spE b 1 = 0) : (spB b 1).length + 1 ≤ b.length := by
  unfold spE at h
  rw [if_neg (by omega)] at h
  split at h
  · cases h
  · rename_i hn
    unfold spB
    rw [if_neg (by omega), if_neg hn]
    simp; omega

theorem sz_eat {b : List UInt8} (h : (sz b).2.2 = 0) : (sz b).2.1.length + 1 ≤ b.length := by
  have h1 := rdR_len (spB b 1) 2 253
  have h2 := rdR_len (spB b 1) 4 65536
  have h3 := rdR_len (spB b 1) 8 4294967296
  unfold sz at h ⊢
  split at h
  · rename_i hn; exact absurd h hn
  · rename_i hn
    rw [if_neg hn]
    have h0 := sp1_eat (b := b) (by simpa using hn)
    repeat' split
    all_goals first | omega | (simp only; omega)

theorem bnd_eat {b : List UInt8} {most : Int} (h : (bnd b most).2.2 = 0) : (bnd b most).2.1.length + 1 ≤ b.length := by
  unfold bnd at h ⊢
  split at h
  · rename_i hn; exact absurd h hn
  · rename_i hn
    rw [if_neg hn]
    split at h
    · cases h
    · rename_i hn2
      rw [if_neg hn2]
      exact sz_eat (by simpa using hn)

theorem lim_eat {b : List UInt8} {most : Int} (h : (lim b most).2.2 = 0) : (lim b most).2.1.length + 1 ≤ b.length := by
  unfold lim at h ⊢
  split at h
  · rename_i hn; exact absurd h hn
  · rename_i hn
    rw [if_neg hn]
    have h1 := bnd_eat (b := b) (most := most) (by simpa using hn)
    have h2 := spB_len (bnd b most).2.1 (bnd b most).1
    simp only; omega

theorem tkF_succ (most : Int) (n : Nat) (acc : List (List UInt8)) (b : List UInt8) : tkF most (n + 1) acc b = if (lim b most).2.2 ≠ 0 then ([], [], (lim b most).2.2) else tkF most n (acc ++ [(lim b most).1]) (lim b most).2.1 := rfl

theorem map_snoc (acc : List (List UInt8)) (x : List UInt8) : acc.map T.by ++ [T.by x] = (acc ++ [x]).map T.by := by simp

theorem shrB_fdiv (k : Nat) (x : Int) : shrB k (x.fdiv 256) = shrB (k + 1) x := by
  induction k with
  | zero => rfl
  | succ k ih => simp only [shrB] at ih ⊢; rw [ih]

theorem le_cons (k : Nat) (x : Int) : le (k + 1) x = UInt8.ofNat (IntKind.u8.wrap x).toNat :: le k (x.fdiv 256) := by
  induction k generalizing x with
  | zero => rfl
  | succ k ih =>
    have h1 : le (k + 1 + 1) x = le (k + 1) x ++ [UInt8.ofNat (IntKind.u8.wrap (shrB (k + 1) x)).toNat] := rfl
    have h2 : le (k + 1) (x.fdiv 256) = le k (x.fdiv 256) ++ [UInt8.ofNat (IntKind.u8.wrap (shrB k (x.fdiv 256))).toNat] := rfl
    rw [h1, ih, h2, shrB_fdiv]; rfl

theorem byte_of (c : UInt8) (n : Nat) : UInt8.ofNat (IntKind.u8.wrap ((c.toNat + 256 * n : Nat) : Int)).toNat = c := by
  have hc := c.toNat_lt
  have : (IntKind.u8.wrap ((c.toNat + 256 * n : Nat) : Int)).toNat = c.toNat := by
    simp only [IntKind.wrap, IntKind.signed, IntKind.bits]; simp; omega
  rw [this]; simp

theorem le_num (l : List UInt8) : le l.length (num l : Nat) = l := by
  induction l with
  | nil => rfl
  | cons c l ih =>
    have hc := c.toNat_lt
    rw [List.length_cons, le_cons]
    have h2 : ((num (c :: l) : Nat) : Int).fdiv 256 = (num l : Nat) := by
      rw [Int.fdiv_eq_ediv_of_nonneg _ (by omega)]; simp only [num]; omega
    rw [h2, ih]
    congr 1
    exact byte_of c (num l)

theorem num_le (k : Nat) (x : Int) (h0 : 0 ≤ x) (h1 : x < ((256 ^ k : Nat) : Int)) : (num (le k x) : Int) = x := by
  induction k generalizing x with
  | zero => simp [le, num] at *; omega
  | succ k ih =>
    rw [le_cons]
    have hd : x.fdiv 256 = x / 256 := Int.fdiv_eq_ediv_of_nonneg _ (by omega)
    have hp : (256 ^ (k + 1) : Nat) = 256 * 256 ^ k := by rw [Nat.pow_succ, Nat.mul_comm]
    rw [hp] at h1
    have h3 := ih (x.fdiv 256) (by rw [hd]; omega) (by rw [hd]; omega)
    have hw : (IntKind.u8.wrap x).toNat = (x % 256).toNat := by simp only [IntKind.wrap, IntKind.signed, IntKind.bits]; simp
    have hb : (UInt8.ofNat (IntKind.u8.wrap x).toNat).toNat = (x % 256).toNat := by
      rw [hw]; simp; omega
    simp only [num]
    rw [hb]
    omega

theorem spE_app (a b : List UInt8) : spE (a ++ b) a.length = 0 := by
  unfold spE; rw [if_neg (by omega), if_neg (by simp; omega)]

theorem spA_app (a b : List UInt8) : spA (a ++ b) a.length = a := by
  unfold spA; rw [if_neg (by omega), if_neg (by simp; omega)]; simp

theorem spB_app (a b : List UInt8) : spB (a ++ b) a.length = b := by
  unfold spB; rw [if_neg (by omega), if_neg (by simp; omega)]; simp

/-- What is cut off is a beginning, and the rest. -/
theorem sp_ok {b : List UInt8} {n : Int} (h : spE b n = 0) : 0 ≤ n ∧ spA b n ++ spB b n = b ∧ ((spA b n).length : Int) = n := by
  unfold spE at h
  split at h
  · cases h
  · split at h
    · cases h
    · rename_i h1 h2
      unfold spA spB
      simp only [if_neg h1, if_neg h2]
      refine ⟨by omega, by simp, ?_⟩
      simp; omega

theorem rdR_put {k : Nat} {least : Nat} {x : Int} (r : List UInt8) (h0 : 0 ≤ x) (h1 : x < ((256 ^ k : Nat) : Int)) (h2 : (least : Int) ≤ x) : rdR (le k x ++ r) k least = (x.toNat, r, 0) := by
  have hl := le_len k x
  have e := spE_app (le k x) r
  have a := spA_app (le k x) r
  have c := spB_app (le k x) r
  rw [hl] at e a c
  have hn := num_le k x h0 h1
  unfold rdR
  rw [if_neg (by rw [e]; simp), a, c, if_neg (by omega)]
  rw [show num (le k x) = x.toNat by omega]

theorem le1 (x : Int) (h0 : 0 ≤ x) (h1 : x ≤ 255) : le 1 x = [UInt8.ofNat x.toNat] := by
  simp only [le, shrB, List.nil_append]
  rw [wrap_u8 h0 h1]

theorem sz_put (n : Int) (r : List UInt8) (h0 : 0 ≤ n) (h1 : n ≤ 18446744073709551615) : sz (sizeB n ++ r) = (n.toNat, r, 0) := by
  have key : ∀ (x : Int) (s : List UInt8), 0 ≤ x → x ≤ 255 → spE (le 1 x ++ s) 1 = 0 ∧ spB (le 1 x ++ s) 1 = s ∧ (num (spA (le 1 x ++ s) 1) : Int) = x := by
    intro x s hx0 hx1
    have hl := le_len 1 x
    have e := spE_app (le 1 x) s
    have a := spA_app (le 1 x) s
    have c := spB_app (le 1 x) s
    rw [hl] at e a c
    exact ⟨e, c, by rw [show ((1 : Nat) : Int) = 1 from rfl] at a; rw [a]; exact num_le 1 x hx0 (by omega)⟩
  unfold sizeB
  split
  · obtain ⟨k1, k2, k3⟩ := key n r h0 (by omega)
    unfold sz
    rw [if_neg (by rw [k1]; simp), if_neg (by omega), if_neg (by omega), if_neg (by omega), k2]
    rw [show num (spA (le 1 n ++ r) 1) = n.toNat by omega]
  · split
    · obtain ⟨k1, k2, k3⟩ := key 253 (le 2 n ++ r) (by omega) (by omega)
      rw [List.append_assoc]
      unfold sz
      rw [if_neg (by rw [k1]; simp), if_pos (by omega), k2]
      exact rdR_put r h0 (by omega) (by omega)
    · split
      · obtain ⟨k1, k2, k3⟩ := key 254 (le 4 n ++ r) (by omega) (by omega)
        rw [List.append_assoc]
        unfold sz
        rw [if_neg (by rw [k1]; simp), if_neg (by omega), if_pos (by omega), k2]
        exact rdR_put r h0 (by omega) (by omega)
      · obtain ⟨k1, k2, k3⟩ := key 255 (le 8 n ++ r) (by omega) (by omega)
        rw [List.append_assoc]
        unfold sz
        rw [if_neg (by rw [k1]; simp), if_neg (by omega), if_neg (by omega), if_pos (by omega), k2]
        exact rdR_put r h0 (by omega) (by omega)

theorem rdR_only {b : List UInt8} {k : Nat} {least : Nat} (h : (rdR b k least).2.2 = 0) : (least : Int) ≤ (rdR b k least).1 ∧ le k ((rdR b k least).1 : Nat) ++ (rdR b k least).2.1 = b := by
  unfold rdR at h ⊢
  split at h
  · rename_i hn; exact absurd h hn
  · rename_i hn
    rw [if_neg hn]
    split at h
    · cases h
    · rename_i h2
      rw [if_neg h2]
      obtain ⟨q1, q2, q3⟩ := sp_ok (b := b) (n := k) (by simpa using hn)
      have hk : (spA b k).length = k := by omega
      have := le_num (spA b k)
      rw [hk] at this
      exact ⟨by simp only; omega, by simp only; rw [this]; exact q2⟩

/-- Whoever is taken as a size was put so. -/
theorem sz_only {b : List UInt8} (h : (sz b).2.2 = 0) : sizeB ((sz b).1 : Nat) ++ (sz b).2.1 = b := by
  have hlt := num_lt1 (spA b 1) (spA_le b 1 1 (by omega))
  have l2 := rdR_lt (spB b 1) 2 253 (by omega)
  unfold sz at h ⊢
  split at h
  · rename_i hn; exact absurd h hn
  · rename_i hn
    rw [if_neg hn]
    obtain ⟨q1, q2, q3⟩ := sp_ok (b := b) (n := 1) (by simpa using hn)
    have hk : (spA b 1).length = 1 := by omega
    have hone := le_num (spA b 1)
    rw [hk] at hone
    have b2 : (rdR (spB b 1) 2 253).1 < 65536 := by
      unfold rdR; split
      · simp
      · split
        · simp
        · have := num_lt (spA (spB b 1) 2)
          have hl := spA_le (spB b 1) 2 2 (by omega)
          have hp : 256 ^ (spA (spB b 1) 2).length ≤ 256 ^ 2 := Nat.pow_le_pow_right (by omega) hl
          simp only; omega
    have b4 : (rdR (spB b 1) 4 65536).1 < 4294967296 := by
      unfold rdR; split
      · simp
      · split
        · simp
        · have := num_lt4 (spA (spB b 1) 4) (spA_le (spB b 1) 4 4 (by omega))
          simp only; omega
    split at h
    · rename_i e
      rw [if_pos e]
      obtain ⟨r1, r2⟩ := rdR_only (k := 2) h
      unfold sizeB
      have r1' : (253 : Int) ≤ (rdR (spB b 1) 2 253).1 := r1
      rw [if_neg (by omega), if_pos (by omega), List.append_assoc]
      rw [show ((2 : Nat) : Int) = 2 from rfl] at r2
      rw [r2]; conv => rhs; rw [← q2]
      congr 1
      rw [← hone, e]; rfl
    · rename_i e
      rw [if_neg e]
      split at h
      · rename_i e4
        rw [if_pos e4]
        obtain ⟨r1, r2⟩ := rdR_only (k := 4) h
        unfold sizeB
        have r1' : (65536 : Int) ≤ (rdR (spB b 1) 4 65536).1 := r1
        rw [if_neg (by omega), if_neg (by omega), if_pos (by omega), List.append_assoc]
        rw [show ((4 : Nat) : Int) = 4 from rfl] at r2
        rw [r2]; conv => rhs; rw [← q2]
        congr 1
        rw [← hone, e4]; rfl
      · rename_i e4
        rw [if_neg e4]
        split at h
        · rename_i e8
          rw [if_pos e8]
          obtain ⟨r1, r2⟩ := rdR_only (k := 8) h
          unfold sizeB
          have r1' : (4294967296 : Int) ≤ (rdR (spB b 1) 8 4294967296).1 := r1
          rw [if_neg (by omega), if_neg (by omega), if_neg (by omega), List.append_assoc]
          rw [show ((8 : Nat) : Int) = 8 from rfl] at r2
          rw [r2]; conv => rhs; rw [← q2]
          congr 1
          rw [← hone, e8]; rfl
        · rename_i e8
          rw [if_neg e8]
          unfold sizeB
          simp only
          rw [if_pos (by omega), hone, q2]

theorem bnd_only {b : List UInt8} {most : Int} (h : (bnd b most).2.2 = 0) : sizeB ((bnd b most).1 : Nat) ++ (bnd b most).2.1 = b ∧ ((bnd b most).1 : Int) ≤ most := by
  unfold bnd at h ⊢
  split at h
  · rename_i hn; exact absurd h hn
  · rename_i hn
    rw [if_neg hn]
    split at h
    · cases h
    · rename_i h2
      rw [if_neg h2]
      exact ⟨sz_only (by simpa using hn), by simp only; omega⟩

theorem lim_only {b : List UInt8} {most : Int} (h : (lim b most).2.2 = 0) : sizeB ((lim b most).1.length : Int) ++ (lim b most).1 ++ (lim b most).2.1 = b := by
  unfold lim at h ⊢
  split at h
  · rename_i hn; exact absurd h hn
  · rename_i hn
    rw [if_neg hn]
    obtain ⟨q1, q2, q3⟩ := sp_ok (b := (bnd b most).2.1) (n := (bnd b most).1) h
    have h1 := (bnd_only (b := b) (most := most) (by simpa using hn)).1
    simp only
    rw [q3, List.append_assoc, q2, h1]

theorem tkF_bad {most : Int} : ∀ (n : Nat) (acc : List (List UInt8)) (b : List UInt8), (tkF most n acc b).2.2 ≠ 0 → (tkF most n acc b).1 = [] ∧ (tkF most n acc b).2.1 = []
  | 0, acc, b, h => by simp [tkF] at h
  | n + 1, acc, b, h => by
    unfold tkF at h ⊢
    split at h
    · rename_i hn; rw [if_pos hn]; exact ⟨rfl, rfl⟩
    · rename_i hn; rw [if_neg hn]; exact tkF_bad n _ _ h

theorem tkF_only {most : Int} : ∀ (n : Nat) (acc : List (List UInt8)) (b : List UInt8), (tkF most n acc b).2.2 = 0 →
    (tkF most n acc b).1.length = acc.length + n ∧ flat (tkF most n acc b).1 ++ (tkF most n acc b).2.1 = flat acc ++ b
  | 0, acc, b, h => by simp [tkF]
  | n + 1, acc, b, h => by
    unfold tkF at h ⊢
    split at h
    · rename_i hn; exact absurd h hn
    · rename_i hn
      rw [if_neg hn]
      obtain ⟨h1, h2⟩ := tkF_only n _ _ h
      refine ⟨by rw [h1]; simp; omega, ?_⟩
      rw [h2, flat_snoc, List.append_assoc]
      have h3 := lim_only (b := b) (most := most) (by simpa using hn)
      rw [h3]

theorem lst_bad {b : List UInt8} {many most : Int} (h : (lst b many most).2.2 ≠ 0) : (lst b many most).1 = [] ∧ (lst b many most).2.1 = [] := by
  unfold lst at h ⊢
  split at h
  · rename_i hn; rw [if_pos hn]; exact ⟨rfl, rfl⟩
  · rename_i hn; rw [if_neg hn]; exact tkF_bad _ _ _ h

/-- A list that is taken, put again. -/
theorem lst_only {b : List UInt8} {many most : Int} (h : (lst b many most).2.2 = 0) :
    ((lst b many most).1.length : Int) ≤ many ∧ sizeB ((lst b many most).1.length : Int) ++ flat (lst b many most).1 ++ (lst b many most).2.1 = b := by
  unfold lst at h ⊢
  split at h
  · rename_i hn; exact absurd h hn
  · rename_i hn
    rw [if_neg hn]
    obtain ⟨h1, h2⟩ := bnd_only (b := b) (most := many) (by simpa using hn)
    obtain ⟨h3, h4⟩ := tkF_only _ _ _ h
    simp only [List.length_nil, Nat.zero_add] at h3
    rw [List.append_assoc, h4, h3]
    exact ⟨h2, by simpa [flat] using h1⟩

end Go.Fw

end

section
/- Sizes, strings, lists: there and back, cut off. Plain laws. -/
namespace Go.Fw
open Go
set_option linter.unusedVariables false
set_option linter.unusedSimpArgs false

theorem bnd_put {n most : Int} (r : List UInt8) (h0 : 0 ≤ n) (h1 : n ≤ most) (h2 : most ≤ 9223372036854775807) : bnd (sizeB n ++ r) most = (n.toNat, r, 0) := by
  have h := sz_put n r h0 (by omega)
  unfold bnd
  rw [h]
  simp only [ne_eq, not_true_eq_false, if_false]
  rw [if_neg (by omega)]

theorem lim_put {x : List UInt8} {most : Int} (r : List UInt8) (h1 : (x.length : Int) ≤ most) (h2 : most ≤ 9223372036854775807) : lim (sizeB x.length ++ x ++ r) most = (x, r, 0) := by
  have h := bnd_put (n := x.length) (most := most) (x ++ r) (by omega) h1 h2
  rw [List.append_assoc]
  unfold lim
  rw [h]
  simp only [ne_eq, not_true_eq_false, if_false, Int.toNat_natCast, spA_app, spB_app, spE_app]

theorem tkF_put {most : Int} (h2 : most ≤ 9223372036854775807) : ∀ (l acc : List (List UInt8)) (r : List UInt8), (∀ x ∈ l, (x.length : Int) ≤ most) → tkF most l.length acc (flat l ++ r) = (acc ++ l, r, 0)
  | [], acc, r, _ => by simp [tkF, flat]
  | x :: l, acc, r, h => by
    have h1 := lim_put (x := x) (most := most) (flat l ++ r) (h x (by simp)) h2
    simp only [List.length_cons, tkF_succ, flat]
    rw [List.append_assoc, h1]
    simp only [ne_eq, not_true_eq_false, if_false]
    rw [tkF_put h2 l (acc ++ [x]) r (fun y hy => h y (by simp [hy]))]
    simp

theorem lst_put {l : List (List UInt8)} {many most : Int} (r : List UInt8) (hm : (l.length : Int) ≤ many) (hm2 : many ≤ 9223372036854775807) (h2 : most ≤ 9223372036854775807) (h : ∀ x ∈ l, (x.length : Int) ≤ most) :
    lst (sizeB l.length ++ flat l ++ r) many most = (l, r, 0) := by
  have h1 := bnd_put (n := l.length) (most := many) (flat l ++ r) (by omega) hm hm2
  rw [List.append_assoc]
  unfold lst
  rw [h1]
  simp only [ne_eq, not_true_eq_false, if_false, Int.toNat_natCast]
  rw [tkF_put h2 l [] r h]; simp

/-! ### Cut off. -/

theorem sp_cut {b : List UInt8} {n : Int} (h : (b.length : Int) < n) : spE b n = 2 ∧ spA b n = [] ∧ spB b n = [] := by
  unfold spE spA spB
  rw [if_neg (by omega), if_pos h, if_neg (by omega), if_pos h, if_neg (by omega), if_pos h]
  exact ⟨rfl, rfl, rfl⟩

theorem rdR_cut {b : List UInt8} {n : Int} {least : Nat} (h : (b.length : Int) < n) : rdR b n least = (0, [], 2) := by
  unfold rdR
  rw [(sp_cut h).1, if_pos (by omega)]

theorem sz_nil : sz [] = (0, [], 2) := by
  unfold sz
  rw [(sp_cut (b := []) (n := 1) (by simp)).1, if_pos (by omega)]

theorem sz_cut {n : Int} (h0 : 0 ≤ n) {k : Nat} (hk : k < (sizeB n).length) : sz ((sizeB n).take k) = (0, [], 2) := by
  cases k with
  | zero => exact sz_nil
  | succ k =>
    have key : ∀ (x : Int) (s : List UInt8), 0 ≤ x → x ≤ 255 → spE (le 1 x ++ s) 1 = 0 ∧ spB (le 1 x ++ s) 1 = s ∧ (num (spA (le 1 x ++ s) 1) : Int) = x := by
      intro x s hx0 hx1
      have hl := le_len 1 x
      have e := spE_app (le 1 x) s
      have a := spA_app (le 1 x) s
      have c := spB_app (le 1 x) s
      rw [hl] at e a c
      exact ⟨e, c, by rw [show ((1 : Nat) : Int) = 1 from rfl] at a; rw [a]; exact num_le 1 x hx0 (by omega)⟩
    have tk : ∀ (x : Int) (s : List UInt8), (le 1 x ++ s).take (k + 1) = le 1 x ++ s.take k := fun x s => by
      have hl := le_len 1 x
      rw [List.take_append, hl, List.take_of_length_le (by omega)]; simp
    unfold sizeB at hk ⊢
    split
    · rename_i h; rw [if_pos h, le_len] at hk; omega
    · rename_i h
      rw [if_neg h] at hk
      split
      · rename_i h2
        rw [if_pos h2] at hk
        simp only [List.length_append, le_len] at hk
        obtain ⟨k1, k2, k3⟩ := key 253 ((le 2 n).take k) (by omega) (by omega)
        rw [tk]
        unfold sz
        rw [if_neg (by rw [k1]; simp), if_pos (by omega), k2]
        exact rdR_cut (by simp [le_len]; omega)
      · rename_i h2
        rw [if_neg h2] at hk
        split
        · rename_i h3
          rw [if_pos h3] at hk
          simp only [List.length_append, le_len] at hk
          obtain ⟨k1, k2, k3⟩ := key 254 ((le 4 n).take k) (by omega) (by omega)
          rw [tk]
          unfold sz
          rw [if_neg (by rw [k1]; simp), if_neg (by omega), if_pos (by omega), k2]
          exact rdR_cut (by simp [le_len]; omega)
        · rename_i h3
          rw [if_neg h3] at hk
          simp only [List.length_append, le_len] at hk
          obtain ⟨k1, k2, k3⟩ := key 255 ((le 8 n).take k) (by omega) (by omega)
          rw [tk]
          unfold sz
          rw [if_neg (by rw [k1]; simp), if_neg (by omega), if_neg (by omega), if_pos (by omega), k2]
          exact rdR_cut (by simp [le_len]; omega)

theorem bnd_cut {n most : Int} (h0 : 0 ≤ n) {k : Nat} (hk : k < (sizeB n).length) : bnd ((sizeB n).take k) most = (0, [], 2) := by
  unfold bnd
  rw [sz_cut h0 hk, if_pos (by simp)]

theorem lim_cut {x : List UInt8} {most : Int} (h1 : (x.length : Int) ≤ most) (h2 : most ≤ 9223372036854775807) {k : Nat} (hk : k < (sizeB x.length ++ x).length) : lim ((sizeB x.length ++ x).take k) most = ([], [], 2) := by
  unfold lim
  by_cases h : k < (sizeB (x.length : Int)).length
  · rw [List.take_append_of_le_length (by omega), bnd_cut (by omega) h, if_pos (by simp)]
  · have e : (sizeB (x.length : Int) ++ x).take k = sizeB (x.length : Int) ++ x.take (k - (sizeB (x.length : Int)).length) := by
      rw [List.take_append, List.take_of_length_le (by omega)]
    rw [e, bnd_put _ (by omega) h1 h2]
    simp only [List.length_append] at hk
    have hc := sp_cut (b := x.take (k - (sizeB (x.length : Int)).length)) (n := ((x.length : Int).toNat : Int)) (by simp; omega)
    simp only [ne_eq, not_true_eq_false, if_false]
    rw [hc.1, hc.2.1, hc.2.2]

theorem tkF_cut {most : Int} (h2 : most ≤ 9223372036854775807) : ∀ (l acc : List (List UInt8)) (k : Nat), (∀ x ∈ l, (x.length : Int) ≤ most) → k < (flat l).length → tkF most l.length acc ((flat l).take k) = ([], [], 2)
  | [], acc, k, _, hk => by simp [flat] at hk
  | x :: l, acc, k, h, hk => by
    simp only [List.length_cons, tkF_succ, flat]
    by_cases h1 : k < (sizeB (x.length : Int) ++ x).length
    · rw [List.take_append_of_le_length (by omega), lim_cut (h x (by simp)) h2 h1, if_pos (by simp)]
    · have e : (sizeB (x.length : Int) ++ x ++ flat l).take k = sizeB (x.length : Int) ++ x ++ (flat l).take (k - (sizeB (x.length : Int) ++ x).length) := by
        rw [List.take_append, List.take_of_length_le (by omega)]
      rw [e, lim_put _ (h x (by simp)) h2]
      simp only [ne_eq, not_true_eq_false, if_false]
      simp only [flat, List.length_append] at hk h1 ⊢
      exact tkF_cut h2 l _ _ (fun y hy => h y (by simp [hy])) (by omega)

theorem lst_cut {l : List (List UInt8)} {many most : Int} (hm : (l.length : Int) ≤ many) (hm2 : many ≤ 9223372036854775807) (h2 : most ≤ 9223372036854775807) (h : ∀ x ∈ l, (x.length : Int) ≤ most) {k : Nat} (hk : k < (sizeB l.length ++ flat l).length) :
    lst ((sizeB l.length ++ flat l).take k) many most = ([], [], 2) := by
  unfold lst
  by_cases h1 : k < (sizeB (l.length : Int)).length
  · rw [List.take_append_of_le_length (by omega), bnd_cut (by omega) h1, if_pos (by simp)]
  · have e : (sizeB (l.length : Int) ++ flat l).take k = sizeB (l.length : Int) ++ (flat l).take (k - (sizeB (l.length : Int)).length) := by
      rw [List.take_append, List.take_of_length_le (by omega)]
    rw [e, bnd_put _ (by omega) hm hm2]
    simp only [List.length_append] at hk
    simp only [ne_eq, not_true_eq_false, if_false, Int.toNat_natCast]
    exact tkF_cut h2 l [] _ h (by omega)

end Go.Fw

end

section
/- Transactions: their trees, their bytes. Plain laws. -/
namespace Go.Fw
open Go
set_option linter.unusedVariables false
set_option linter.unusedSimpArgs false

abbrev H32 := { l : List UInt8 // l.length = 32 }
def zH : H32 := ⟨List.replicate 32 0, by simp⟩
structure TIn where
  (prev : H32) (idx seq : UInt32) (wit : List (List UInt8))
  deriving DecidableEq
structure TOut where
  (val : UInt64) (scr : List UInt8)
  deriving DecidableEq
structure TTx where
  (ver : UInt32) (ins : List TIn) (outs : List TOut) (lock : UInt32)
  deriving DecidableEq
def refT (h : H32) (i : UInt32) : T := .st [.ba 32 h.1, .int .u32 (i.toNat : Int)]
def inT (x : TIn) : T := .st [refT x.prev x.idx, .int .u32 (x.seq.toNat : Int), .sq 1 (x.wit.map .by)]
def outT (x : TOut) : T := .st [.int .u64 (x.val.toNat : Int), .by x.scr]
def txT (x : TTx) : T := .st [.int .u32 (x.ver.toNat : Int), .sq 35 (x.ins.map inT), .sq 2 (x.outs.map outT), .int .u32 (x.lock.toNat : Int)]
def dIn : TIn := ⟨zH, 0, 0, []⟩
def dOut : TOut := ⟨0, []⟩
def dTx : TTx := ⟨0, [], [], 0⟩

/-! ### Trees are of one thing only. -/
theorem map_inj {α β : Type} {f : α → β} (hf : ∀ a b, f a = f b → a = b) : ∀ l k : List α, l.map f = k.map f → l = k
  | [], [], _ => rfl
  | [], _ :: _, h => by simp at h
  | _ :: _, [], h => by simp at h
  | a :: l, b :: k, h => by
    simp only [List.map_cons, List.cons.injEq] at h
    rw [hf a b h.1, map_inj hf l k h.2]
theorem by_inj (a b : List UInt8) (h : T.by a = T.by b) : a = b := by cases h; rfl
theorem n32_inj {a b : UInt32} (h : (a.toNat : Int) = (b.toNat : Int)) : a = b := UInt32.toNat_inj.1 (by exact_mod_cast h)
theorem n64_inj {a b : UInt64} (h : (a.toNat : Int) = (b.toNat : Int)) : a = b := UInt64.toNat_inj.1 (by exact_mod_cast h)
theorem refT_inj {a b : H32} {i j : UInt32} (h : refT a i = refT b j) : a = b ∧ i = j := by
  unfold refT at h
  simp only [T.st.injEq, List.cons.injEq, T.ba.injEq, T.int.injEq, true_and, and_true] at h
  exact ⟨Subtype.ext h.1, n32_inj h.2⟩
theorem inT_inj (a b : TIn) (h : inT a = inT b) : a = b := by
  obtain ⟨a1, a2, a3, a4⟩ := a
  obtain ⟨b1, b2, b3, b4⟩ := b
  unfold inT at h
  simp only [T.st.injEq, List.cons.injEq, T.sq.injEq, T.int.injEq, true_and, and_true] at h
  obtain ⟨h1, h2, h3⟩ := h
  obtain ⟨rfl, rfl⟩ := refT_inj h1
  rw [n32_inj h2, map_inj by_inj _ _ h3]
theorem outT_inj (a b : TOut) (h : outT a = outT b) : a = b := by
  obtain ⟨a1, a2⟩ := a
  obtain ⟨b1, b2⟩ := b
  unfold outT at h
  simp only [T.st.injEq, List.cons.injEq, T.by.injEq, T.int.injEq, true_and, and_true] at h
  rw [n64_inj h.1, h.2]
theorem txT_inj (a b : TTx) (h : txT a = txT b) : a = b := by
  obtain ⟨a1, a2, a3, a4⟩ := a
  obtain ⟨b1, b2, b3, b4⟩ := b
  unfold txT at h
  simp only [T.st.injEq, List.cons.injEq, T.sq.injEq, T.int.injEq, true_and, and_true] at h
  obtain ⟨h1, h2, h3, h4⟩ := h
  rw [n32_inj h1, n32_inj h4, map_inj inT_inj _ _ h2, map_inj outT_inj _ _ h3]

theorem in_getD (l : List TIn) (k : Nat) (h : k < l.length) : (l.map inT).getD k default = inT (l.getD k dIn) := by simp [h]
theorem out_getD (l : List TOut) (k : Nat) (h : k < l.length) : (l.map outT).getD k default = outT (l.getD k dOut) := by simp [h]

/-! ### Bytes. -/
/-- What comes of each, one behind the other. -/
def cat {α : Type} (f : α → List UInt8) (l : List α) : List UInt8 := (l.map f).flatten
theorem cat_snoc {α : Type} (f : α → List UInt8) (l : List α) (x : α) : cat f (l ++ [x]) = cat f l ++ f x := by simp [cat]
theorem cat_nil {α : Type} (f : α → List UInt8) : cat f [] = [] := rfl
theorem cat_cons {α : Type} (f : α → List UInt8) (x : α) (l : List α) : cat f (x :: l) = f x ++ cat f l := by simp [cat]
theorem take_getDx {α : Type} (d : α) (l : List α) (k : Nat) (h : k < l.length) : l.take (k + 1) = l.take k ++ [l.getD k d] := by
  rw [List.take_succ_eq_append_getElem h]; simp [h]
theorem cat_take {α : Type} (f : α → List UInt8) (d : α) (l : List α) (k : Nat) (h : k < l.length) : cat f (l.take (k + 1)) = cat f (l.take k) ++ f (l.getD k d) := by
  rw [take_getDx d l k h, cat_snoc]
theorem cat_len {α : Type} (f : α → List UInt8) (m : Nat) : ∀ l : List α, (∀ x ∈ l, (f x).length ≤ m) → (cat f l).length ≤ l.length * m
  | [], _ => by simp [cat]
  | x :: l, h => by
    rw [cat_cons, List.length_append, List.length_cons, Nat.succ_mul]
    have h1 := h x (by simp)
    have h2 := cat_len f m l (fun y hy => h y (by simp [hy]))
    omega
theorem cat_take_le {α : Type} (f : α → List UInt8) (l : List α) (k : Nat) : (cat f (l.take k)).length ≤ (cat f l).length := by
  conv => rhs; rw [← List.take_append_drop k l]
  rw [cat, cat, List.map_append, List.flatten_append, List.length_append]; omega

def tInB (x : TIn) : List UInt8 := x.prev.1 ++ le 4 (x.idx.toNat : Int) ++ le 4 (x.seq.toNat : Int)
def tOutB (x : TOut) : List UInt8 := le 8 (x.val.toNat : Int) ++ (sizeB x.scr.length ++ x.scr)
def witB (x : TIn) : List UInt8 := sizeB x.wit.length ++ flat x.wit
def bareB (t : TTx) : List UInt8 := le 4 (t.ver.toNat : Int) ++ sizeB t.ins.length ++ cat tInB t.ins ++ sizeB t.outs.length ++ cat tOutB t.outs ++ le 4 (t.lock.toNat : Int)
def wholeB (t : TTx) : List UInt8 := bareB t ++ cat witB t.ins

def scrOk (x : TOut) : Bool := decide (x.scr.length ≤ 1000)
def witOk (x : TIn) : Bool := decide (x.wit.length ≤ 30) && x.wit.all fun y => decide (y.length ≤ 1000)
/-- Does it fit, but for the bytes in all? -/
def countsB (t : TTx) : Bool := decide (t.ins.length ≤ 20) && decide (t.outs.length ≤ 20) && t.outs.all scrOk && t.ins.all witOk
def fitsB (t : TTx) : Bool := countsB t && decide ((wholeB t).length ≤ 12000)
def chkE (t : TTx) : Int := if fitsB t = true then 0 else 4

theorem tInB_len (x : TIn) : (tInB x).length = 40 := by simp [tInB, le_len, x.prev.2]
theorem flat_le (m : Nat) : ∀ l : List (List UInt8), (∀ y ∈ l, y.length ≤ m) → (flat l).length ≤ l.length * (9 + m)
  | [], _ => by simp [flat]
  | x :: l, h => by
    have h1 := h x (by simp)
    have h2 := flat_le m l (fun y hy => h y (by simp [hy]))
    have h3 := sizeB_len (x.length : Int)
    simp only [flat, List.length_append, List.length_cons, Nat.succ_mul]
    omega
theorem countsB_ok {t : TTx} (h : countsB t = true) : t.ins.length ≤ 20 ∧ t.outs.length ≤ 20 ∧ (∀ x ∈ t.outs, x.scr.length ≤ 1000) ∧ ∀ x ∈ t.ins, x.wit.length ≤ 30 ∧ ∀ y ∈ x.wit, y.length ≤ 1000 := by
  simpa [countsB, scrOk, witOk, and_assoc] using h
theorem cat_in_len (l : List TIn) : (cat tInB l).length = l.length * 40 := by
  induction l with
  | nil => rfl
  | cons x l ih => rw [cat_cons, List.length_append, ih, tInB_len, List.length_cons]; omega
/-- A bound of the parts' bytes: what is asked of numbers. -/
theorem bare_len {t : TTx} {n m k : Nat} (h1 : t.ins.length ≤ n) (h2 : t.outs.length ≤ m) (h3 : ∀ x ∈ t.outs, x.scr.length ≤ k) : (bareB t).length ≤ 26 + n * 40 + m * (17 + k) := by
  have a1 := sizeB_len (t.ins.length : Int)
  have a2 := sizeB_len (t.outs.length : Int)
  have a3 := cat_in_len t.ins
  have a4 := cat_len tOutB (17 + k) t.outs (fun x hx => by
    have b1 := h3 x hx
    have b2 := sizeB_len (x.scr.length : Int)
    simp only [tOutB, List.length_append, le_len]; omega)
  have a5 : t.ins.length * 40 ≤ n * 40 := Nat.mul_le_mul_right _ h1
  have a6 : t.outs.length * (17 + k) ≤ m * (17 + k) := Nat.mul_le_mul_right _ h2
  simp only [bareB, List.length_append, le_len]
  omega
theorem whole_len {t : TTx} {n m k w : Nat} (h1 : t.ins.length ≤ n) (h2 : t.outs.length ≤ m) (h3 : ∀ x ∈ t.outs, x.scr.length ≤ k) (h4 : ∀ x ∈ t.ins, x.wit.length ≤ w ∧ ∀ y ∈ x.wit, y.length ≤ k) :
    (wholeB t).length ≤ 26 + n * 40 + m * (17 + k) + n * (9 + w * (9 + k)) := by
  have a1 := bare_len h1 h2 h3
  have a4 := cat_len witB (9 + w * (9 + k)) t.ins (fun x hx => by
    obtain ⟨b1, b2⟩ := h4 x hx
    have b3 := flat_le k x.wit b2
    have b4 := sizeB_len (x.wit.length : Int)
    have b5 : x.wit.length * (9 + k) ≤ w * (9 + k) := Nat.mul_le_mul_right _ b1
    simp only [witB, List.length_append]; omega)
  have a5 : t.ins.length * (9 + w * (9 + k)) ≤ n * (9 + w * (9 + k)) := Nat.mul_le_mul_right _ h1
  simp only [wholeB, List.length_append]
  omega
theorem counts_len {t : TTx} (h : countsB t = true) : (bareB t).length ≤ 100000 ∧ (wholeB t).length ≤ 1000000 := by
  obtain ⟨h1, h2, h3, h4⟩ := countsB_ok h
  have := bare_len h1 h2 h3
  have := whole_len h1 h2 h3 h4
  omega

/-- Such as may be asked about. -/
def smallT (t : TTx) : Bool := decide (t.ins.length ≤ 6) && decide (t.outs.length ≤ 6) && (t.outs.all fun x => decide (x.scr.length ≤ 600)) && t.ins.all fun x => decide (x.wit.length ≤ 6) && x.wit.all fun y => decide (y.length ≤ 600)
theorem smallT_ok {t : TTx} (h : smallT t = true) : t.ins.length ≤ 6 ∧ t.outs.length ≤ 6 ∧ (∀ x ∈ t.outs, x.scr.length ≤ 600) ∧ ∀ x ∈ t.ins, x.wit.length ≤ 6 ∧ ∀ y ∈ x.wit, y.length ≤ 600 := by
  simpa [smallT, and_assoc] using h

end Go.Fw

end

section
/- A transaction as an argument. Plain. -/
namespace Go.Fw
open Go
set_option linter.unusedVariables false
set_option linter.unusedSimpArgs false

abbrev shIn : Sh := .st [.st [.ba 32, .int .u32], .int .u32, .sq 1 .by]
abbrev shOut : Sh := .st [.int .u64, .by]
abbrev shTx : Sh := .st [.int .u32, .sq 35 shIn, .sq 2 shOut, .int .u32]

theorem list_of {α : Type} {f : α → T} {P : T → Prop} (hf : ∀ x, P x → x.wf → ∃ a, x = f a) : ∀ xs : List T, (∀ x ∈ xs, P x) → T.wfL xs → ∃ l : List α, xs = l.map f
  | [], _, _ => ⟨[], rfl⟩
  | x :: xs, h, hw => by
    obtain ⟨hw1, hw2⟩ := (by simpa only [T.wfL] using hw : x.wf ∧ T.wfL xs)
    obtain ⟨a, rfl⟩ := hf x (h x (by simp)) hw1
    obtain ⟨l, rfl⟩ := list_of hf xs (fun y hy => h y (by simp [hy])) hw2
    exact ⟨a :: l, rfl⟩
theorem by_of (x : T) (h : Sh.by.has x) (hw : x.wf) : ∃ a, x = .by a := by
  cases x <;> simp only [Sh.has] at h
  exact ⟨_, rfl⟩
theorem u32_shp {x : T} (h : (Sh.int .u32).has x) (hw : x.wf) : ∃ a : UInt32, x = .int .u32 (a.toNat : Int) := by
  cases x <;> simp only [Sh.has] at h
  rename_i k v
  subst h
  have hv := (inKb_iff .u32 v).2 (by simpa only [T.wf] using hw)
  have h1 : 0 ≤ v ∧ v < 4294967296 := by simp only [inKb, Bool.and_eq_true, decide_eq_true_eq] at hv; omega
  refine ⟨UInt32.ofNat v.toNat, ?_⟩
  rw [UInt32.toNat_ofNat']
  congr 1; omega
theorem u64_shp {x : T} (h : (Sh.int .u64).has x) (hw : x.wf) : ∃ a : UInt64, x = .int .u64 (a.toNat : Int) := by
  cases x <;> simp only [Sh.has] at h
  rename_i k v
  subst h
  have hv := (inKb_iff .u64 v).2 (by simpa only [T.wf] using hw)
  have h1 : 0 ≤ v ∧ v < 18446744073709551616 := by simp only [inKb, Bool.and_eq_true, decide_eq_true_eq] at hv; omega
  refine ⟨UInt64.ofNat v.toNat, ?_⟩
  rw [UInt64.toNat_ofNat']
  congr 1; omega
theorem h32_of {x : T} (h : (Sh.ba 32).has x) : ∃ a : H32, x = .ba 32 a.1 := by
  cases x <;> simp only [Sh.has] at h
  obtain ⟨rfl, h2⟩ := h
  exact ⟨⟨_, h2⟩, rfl⟩
theorem hasL1 {a : Sh} {l : List Sh} {xs : List T} (h : Sh.hasL (a :: l) xs) : ∃ x ys, xs = x :: ys ∧ a.has x ∧ Sh.hasL l ys := by
  cases xs <;> simp only [Sh.hasL] at h
  exact ⟨_, _, rfl, h.1, h.2⟩
theorem hasL0 {xs : List T} (h : Sh.hasL [] xs) : xs = [] := by
  cases xs <;> simp only [Sh.hasL] at h
  rfl
theorem wfL1 {x : T} {ys : List T} (h : T.wfL (x :: ys)) : x.wf ∧ T.wfL ys := by simpa only [T.wfL] using h
theorem in_of (x : T) (h : shIn.has x) (hw : x.wf) : ∃ a, x = inT a := by
  cases x <;> simp only [Sh.has] at h
  simp only [T.wf] at hw
  obtain ⟨r, ys, rfl, h1, h2⟩ := hasL1 h
  obtain ⟨q, ys, rfl, h3, h4⟩ := hasL1 h2
  obtain ⟨w, ys, rfl, h5, h6⟩ := hasL1 h4
  obtain rfl := hasL0 h6
  obtain ⟨w1, hw⟩ := wfL1 hw
  obtain ⟨w2, hw⟩ := wfL1 hw
  obtain ⟨w3, hw⟩ := wfL1 hw
  cases r <;> simp only [Sh.has] at h1
  simp only [T.wf] at w1
  obtain ⟨hh, ys, rfl, g1, g2⟩ := hasL1 h1
  obtain ⟨i, ys, rfl, g3, g4⟩ := hasL1 g2
  obtain rfl := hasL0 g4
  obtain ⟨w4, w1⟩ := wfL1 w1
  obtain ⟨w5, w1⟩ := wfL1 w1
  obtain ⟨a, rfl⟩ := h32_of g1
  obtain ⟨b, rfl⟩ := u32_shp g3 w5
  obtain ⟨c, rfl⟩ := u32_shp h3 w2
  cases w <;> simp only [Sh.has] at h5
  obtain ⟨rfl, h5⟩ := h5
  simp only [T.wf] at w3
  obtain ⟨l, rfl⟩ := list_of by_of _ h5 w3.2.2.2
  exact ⟨⟨a, b, c, l⟩, rfl⟩
theorem out_of (x : T) (h : shOut.has x) (hw : x.wf) : ∃ a, x = outT a := by
  cases x <;> simp only [Sh.has] at h
  simp only [T.wf] at hw
  obtain ⟨v, ys, rfl, h1, h2⟩ := hasL1 h
  obtain ⟨s, ys, rfl, h3, h4⟩ := hasL1 h2
  obtain rfl := hasL0 h4
  obtain ⟨w1, hw⟩ := wfL1 hw
  obtain ⟨w2, hw⟩ := wfL1 hw
  obtain ⟨a, rfl⟩ := u64_shp h1 w1
  obtain ⟨b, rfl⟩ := by_of s h3 w2
  exact ⟨⟨a, b⟩, rfl⟩
theorem tx_of {x : T} (h : shTx.has x) (hw : x.wf) : ∃ a, x = txT a := by
  cases x <;> simp only [Sh.has] at h
  simp only [T.wf] at hw
  obtain ⟨v, ys, rfl, h1, h2⟩ := hasL1 h
  obtain ⟨is, ys, rfl, h3, h4⟩ := hasL1 h2
  obtain ⟨os, ys, rfl, h5, h6⟩ := hasL1 h4
  obtain ⟨k, ys, rfl, h7, h8⟩ := hasL1 h6
  obtain rfl := hasL0 h8
  obtain ⟨w1, hw⟩ := wfL1 hw
  obtain ⟨w2, hw⟩ := wfL1 hw
  obtain ⟨w3, hw⟩ := wfL1 hw
  obtain ⟨w4, hw⟩ := wfL1 hw
  obtain ⟨a, rfl⟩ := u32_shp h1 w1
  obtain ⟨b, rfl⟩ := u32_shp h7 w4
  cases is <;> simp only [Sh.has] at h3
  obtain ⟨rfl, h3⟩ := h3
  simp only [T.wf] at w2
  obtain ⟨l, rfl⟩ := list_of in_of _ h3 w2.2.2.2
  cases os <;> simp only [Sh.has] at h5
  obtain ⟨rfl, h5⟩ := h5
  simp only [T.wf] at w3
  obtain ⟨m, rfl⟩ := list_of out_of _ h5 w3.2.2.2
  exact ⟨⟨a, l, m, b⟩, rfl⟩

end Go.Fw

end

section
/- Coins, their order, a place among them. Plain laws. -/
namespace Go.Fw
open Go
set_option linter.unusedVariables false
set_option linter.unusedSimpArgs false

structure TRef where
  h : H32
  i : UInt32
structure TCoin where
  r : TRef
  out : TOut
  ht : UInt32
  first : Bool
def rfT (r : TRef) : T := .st [.ba 32 r.h.1, .int .u32 (r.i.toNat : Int)]
def coinT (c : TCoin) : T := .st [rfT c.r, outT c.out, .int .u32 (c.ht.toNat : Int), .bool c.first]
theorem coinT_st (c : TCoin) : coinT c = .st [.st [.ba 32 c.r.h.1, .int .u32 (c.r.i.toNat : Int)], .st [.int .u64 (c.out.val.toNat : Int), .by c.out.scr], .int .u32 (c.ht.toNat : Int), .bool c.first] := rfl
theorem rfT_inj (a b : TRef) (h : rfT a = rfT b) : a = b := by
  obtain ⟨⟨h1, g1⟩, i1⟩ := a
  obtain ⟨⟨h2, g2⟩, i2⟩ := b
  simp only [rfT, T.st.injEq, List.cons.injEq, T.ba.injEq, T.int.injEq, true_and, and_true] at h
  obtain ⟨h3, h4⟩ := h
  have h5 : i1 = i2 := UInt32.toNat_inj.1 (by omega)
  subst h3 h5
  rfl
theorem coinT_inj (a b : TCoin) (h : coinT a = coinT b) : a = b := by
  obtain ⟨r1, ⟨v1, s1⟩, t1, f1⟩ := a
  obtain ⟨r2, ⟨v2, s2⟩, t2, f2⟩ := b
  simp only [coinT, outT, T.st.injEq, List.cons.injEq, T.int.injEq, T.by.injEq, T.bool.injEq, true_and, and_true] at h
  obtain ⟨h1, ⟨h2, h3⟩, h4, h5⟩ := h
  have h6 := rfT_inj _ _ h1
  have h7 : v1 = v2 := UInt64.toNat_inj.1 (by omega)
  have h8 : t1 = t2 := UInt32.toNat_inj.1 (by omega)
  subst h6 h7 h8 h3 h5
  rfl
theorem coins_inj (a b : List TCoin) (h : a.map coinT = b.map coinT) : a = b := by
  induction a generalizing b with
  | nil => cases b with
    | nil => rfl
    | cons y b => simp at h
  | cons x a ih => cases b with
    | nil => simp at h
    | cons y b =>
      simp only [List.map_cons, List.cons.injEq] at h
      rw [coinT_inj _ _ h.1, ih _ h.2]
def dCoin : TCoin := ⟨⟨zH, 0⟩, ⟨0, []⟩, 0, false⟩
theorem coin_getD (l : List TCoin) (i : Nat) (h : i < l.length) : (l.map coinT).getD i default = coinT (l.getD i dCoin) := by simp [h]

/-- Which Ref stands ahead. -/
def cmpI (a b : Int) : Int := if a < b then -1 else if b < a then 1 else 0
def cmpR (a b : TRef) : Int := if cmpL a.h.1 b.h.1 = 0 then cmpI (a.i.toNat : Int) (b.i.toNat : Int) else cmpL a.h.1 b.h.1
theorem cmpL_rng (x y : List UInt8) : -1 ≤ cmpL x y ∧ cmpL x y ≤ 1 := by
  induction x generalizing y with
  | nil => cases y <;> simp [cmpL]
  | cons u x ih =>
    cases y with
    | nil => simp [cmpL]
    | cons v y =>
      unfold cmpL
      split
      · exact ih y
      · split <;> omega
theorem cmpL_eq : ∀ x y : List UInt8, cmpL x y = 0 → x = y
  | [], [], _ => rfl
  | [], _ :: _, h => by simp [cmpL] at h
  | _ :: _, [], h => by simp [cmpL] at h
  | u :: x, v :: y, h => by
    unfold cmpL at h
    split at h
    · rename_i e
      subst e
      rw [cmpL_eq x y h]
    · split at h <;> cases h
theorem cmpL_self : ∀ x : List UInt8, cmpL x x = 0
  | [] => rfl
  | u :: x => by unfold cmpL; rw [if_pos rfl]; exact cmpL_self x

/-- A search by halves. -/
def bsN (f : Nat → Int) : Nat → Nat → Nat → Nat
  | 0, i, _ => i
  | n + 1, i, j => if i < j then (if f ((i + j) / 2) < 0 then bsN f n ((i + j) / 2 + 1) j else bsN f n i ((i + j) / 2)) else i
theorem bsN_more (f : Nat → Int) : ∀ (n m i j : Nat), j - i < n → j - i < m → bsN f n i j = bsN f m i j
  | 0, _, _, _, h, _ => by omega
  | n + 1, 0, _, _, _, h => by omega
  | n + 1, m + 1, i, j, h1, h2 => by
    unfold bsN
    split
    · split
      · exact bsN_more f n m _ _ (by omega) (by omega)
      · exact bsN_more f n m _ _ (by omega) (by omega)
    · rfl
theorem bs_step {f : Nat → Int} {n i j : Nat} (hlt : i < j) (hn : j - i < n) : bsN f n i j = if f ((i + j) / 2) < 0 then bsN f n ((i + j) / 2 + 1) j else bsN f n i ((i + j) / 2) := by
  cases n with
  | zero => omega
  | succ n =>
    have e : bsN f (n + 1) i j = if f ((i + j) / 2) < 0 then bsN f n ((i + j) / 2 + 1) j else bsN f n i ((i + j) / 2) := by rw [bsN, if_pos hlt]
    rw [e]
    split
    · exact bsN_more f n (n + 1) _ _ (by omega) (by omega)
    · exact bsN_more f n (n + 1) _ _ (by omega) (by omega)
theorem bs_end {f : Nat → Int} {n i j : Nat} (h : ¬ i < j) : bsN f n i j = i := by
  cases n with
  | zero => rfl
  | succ n => rw [bsN, if_neg h]
def plN (l : List TCoin) (r : TRef) : Nat := bsN (fun k => cmpR (l.getD k dCoin).r r) (l.length + 1) 0 l.length
def plB (l : List TCoin) (r : TRef) : Bool := decide (plN l r < l.length) && decide (cmpR (l.getD (plN l r) dCoin).r r = 0)
theorem bsN_le (f : Nat → Int) : ∀ (n i j : Nat), i ≤ j → bsN f n i j ≤ j
  | 0, i, j, h => h
  | n + 1, i, j, h => by
    unfold bsN
    split
    · split
      · exact bsN_le f n _ _ (by omega)
      · exact Nat.le_trans (bsN_le f n _ _ (by omega)) (by omega)
    · exact h
theorem plN_le (l : List TCoin) (r : TRef) : plN l r ≤ l.length := bsN_le _ _ _ _ (Nat.zero_le _)

/-! ### Coins added, taken out. -/
def insC (l : List TCoin) (i : Nat) (c : TCoin) : List TCoin := l.take i ++ [c] ++ l.drop i
def delC (l : List TCoin) (i j : Nat) : List TCoin := l.take i ++ l.drop j
def addV (l : List TCoin) (c : TCoin) : List TCoin × Int := if plB l c.r = true then (l, 32) else (insC l (plN l c.r) c, 0)
def spdV (l : List TCoin) (r : TRef) : List TCoin × TCoin × Int := if plB l r = true then (delC l (plN l r) (plN l r + 1), l.getD (plN l r) dCoin, 0) else (l, dCoin, 33)

/-- Scripts such as may be copied. -/
def lowC (c : TCoin) : Bool := decide (c.out.scr.length ≤ 549755813000)
def lowL (l : List TCoin) : Bool := l.all lowC
theorem lowL_get {l : List TCoin} (h : lowL l = true) {i : Nat} (hi : i < l.length) : lowC (l.getD i dCoin) = true := by
  have := List.all_eq_true.1 h l[i] (List.getElem_mem _)
  rwa [List.getD_eq_getElem?_getD, List.getElem?_eq_getElem hi]
theorem lowL_app {a b : List TCoin} : lowL (a ++ b) = (lowL a && lowL b) := by unfold lowL; rw [List.all_append]
theorem lowL_take {l : List TCoin} (h : lowL l = true) (i : Nat) : lowL (l.take i) = true := List.all_eq_true.2 fun x hx => List.all_eq_true.1 h x (List.mem_of_mem_take hx)
theorem lowL_drop {l : List TCoin} (h : lowL l = true) (i : Nat) : lowL (l.drop i) = true := List.all_eq_true.2 fun x hx => List.all_eq_true.1 h x (List.mem_of_mem_drop hx)
theorem lowL_del {l : List TCoin} (h : lowL l = true) (i j : Nat) : lowL (delC l i j) = true := by unfold delC; rw [lowL_app, lowL_take h, lowL_drop h]; rfl
theorem lowL_ins {l : List TCoin} (h : lowL l = true) (i : Nat) {c : TCoin} (hc : lowC c = true) : lowL (insC l i c) = true := by
  unfold insC
  rw [lowL_app, lowL_app, lowL_take h, lowL_drop h]
  simp [lowL, hc]
theorem delC_len (l : List TCoin) (i : Nat) : (delC l i (i + 1)).length ≤ l.length := by unfold delC; rw [List.length_append, List.length_take, List.length_drop]; omega
theorem insC_len (l : List TCoin) (i : Nat) (c : TCoin) : (insC l i c).length = l.length + 1 := by
  unfold insC
  rw [List.length_append, List.length_append, List.length_take, List.length_drop]
  simp; omega
theorem spdV_ok {l : List TCoin} (h : lowL l = true) (r : TRef) : lowL (spdV l r).1 = true ∧ (spdV l r).1.length ≤ l.length ∧ lowC (spdV l r).2.1 = true := by
  unfold spdV
  split
  · rename_i hb
    have hlt : plN l r < l.length := by
      unfold plB at hb
      rw [Bool.and_eq_true] at hb
      exact of_decide_eq_true hb.1
    exact ⟨lowL_del h _ _, delC_len _ _, lowL_get h hlt⟩
  · exact ⟨h, Nat.le_refl _, rfl⟩
theorem addV_ok {l : List TCoin} (h : lowL l = true) {c : TCoin} (hc : lowC c = true) : lowL (addV l c).1 = true ∧ (addV l c).1.length ≤ l.length + 1 := by
  unfold addV
  split
  · exact ⟨h, Nat.le_succ _⟩
  · exact ⟨lowL_ins h _ hc, by rw [insC_len]; exact Nat.le_refl _⟩
/-- All coins of Refs taken out. -/
def takeV : List TCoin → List TRef → List TCoin → List TCoin × List TCoin × Int
  | l, [], acc => (l, acc, 0)
  | l, r :: rs, acc => if (spdV l r).2.2 ≠ 0 then ((spdV l r).1, [], (spdV l r).2.2) else takeV (spdV l r).1 rs (acc ++ [(spdV l r).2.1])
def refsT (l : List TRef) : T := .sq 33 (l.map rfT)
theorem refsT_inj (a b : List TRef) (h : refsT a = refsT b) : a = b := by
  simp only [refsT, T.sq.injEq, true_and] at h
  induction a generalizing b with
  | nil => cases b with
    | nil => rfl
    | cons y b => simp at h
  | cons x a ih => cases b with
    | nil => simp at h
    | cons y b =>
      simp only [List.map_cons, List.cons.injEq] at h
      rw [rfT_inj _ _ h.1, ih _ h.2]
def dRef : TRef := ⟨zH, 0⟩
theorem ref_getD (l : List TRef) (i : Nat) (h : i < l.length) : (l.map rfT).getD i default = rfT (l.getD i dRef) := by simp [h]
def insR (t : TTx) (first : Bool) : List TRef := if first = true then [] else t.ins.map fun x => ⟨x.prev, x.idx⟩

theorem takeV_ok : ∀ (rs : List TRef) (l acc : List TCoin), lowL l = true → lowL acc = true → lowL (takeV l rs acc).1 = true ∧ (takeV l rs acc).1.length ≤ l.length ∧ lowL (takeV l rs acc).2.1 = true ∧ (takeV l rs acc).2.1.length ≤ acc.length + rs.length
  | [], l, acc, h, ha => ⟨h, Nat.le_refl _, ha, Nat.le_refl _⟩
  | r :: rs, l, acc, h, ha => by
    obtain ⟨s1, s2, s3⟩ := spdV_ok h r
    unfold takeV
    split
    · exact ⟨s1, s2, rfl, Nat.zero_le _⟩
    · obtain ⟨t1, t2, t3, t4⟩ := takeV_ok rs (spdV l r).1 (acc ++ [(spdV l r).2.1]) s1 (by rw [lowL_app, ha]; simp [lowL, s3])
      refine ⟨t1, by omega, t3, ?_⟩
      rw [List.length_append] at t4
      simp only [List.length_cons, List.length_nil] at t4 ⊢
      omega
/-- Coins added, one behind the other. -/
def addsV : List TCoin → List TCoin → List TCoin × Int
  | l, [] => (l, 0)
  | l, c :: cs => if (addV l c).2 ≠ 0 then ((addV l c).1, (addV l c).2) else addsV (addV l c).1 cs
theorem addsV_ok : ∀ (cs l : List TCoin), lowL l = true → lowL cs = true → lowL (addsV l cs).1 = true ∧ (addsV l cs).1.length ≤ l.length + cs.length
  | [], l, h, _ => ⟨h, Nat.le_refl _⟩
  | c :: cs, l, h, hc => by
    have hc2 : lowC c = true ∧ lowL cs = true := by simpa [lowL] using hc
    obtain ⟨a1, a2⟩ := addV_ok h hc2.1
    unfold addsV
    split
    · exact ⟨a1, by simp only [List.length_cons]; omega⟩
    · obtain ⟨b1, b2⟩ := addsV_ok cs (addV l c).1 a1 hc2.2
      exact ⟨b1, by simp only [List.length_cons]; omega⟩
def madeC (t : TTx) (nm : H32) (ht : UInt32) (first : Bool) : List TCoin := (List.range t.outs.length).map fun i => ⟨⟨nm, UInt32.ofNat i⟩, t.outs.getD i dOut, ht, first⟩
theorem madeC_len (t : TTx) (nm : H32) (ht : UInt32) (first : Bool) : (madeC t nm ht first).length = t.outs.length := by simp [madeC]
theorem madeC_low {t : TTx} (h : countsB t = true) (nm : H32) (ht : UInt32) (first : Bool) : lowL (madeC t nm ht first) = true := by
  refine List.all_eq_true.2 fun x hx => ?_
  simp only [madeC, List.mem_map, List.mem_range] at hx
  obtain ⟨i, hi, rfl⟩ := hx
  have := (countsB_ok h).2.2.1 (t.outs.getD i dOut) (by simp [List.getD_eq_getElem?_getD, hi])
  unfold lowC
  rw [decide_eq_true_eq]
  dsimp only
  omega
theorem madeC_drop (t : TTx) (nm : H32) (ht : UInt32) (first : Bool) {i : Nat} (hi : i < t.outs.length) : (madeC t nm ht first).drop i = ⟨⟨nm, UInt32.ofNat i⟩, t.outs.getD i dOut, ht, first⟩ :: (madeC t nm ht first).drop (i + 1) := by
  rw [List.drop_eq_getElem_cons (by rw [madeC_len]; exact hi)]
  simp [madeC]
/-- A transaction applied; an error may leave a part of it. -/
def applyV (l : List TCoin) (t : TTx) (nm : H32) (ht : UInt32) (first : Bool) : List TCoin × List TCoin × Int :=
  if chkE t ≠ 0 then (l, [], 4)
  else if (takeV l (insR t first) []).2.2 ≠ 0 then ((takeV l (insR t first) []).1, [], (takeV l (insR t first) []).2.2)
  else if (addsV (takeV l (insR t first) []).1 (madeC t nm ht first)).2 ≠ 0 then ((addsV (takeV l (insR t first) []).1 (madeC t nm ht first)).1, [], (addsV (takeV l (insR t first) []).1 (madeC t nm ht first)).2)
  else ((addsV (takeV l (insR t first) []).1 (madeC t nm ht first)).1, (takeV l (insR t first) []).2.1, 0)
def h32T (h : UInt32) : T := .int .u32 (h.toNat : Int)
theorem h32T_inj (a b : UInt32) (h : h32T a = h32T b) : a = b := by
  simp only [h32T, T.int.injEq, true_and] at h
  exact UInt32.toNat_inj.1 (by omega)

end Go.Fw

end

section
/- Rows of elements of any number of cells: copies into a row of the call's own; two rows that lie apart. -/
namespace Go.Fw
set_option linter.unusedVariables false
set_option linter.unusedSimpArgs false
open Go

theorem run_copy_row {P : Program} {E : Env} (w : World) {t u ty e : TypeId} (ht : P.underlying t = some (.slice e)) (he : TyOk P E e) {g o dn dc : Nat} {cur : Array Value} {e' : TypeId}
    (hh : w.heap[g]? = some (.cells cur e' (0, 0))) {a : Addr} {sn sc : Nat} {cs : List Value} (hn : cs.length = Nat.min sn dn * (E e).size)
    (hsrc : ∀ j v, cs[j]? = some v → w.cell? (a.add j) = some v) (hfit : o + cs.length ≤ cur.size) (hone : ∀ v ∈ cs, v.oneCell' = true) :
    (Builtin.copy_ #[t, u] ty #[.slice (some ⟨g, o, none⟩) dn dc, .slice (some a) sn sc]).run P w =
      .ok (goInt (Nat.min sn dn)) (w.setRow g (cur.toList.take o ++ cs ++ cur.toList.drop (o + cs.length)).toArray) := by
  have hl := run_loadCells_list (P := P) w a cs hsrc
  have hst := run_storeCells_at P g o e' cs 0 cur w hh (by simpa using hfit) hone
  simp only [Nat.add_zero] at hst
  simp [Builtin.copy_, run_underlying ht, Builtin.lenOf, Builtin.firstCells, he.sizeOf, ← hn, hl, hst]

/-- A row of the call's own and another row do not overlap. -/
theorem run_overlaps_own {P : Program} (w : World) (tS tR e : TypeId) (ht : P.underlying tS = some (.slice e)) (size : Nat) (hz : ∀ w, (Go.sizeOf e).run P w = .ok size w)
    (a b : Addr) (la ca lb cb : Nat) (hne : a.block ≠ b.block) (tA tB : TypeId) (kA kB : Nat)
    (hsa : w.shape? a.block = some (tA, kA)) (hsb : w.shape? b.block = some (tB, kB)) (hkA : kA ≠ 0) (hkB : kB ≠ 0)
    (hfb : w.frozen? b = false) (hfe : w.frozen? { block := b.block, off := kB } = false) :
    (Extern.SlicesOverlaps.overlaps #[tS, tS] #[tR] #[.slice (some a) la ca, .slice (some b) lb cb]).run P w = .ok (.bool false) w := by
  have hnb : (a.block != b.block) = true := by simpa using hne
  have hnb' : (a.block == b.block) = false := by simpa using hne
  conv => lhs; arg 2; whnf
  have hpb : ∀ (f : TypeDesc → Sem Value), Sem.bind (pure (TypeDesc.slice e)) f = f (.slice e) := fun _ => rfl
  by_cases h0 : la = 0 ∨ lb = 0 ∨ size = 0
  · simp [Sem.run, Sem.bind, hpb, ht, run_underlying ht, hz, h0]
  · cases kB with
    | zero => exact absurd rfl hkB
    | succ kB =>
      cases kA with
      | zero => exact absurd rfl hkA
      | succ kA =>
      cases ha : w.frozen? a <;> cases hb : w.frozen? { block := a.block, off := kA + 1 } <;>
        simp [Sem.bind, hpb, ht, run_underlying ht, hz, h0, hnb, hnb', frozen, noView, viewAt, mayBeOne, stringish, shape, Sem.run, hsa, hsb, hfb, hfe, ha, hb]


/-- The row that was lent is gone, a new one stands in its place. -/
theorem own_new {c : Ctx} {m : Mem} {w w' : World} {sz : Nat} {xs ys : List T} (h : Inv c m w [.sq sz xs]) {g : Nat} (hg : blk (m.η 0) = some g) (hos : w'.os = w.os) (htape : w'.tape = w.tape) (hout : w'.output = w.output)
    (hsize : w.heap.size ≤ w'.heap.size) (hblk : ∀ b, b < w.heap.size → b ≠ g → w'.heap[b]? = w.heap[b]?) (hw : T.wf (.sq sz ys)) {b cap : Nat} {cur : Array Value} {e : TypeId}
    (hh : w'.heap[b]? = some (.cells cur e (0, 0))) (hs : cur.size = cap * sz) (hn : ys.length ≤ cap) (hc : cap ≤ maxLen) (hb : b = g ∨ w.heap.size ≤ b)
    (hr : ∀ (j : Nat) (c : T), (T.cellsL ys)[j]? = some c → ∃ u, cur[j]? = some u ∧ RelT m.M c u) :
    Inv c (m.push (.slice (some ⟨b, 0, none⟩) ys.length cap)) w' [.no, .sq sz ys] ∧ RelA (m.push (.slice (some ⟨b, 0, none⟩) ys.length cap)) (.own 1) (.slice (some ⟨b, 0, none⟩) ys.length cap) := by
  have hat := (h.ok 0 _ rfl).at rfl hg
  have hM : m.M b = none := by
    rcases hb with rfl | hb
    · exact hat.1
    · exact M_fresh h hb
  refine ⟨h.put (fun b => b = g) hos htape hout hsize hblk (H1 := [.no]) rfl ?_ ?_ ?_ ⟨hw, .inr ⟨b, cap, cur, e, rfl, hh, hs, hn, hc, hM, hr⟩⟩ ?_, push_own h.len _⟩
  · intro k B hk hl
    cases k with
    | zero => cases hk; cases hl
    | succ k => cases hk
  · intro k B hk hl
    cases k with
    | zero => cases hk; exact .inr rfl
    | succ k => cases hk
  · intro b hb
    subst hb
    exact ⟨hat.1, h.own 0 _ _ rfl rfl hg⟩
  · intro b' _ hb'
    cases hb'
    exact hb.symm


theorem zrow_one {P : Program} {E : Env} {e : TypeId} (he : TyOk P E e) {z : Value} {i : TypeInfo} (hi : P.info? e = some i) (hz : i.zero = some z) (n : Nat) :
    z.cells.size = (E e).size ∧ (∀ v ∈ (Builtin.zeroCells z.cells n).toList, v.oneCell' = true) ∧ (Builtin.zeroCells z.cells n).toList.length = n * (E e).size := by
  obtain ⟨i', z', hi', h1, h2, h3, h4, h5, h6⟩ := he.info
  rw [hi] at hi'; cases hi'
  rw [hz] at h3; cases h3
  obtain ⟨v1, v2⟩ := h4.value_cells
  have hsz : z.cells.size = (E e).size := by rw [v1, h5]
  have hcl := T.cells_len _ h4.wf
  refine ⟨hsz, ?_, by simp [Builtin.zeroCells, hsz]⟩
  intro v hv
  simp only [Builtin.zeroCells, Array.toList_map, Array.toList_range, List.mem_map, List.mem_range, hsz] at hv
  obtain ⟨j, hj, rfl⟩ := hv
  have hlt : j % (E e).size < (E e).zero.cells.length := by rw [hcl, h5]; exact Nat.mod_lt _ h6
  obtain ⟨u, hu1, hu2⟩ := v2 (j % (E e).size) _ (List.getElem?_eq_getElem hlt)
  rw [getElem!_def, hu1]
  have : T.cells (E e).zero = T.cellsL [(E e).zero] := by simp [T.cellsL]
  exact hu2.oneCell (T.cellsL_flat [(E e).zero] _ (by rw [← this]; exact List.getElem_mem hlt))

theorem run_clear_row {P : Program} {E : Env} (w : World) {t e : TypeId} (ht : P.underlying t = some (.slice e)) (he : TyOk P E e) {g o n : Nat} {cur : Array Value} {e' : TypeId}
    (hh : w.heap[g]? = some (.cells cur e' (0, 0))) (hn : n ≠ 0) (hfit : o + n * (E e).size ≤ cur.size) :
    ∃ zs : List Value, zs.length = n * (E e).size ∧ ∀ ty cp, (Builtin.clear_ #[t] ty #[.slice (some ⟨g, o, none⟩) n cp]).run P w = .ok (.tuple #[]) (w.setRow g (cur.toList.take o ++ zs ++ cur.toList.drop (o + zs.length)).toArray) := by
  obtain ⟨i, z, hi, h1, h2, h3, h4, h5, h6⟩ := he.info
  obtain ⟨e1, e2, e3⟩ := zrow_one he hi h3 n
  refine ⟨(Builtin.zeroCells z.cells n).toList, e3, fun ty cp => ?_⟩
  have hst := run_storeCells_at P g o e' (Builtin.zeroCells z.cells n).toList 0 cur w hh (by rw [e3]; simpa using hfit) e2
  simp only [Nat.add_zero] at hst
  cases n with
  | zero => exact absurd rfl hn
  | succ n => simp [Builtin.clear_, run_underlying ht, zeroValue, typeInfo, hi, h3, hst]

end Go.Fw

end

section
/- nil in a box, taken for an empty slice without room. -/
namespace Go.Fw
open Go
set_option linter.unusedVariables false

theorem Weak.exBx {kp N : Nat} {S : AS} {v v' : AV} (i : Nat) (p : List Nat) (o : Nat) (B : T) (hi : S.H[i]? = some (.bx v)) (hg : AV.get v p = some (.t .nil)) (ho : AV.off v p = some o) (hs' : AV.set v p (.ex B) = some v')
    (hB : B = .by [] ∨ ∃ sz, 0 < sz ∧ B = .sq sz []) : Weak kp N S ⟨S.s, S.H.set i (.bx v')⟩ := by
  intro c hc m w a hinv hs
  refine ⟨m, ?_, hs⟩
  obtain ⟨b, cur, e, hd, hh, hM, hw, hcs, hcc⟩ := hinv.ok _ _ hi
  obtain ⟨k1, k2, k3, k4⟩ := AV.set_ok p v _ _ v' o hw hg ho hs' (by simp only [AV.wf]) (by simp only [AV.size]; rfl)
  have hold : ∀ j c', (AV.t T.nil).cells[j]? = some c' → v.cells[o + j]? = some c' := (AV.get_ok p v _ o hw hg ho).2
  refine hinv.upd (w' := w) hi rfl rfl rfl rfl rfl (fun _ _ => rfl) ⟨b, cur, e, hd, hh, hM, k1, by rw [hcs, k2], fun j d hj => ?_⟩
  rw [k4 j] at hj
  by_cases hr : o ≤ j ∧ j < o + (AV.ex B).cells.length
  · rw [if_pos hr] at hj
    simp only [AV.cells, List.length_cons, List.length_nil] at hj hr
    have hj0 : j = o := by omega
    subst hj0
    simp at hj
    subst hj
    obtain ⟨u, hu, hru⟩ := hcc j (.t .nil) (by have := hold 0 (.t .nil) rfl; simpa using this)
    have := hru.t_inv
    cases this
    refine ⟨_, hu, .ex ?_⟩
    rcases hB with rfl | ⟨sz, hsz, rfl⟩
    · exact .byn
    · exact .sqn hsz
  · rw [if_neg hr] at hj
    exact hcc j d hj

end Go.Fw

end

section
/- A row of the call's own that a box names: told anew as the last of all blocks. -/
namespace Go.Fw
open Go
set_option linter.unusedVariables false

theorem Weak.moveBx {kp N : Nat} {S : AS} {v v' : AV} (j i : Nat) (p : List Nat) (o : Nat) (B : Blk) (hi : S.H[i]? = some B) (hl : B.live = true) (hj : S.H[j]? = some (.bx v)) (hij : j ≠ i) (hg : AV.get v p = some (.own i)) (ho : AV.off v p = some o) (hs' : AV.set v p (.own S.H.length) = some v') :
    Weak kp N S ⟨S.s, ((S.H.set i .no).set j (.bx v')) ++ [B]⟩ := by
  intro c hc m w a hinv hs
  have hlt := (List.getElem?_eq_some_iff.1 hi).1
  have hjlt := (List.getElem?_eq_some_iff.1 hj).1
  have hext := Ext.push m (m.η i)
  have h1 : Inv c (m.push (m.η i)) w (S.H.set i .no ++ [B]) := by
    refine hinv.put (fun b => blk (m.η i) = some b) rfl rfl rfl (Nat.le_refl _) (fun b hb _ => rfl) (by simp) (fun k B' hk hl' => ?_) (fun k B' hk hl' => ?_) (fun b hb => ?_) ?_ (fun b _ hb => .inr hb)
    · rw [List.getElem?_set] at hk
      split at hk
      · cases hk; simp [Blk.live] at hl'
      · rename_i hne
        exact ⟨hk, fun b hb hb' => hne (hinv.disj i k B B' b hi hk hl hl' hb' hb)⟩
    · rw [List.getElem?_set] at hk
      split at hk
      · cases hk; exact .inr rfl
      · exact .inl hk
    · exact ⟨((hinv.ok i B hi).at hl hb).1, hinv.own i B b hi hl hb⟩
    · exact (hinv.ok i B hi).on (hext.M) (fun k hk => ⟨Nat.lt_of_lt_of_le (hinv.blk_lt hi k hk) hext.n, hext.η k (hinv.blk_lt hi k hk)⟩) (fun b hlb hb => ⟨((hinv.ok i B hi).at hlb hb).1, rfl⟩)
  refine ⟨m.push (m.η i), ?_, hs.mono hext⟩
  have hj1 : (S.H.set i .no ++ [B])[j]? = some (.bx v) := by
    rw [List.getElem?_append_left (by simpa using hjlt), List.getElem?_set, if_neg (fun h => hij h.symm)]; exact hj
  obtain ⟨b, cur, e, hd, hh, hM, hw, hcs, hcc⟩ := h1.ok _ _ hj1
  obtain ⟨k1, k2, k3, k4⟩ := AV.set_ok p v _ _ v' o hw hg ho hs' (by trivial) rfl
  have hold : ∀ j c', (AV.own i).cells[j]? = some c' → v.cells[o + j]? = some c' := (AV.get_ok p v _ o hw hg ho).2
  have := h1.upd (w' := w) (B1 := .bx v') hj1 rfl rfl rfl rfl rfl (fun _ _ => rfl) ⟨b, cur, e, hd, hh, hM, k1, by rw [hcs, k2], fun q d hq => by
    rw [k4 q] at hq
    by_cases hr : o ≤ q ∧ q < o + (AV.own S.H.length).cells.length
    · rw [if_pos hr] at hq
      have hq0 : q = o := by simp [AV.cells] at hr; omega
      subst hq0
      simp [AV.cells] at hq
      subst hq
      obtain ⟨u, hu, hru⟩ := hcc q (.own i) (by have := hold 0 (.own i) rfl; simpa using this)
      have he := hru.own_inv.1
      rw [hext.η i (by rw [hinv.len]; exact hlt)] at he
      subst he
      exact ⟨_, hu, push_own hinv.len _⟩
    · rw [if_neg hr] at hq
      exact hcc q d hq⟩
  rw [List.set_append_left _ _ (by simpa using hjlt)] at this
  exact this

/-- A block that is no longer needed. -/
theorem Weak.drop {kp N : Nat} {S : AS} (i : Nat) (B : Blk) (hi : S.H[i]? = some B) (hl : B.live = true) : Weak kp N S ⟨S.s, S.H.set i .no⟩ := by
  intro c hc m w a hinv hs
  exact ⟨m, hinv.upd (w' := w) hi hl rfl rfl rfl rfl (fun _ _ => rfl) trivial, hs⟩

end Go.Fw

end

section
/- What is read off bytes, one behind the other: readers that note their first error; there and back. Plain laws. -/
namespace Go.Fw
open Go
set_option linter.unusedVariables false
set_option linter.unusedSimpArgs false

/-- What a reading tells. -/
inductive Res (α : Type) where
  | ok (x : α) (r : List UInt8)
  | err (e : Int)
abbrev Rdg (α : Type) := List UInt8 → Res α

section
variable {α β γ : Type}

def pbind (p : Rdg α) (q : α → Rdg β) : Rdg β := fun b => match p b with
  | .ok x r => q x r
  | .err e => .err e
def ppure (x : α) : Rdg α := fun b => .ok x b
/-- So many, one behind the other. -/
def pN (p : Rdg α) : Nat → Rdg (List α)
  | 0 => ppure []
  | n + 1 => pbind p fun x => pbind (pN p n) fun l => ppure (x :: l)
/-- A taking, as a reading. -/
def ofT (t : List UInt8 → α × List UInt8 × Int) : Rdg α := fun b => if (t b).2.2 = 0 then .ok (t b).1 (t b).2.1 else .err (t b).2.2

theorem pbind_ok {p : Rdg α} {q : α → Rdg β} {b : List UInt8} {x : α} {r : List UInt8} (h : p b = .ok x r) : pbind p q b = q x r := by unfold pbind; rw [h]
theorem pbind_err {p : Rdg α} {q : α → Rdg β} {b : List UInt8} {e : Int} (h : p b = .err e) : pbind p q b = .err e := by unfold pbind; rw [h]
theorem ofT_ok {t : List UInt8 → α × List UInt8 × Int} {b : List UInt8} {x : α} {r : List UInt8} : ofT t b = .ok x r ↔ t b = (x, r, 0) := by
  unfold ofT
  constructor
  · intro h
    split at h
    · rename_i he
      cases h
      exact Prod.ext rfl (Prod.ext rfl he)
    · cases h
  · intro h; rw [if_pos (by rw [h]), h]
theorem ofT_err {t : List UInt8 → α × List UInt8 × Int} {b : List UInt8} {e : Int} : ofT t b = .err e ↔ (t b).2.2 = e ∧ e ≠ 0 := by
  unfold ofT
  constructor
  · intro h
    split at h
    · cases h
    · rename_i he; cases h; exact ⟨rfl, he⟩
  · rintro ⟨rfl, h⟩; rw [if_neg h]

/-! ### A reader that notes its first error. -/

structure RSt where
  (b : List UInt8) (e : Int)
structure Good (f : RSt → α × RSt) (p : Rdg α) : Prop where
  ok : ∀ b x r, p b = .ok x r → f ⟨b, 0⟩ = (x, ⟨r, 0⟩)
  err : ∀ b e, p b = .err e → e ≠ 0 ∧ (f ⟨b, 0⟩).2.e = e
  stick : ∀ s, s.e ≠ 0 → (f s).2.e = s.e

theorem Good.bind {f : RSt → α × RSt} {p : Rdg α} {g : α → RSt → β × RSt} {q : α → Rdg β} (hf : Good f p) (hg : ∀ x, Good (g x) (q x)) : Good (fun s => g (f s).1 (f s).2) (pbind p q) where
  ok b y r h := by
    unfold pbind at h
    split at h
    · rename_i x r' hp
      rw [hf.ok b x r' hp]
      exact (hg x).ok r' y r h
    · cases h
  err b e h := by
    unfold pbind at h
    split at h
    · rename_i x r' hp
      rw [hf.ok b x r' hp]
      exact (hg x).err r' e h
    · rename_i e' hp
      cases h
      obtain ⟨h1, h2⟩ := hf.err b e hp
      exact ⟨h1, by rw [(hg _).stick _ (by rw [h2]; exact h1), h2]⟩
  stick s h := by
    have h1 := hf.stick s h
    rw [(hg _).stick _ (by rw [h1]; exact h), h1]
theorem Good.pure (x : α) : Good (fun s => (x, s)) (ppure x) where
  ok b y r h := by cases h; rfl
  err b e h := by cases h
  stick s h := rfl
theorem Good.congr {f g : RSt → α × RSt} {p : Rdg α} (h : Good f p) (e : ∀ s, g s = f s) : Good g p := by
  obtain rfl : g = f := funext e
  exact h

def rdN (f : RSt → α × RSt) : Nat → RSt → List α × RSt
  | 0, s => ([], s)
  | n + 1, s => ((f s).1 :: (rdN f n (f s).2).1, (rdN f n (f s).2).2)
theorem rdN_snoc (f : RSt → α × RSt) : ∀ (n : Nat) (s : RSt), rdN f (n + 1) s = ((rdN f n s).1 ++ [(f (rdN f n s).2).1], (f (rdN f n s).2).2)
  | 0, s => rfl
  | n + 1, s => by
    have := rdN_snoc f n (f s).2
    rw [rdN, this]
    rfl
theorem rdN_len (f : RSt → α × RSt) : ∀ (n : Nat) (s : RSt), (rdN f n s).1.length = n
  | 0, s => rfl
  | n + 1, s => by simp [rdN, rdN_len f n]
theorem Good.rep {f : RSt → α × RSt} {p : Rdg α} (hf : Good f p) : ∀ n, Good (rdN f n) (pN p n)
  | 0 => Good.pure []
  | n + 1 => by
    exact Good.congr (hf.bind (g := fun x s => (x :: (rdN f n s).1, (rdN f n s).2)) fun x => ((hf.rep n).bind (g := fun l s => (x :: l, s)) fun l => Good.pure (x :: l))) fun s => rfl

/-- The program's: at an error nothing is taken. -/
def rd (t : List UInt8 → α × List UInt8 × Int) (d : α) (s : RSt) : α × RSt :=
  if s.e ≠ 0 then (d, s) else if (t s.b).2.2 ≠ 0 then (d, ⟨s.b, (t s.b).2.2⟩) else ((t s.b).1, ⟨(t s.b).2.1, 0⟩)
/-- The document's: what is left is as the taking tells. -/
def rdD (t : List UInt8 → α × List UInt8 × Int) (d : α) (s : RSt) : α × RSt :=
  if s.e ≠ 0 then (d, s) else ((t s.b).1, ⟨(t s.b).2.1, (t s.b).2.2⟩)
theorem Good.rd (t : List UInt8 → α × List UInt8 × Int) (d : α) : Good (rd t d) (ofT t) where
  ok b x r h := by
    rw [ofT_ok] at h
    unfold Fw.rd
    dsimp only
    rw [if_neg (by simp), if_neg (by rw [h]; simp), h]
  err b e h := by
    rw [ofT_err] at h
    obtain ⟨h1, h2⟩ := h
    unfold Fw.rd
    dsimp only
    rw [if_neg (by simp), if_pos (by rw [h1]; exact h2)]
    exact ⟨h2, h1⟩
  stick s h := by unfold Fw.rd; rw [if_pos h]
theorem Good.rdD (t : List UInt8 → α × List UInt8 × Int) (d : α) : Good (rdD t d) (ofT t) where
  ok b x r h := by
    rw [ofT_ok] at h
    unfold Fw.rdD
    dsimp only
    rw [if_neg (by simp), h]
  err b e h := by
    rw [ofT_err] at h
    obtain ⟨h1, h2⟩ := h
    unfold Fw.rdD
    dsimp only
    rw [if_neg (by simp)]
    exact ⟨h2, h1⟩
  stick s h := by unfold Fw.rdD; rw [if_pos h]

/-! ### There and back. -/

structure Cod (p : Rdg α) (w : α → List UInt8) (ok : α → Prop) : Prop where
  put : ∀ x r, ok x → p (w x ++ r) = .ok x r
  only : ∀ b x r, p b = .ok x r → ok x ∧ w x ++ r = b
  cut : ∀ x k, ok x → k < (w x).length → p ((w x).take k) = .err 2

theorem Cod.pair {p : Rdg α} {w : α → List UInt8} {ok : α → Prop} {q : α → Rdg β} {v : α → β → List UInt8} {ok' : α → β → Prop} (hp : Cod p w ok) (hq : ∀ x, ok x → Cod (q x) (v x) (ok' x)) :
    Cod (pbind p fun x => pbind (q x) fun y => ppure (x, y)) (fun z => w z.1 ++ v z.1 z.2) (fun z => ok z.1 ∧ ok' z.1 z.2) where
  put z r h := by
    obtain ⟨h1, h2⟩ := h
    rw [List.append_assoc, pbind_ok (hp.put z.1 _ h1), pbind_ok ((hq z.1 h1).put z.2 r h2)]
    rfl
  only b z r h := by
    unfold pbind at h
    split at h
    · rename_i x r1 h1
      dsimp only at h
      split at h
      · rename_i y r2 h2
        cases h
        obtain ⟨k1, k2⟩ := hp.only _ _ _ h1
        obtain ⟨k3, k4⟩ := (hq x k1).only _ _ _ h2
        exact ⟨⟨k1, k3⟩, by dsimp only; rw [List.append_assoc, k4, k2]⟩
      · cases h
    · cases h
  cut z k h hk := by
    obtain ⟨h1, h2⟩ := h
    by_cases hw : k < (w z.1).length
    · rw [List.take_append_of_le_length (by omega), pbind_err (hp.cut z.1 k h1 hw)]
    · rw [List.take_append, List.take_of_length_le (by omega), pbind_ok (hp.put z.1 _ h1)]
      rw [List.length_append] at hk
      rw [pbind_err ((hq z.1 h1).cut z.2 _ h2 (by omega))]

theorem Cod.map {p : Rdg α} {w : α → List UInt8} {ok : α → Prop} (hp : Cod p w ok) (f : α → β) (g : β → α) (ok' : β → Prop) (h1 : ∀ x, ok x → g (f x) = x ∧ ok' (f x)) (h2 : ∀ y, ok' y → ok (g y) ∧ f (g y) = y) :
    Cod (pbind p fun x => ppure (f x)) (fun y => w (g y)) ok' where
  put y r h := by
    rw [pbind_ok (hp.put (g y) r (h2 y h).1), ppure, (h2 y h).2]
  only b y r h := by
    unfold pbind at h
    split at h
    · rename_i x r1 hx
      cases h
      obtain ⟨k1, k2⟩ := hp.only _ _ _ hx
      exact ⟨(h1 x k1).2, by rw [(h1 x k1).1, k2]⟩
    · cases h
  cut y k h hk := by rw [pbind_err (hp.cut (g y) k (h2 y h).1 hk)]

theorem Cod.rep {p : Rdg α} {w : α → List UInt8} {ok : α → Prop} (hp : Cod p w ok) : ∀ n, Cod (pN p n) (cat w) (fun l => l.length = n ∧ ∀ x ∈ l, ok x)
  | 0 => ⟨fun l r h => by obtain rfl := List.length_eq_zero_iff.1 h.1; rfl, fun b l r h => by cases h; simp [cat], fun l k h hk => by obtain rfl := List.length_eq_zero_iff.1 h.1; simp [cat] at hk⟩
  | n + 1 => by
    have ih := hp.rep n
    refine ⟨fun l r h => ?_, fun b l r h => ?_, fun l k h hk => ?_⟩
    · match l, h with
      | x :: l, ⟨h1, h2⟩ =>
        rw [cat_cons, List.append_assoc, pN, pbind_ok (hp.put x _ (h2 x (by simp))), pbind_ok (ih.put l r ⟨by simpa using h1, fun y hy => h2 y (by simp [hy])⟩)]
        rfl
    · unfold pN pbind at h
      split at h
      · rename_i x r1 h1
        dsimp only at h
        split at h
        · rename_i y r2 h2
          cases h
          obtain ⟨k1, k2⟩ := hp.only _ _ _ h1
          obtain ⟨⟨k3, k4⟩, k5⟩ := ih.only _ _ _ h2
          exact ⟨⟨by simp [k3], by simpa using ⟨k1, k4⟩⟩, by rw [cat_cons, List.append_assoc, k5, k2]⟩
        · cases h
      · cases h
    · match l, h with
      | x :: l, ⟨h1, h2⟩ =>
        rw [cat_cons] at hk ⊢
        rw [pN]
        by_cases hw : k < (w x).length
        · rw [List.take_append_of_le_length (by omega), pbind_err (hp.cut x k (h2 x (by simp)) hw)]
        · rw [List.take_append, List.take_of_length_le (by omega), pbind_ok (hp.put x _ (h2 x (by simp)))]
          rw [List.length_append] at hk
          rw [pbind_err (ih.cut l _ ⟨by simpa using h1, fun y hy => h2 y (by simp [hy])⟩ (by omega))]

/-- A taking's own laws. -/
theorem Cod.ofT {t : List UInt8 → α × List UInt8 × Int} {w : α → List UInt8} {ok : α → Prop} (h1 : ∀ x r, ok x → t (w x ++ r) = (x, r, 0)) (h2 : ∀ b, (t b).2.2 = 0 → ok (t b).1 ∧ w (t b).1 ++ (t b).2.1 = b)
    (h3 : ∀ x k, ok x → k < (w x).length → (t ((w x).take k)).2.2 = 2) : Cod (ofT t) w ok where
  put x r h := ofT_ok.2 (h1 x r h)
  only b x r h := by
    rw [ofT_ok] at h
    have := h2 b (by rw [h])
    rwa [h] at this
  cut x k h hk := ofT_err.2 ⟨h3 x k h hk, by decide⟩

theorem Cod.congr {p q : Rdg α} {w v : α → List UInt8} {ok ok' : α → Prop} (h : Cod p w ok) (e1 : ∀ b, q b = p b) (e2 : ∀ x, v x = w x) (e3 : ∀ x, ok' x ↔ ok x) : Cod q v ok' := by
  obtain rfl : q = p := funext e1
  obtain rfl : v = w := funext e2
  obtain rfl : ok' = ok := funext fun x => propext (e3 x)
  exact h
end

end Go.Fw

end

section
/- Transactions, read off bytes: readings, there and back; the reader that notes its first error. Plain laws. -/
namespace Go.Fw
open Go
set_option linter.unusedVariables false
set_option linter.unusedSimpArgs false

def t32 (b : List UInt8) : UInt32 × List UInt8 × Int := (UInt32.ofNat (num (spA b 4)), spB b 4, spE b 4)
def t64 (b : List UInt8) : UInt64 × List UInt8 × Int := (UInt64.ofNat (num (spA b 8)), spB b 8, spE b 8)
def hOf (l : List UInt8) : H32 := if h : l.length = 32 then ⟨l, h⟩ else zH
def tH (b : List UInt8) : H32 × List UInt8 × Int := (hOf (spA b 32), spB b 32, spE b 32)
def tScr (b : List UInt8) : List UInt8 × List UInt8 × Int := lim b 1000
def tWit (b : List UInt8) : List (List UInt8) × List UInt8 × Int := lst b 30 1000
def tCnt (m : Nat) (b : List UInt8) : Nat × List UInt8 × Int := bnd b m
/-- The document's: what is left stays behind a count that is too large. -/
def tCntD (m : Nat) (b : List UInt8) : Nat × List UInt8 × Int := if (sz b).2.2 = 0 ∧ m < (sz b).1 then (0, (sz b).2.1, 4) else if (sz b).2.2 ≠ 0 then (0, (sz b).2.1, (sz b).2.2) else ((sz b).1, (sz b).2.1, 0)

theorem u32_num (l : List UInt8) (h : l.length ≤ 4) : ((UInt32.ofNat (num l)).toNat : Int) = (num l : Int) := by
  have := num_lt4 l h
  rw [UInt32.toNat_ofNat']; omega
theorem u64_num (l : List UInt8) (h : l.length ≤ 8) : ((UInt64.ofNat (num l)).toNat : Int) = (num l : Int) := by
  have := num_lt8 l h
  rw [UInt64.toNat_ofNat']; omega

theorem codN32 : Cod (ofT t32) (fun x => le 4 (x.toNat : Int)) (fun _ => True) := by
  refine Cod.ofT (fun x r _ => ?_) (fun b h => ⟨trivial, ?_⟩) (fun x k _ hk => ?_)
  · have hl := le_len 4 (x.toNat : Int)
    have a := spA_app (le 4 (x.toNat : Int)) r
    have b := spB_app (le 4 (x.toNat : Int)) r
    have c := spE_app (le 4 (x.toNat : Int)) r
    rw [hl] at a b c
    have hx := x.toNat_lt
    have hn := num_le 4 (x.toNat : Int) (by omega) (by simp; omega)
    have hn' : num (le 4 (x.toNat : Int)) = x.toNat := by omega
    show (UInt32.ofNat (num (spA (le 4 (x.toNat : Int) ++ r) ((4 : Nat) : Int))), spB (le 4 (x.toNat : Int) ++ r) ((4 : Nat) : Int), spE (le 4 (x.toNat : Int) ++ r) ((4 : Nat) : Int)) = (x, r, 0)
    rw [a, b, c, hn']
    exact Prod.ext (UInt32.ofNat_toNat ..) rfl
  · obtain ⟨h1, h2, h3⟩ := sp_ok (b := b) (n := 4) h
    show le 4 ((UInt32.ofNat (num (spA b 4))).toNat : Int) ++ spB b 4 = b
    rw [u32_num _ (by omega)]
    have := le_num (spA b 4)
    rw [show (spA b 4).length = 4 by omega] at this
    rw [this, h2]
  · rw [le_len] at hk
    have : ∀ n : Int, (((le 4 (x.toNat : Int)).take k).length : Int) < n → spE ((le 4 (x.toNat : Int)).take k) n = 2 := fun n h => (sp_cut h).1
    exact this 4 (by simp [le_len]; omega)
theorem codN64 : Cod (ofT t64) (fun x => le 8 (x.toNat : Int)) (fun _ => True) := by
  refine Cod.ofT (fun x r _ => ?_) (fun b h => ⟨trivial, ?_⟩) (fun x k _ hk => ?_)
  · have hl := le_len 8 (x.toNat : Int)
    have a := spA_app (le 8 (x.toNat : Int)) r
    have b := spB_app (le 8 (x.toNat : Int)) r
    have c := spE_app (le 8 (x.toNat : Int)) r
    rw [hl] at a b c
    have hx := x.toNat_lt
    have hn := num_le 8 (x.toNat : Int) (by omega) (by simp; omega)
    have hn' : num (le 8 (x.toNat : Int)) = x.toNat := by omega
    show (UInt64.ofNat (num (spA (le 8 (x.toNat : Int) ++ r) ((8 : Nat) : Int))), spB (le 8 (x.toNat : Int) ++ r) ((8 : Nat) : Int), spE (le 8 (x.toNat : Int) ++ r) ((8 : Nat) : Int)) = (x, r, 0)
    rw [a, b, c, hn']
    exact Prod.ext (UInt64.ofNat_toNat ..) rfl
  · obtain ⟨h1, h2, h3⟩ := sp_ok (b := b) (n := 8) h
    show le 8 ((UInt64.ofNat (num (spA b 8))).toNat : Int) ++ spB b 8 = b
    rw [u64_num _ (by omega)]
    have := le_num (spA b 8)
    rw [show (spA b 8).length = 8 by omega] at this
    rw [this, h2]
  · rw [le_len] at hk
    have : ∀ n : Int, (((le 8 (x.toNat : Int)).take k).length : Int) < n → spE ((le 8 (x.toNat : Int)).take k) n = 2 := fun n h => (sp_cut h).1
    exact this 8 (by simp [le_len]; omega)
theorem cH : Cod (ofT tH) (fun x => x.1) (fun _ => True) := by
  refine Cod.ofT (fun x r _ => ?_) (fun b h => ⟨trivial, ?_⟩) (fun x k _ hk => ?_)
  · have hl := x.2
    have a := spA_app x.1 r
    have b := spB_app x.1 r
    have c := spE_app x.1 r
    rw [hl] at a b c
    show (hOf (spA (x.1 ++ r) ((32 : Nat) : Int)), spB (x.1 ++ r) ((32 : Nat) : Int), spE (x.1 ++ r) ((32 : Nat) : Int)) = (x, r, 0)
    rw [a, b, c]
    exact Prod.ext (by unfold hOf; rw [dif_pos hl]) rfl
  · obtain ⟨h1, h2, h3⟩ := sp_ok (b := b) (n := 32) h
    show (hOf (spA b 32)).1 ++ spB b 32 = b
    unfold hOf
    rw [dif_pos (by omega), h2]
  · rw [x.2] at hk
    have : ∀ n : Int, ((x.1.take k).length : Int) < n → spE (x.1.take k) n = 2 := fun n h => (sp_cut h).1
    exact this 32 (by simp [x.2]; omega)

theorem lim_most {b : List UInt8} {most : Int} (h : (lim b most).2.2 = 0) : ((lim b most).1.length : Int) ≤ most := by
  unfold lim at h ⊢
  split at h
  · rename_i hn; exact absurd h hn
  · rename_i hn
    rw [if_neg hn]
    obtain ⟨q1, q2, q3⟩ := sp_ok (b := (bnd b most).2.1) (n := (bnd b most).1) h
    have := (bnd_only (b := b) (most := most) (by simpa using hn)).2
    simp only; omega
theorem tkF_most {most : Int} : ∀ (n : Nat) (acc : List (List UInt8)) (b : List UInt8), (tkF most n acc b).2.2 = 0 → (∀ x ∈ acc, (x.length : Int) ≤ most) → ∀ x ∈ (tkF most n acc b).1, (x.length : Int) ≤ most
  | 0, acc, b, h, ha => ha
  | n + 1, acc, b, h, ha => by
    rw [tkF_succ] at h ⊢
    split at h
    · rename_i hn; exact absurd h hn
    · rename_i hn
      rw [if_neg hn]
      refine tkF_most n _ _ h fun x hx => ?_
      rcases List.mem_append.1 hx with hx | hx
      · exact ha x hx
      · rw [List.mem_singleton.1 hx]; exact lim_most (by simpa using hn)
theorem lst_most {b : List UInt8} {many most : Int} (h : (lst b many most).2.2 = 0) : ∀ x ∈ (lst b many most).1, (x.length : Int) ≤ most := by
  unfold lst at h ⊢
  split at h
  · rename_i hn; exact absurd h hn
  · rename_i hn
    rw [if_neg hn]
    exact tkF_most _ _ _ h (by simp)

theorem cLim (most : Nat) (hm : (most : Int) ≤ 9223372036854775807) : Cod (ofT fun b => lim b most) (fun x => sizeB x.length ++ x) (fun x => x.length ≤ most) := by
  refine Cod.ofT (fun x r h => lim_put r (by omega) hm) (fun b h => ⟨?_, lim_only h⟩) (fun x k h hk => ?_)
  · have := lim_most h; omega
  · rw [lim_cut (by omega) hm hk]
theorem cLst (many most : Nat) (hm : (many : Int) ≤ 9223372036854775807) (hm2 : (most : Int) ≤ 9223372036854775807) : Cod (ofT fun b => lst b many most) (fun x => sizeB x.length ++ flat x) (fun x => x.length ≤ many ∧ ∀ y ∈ x, y.length ≤ most) := by
  refine Cod.ofT (fun x r h => lst_put r (by have := h.1; omega) hm hm2 fun y hy => by have := h.2 y hy; omega) (fun b h => ⟨⟨?_, fun y hy => ?_⟩, (lst_only h).2⟩) (fun x k h hk => ?_)
  · have := (lst_only h).1; omega
  · have := lst_most h y hy; omega
  · rw [lst_cut (by have := h.1; omega) hm hm2 (fun y hy => by have := h.2 y hy; omega) hk]
theorem cScr : Cod (ofT tScr) (fun x => sizeB x.length ++ x) (fun x => x.length ≤ 1000) := cLim 1000 (by omega)
theorem cWit : Cod (ofT tWit) (fun x => sizeB x.length ++ flat x) (fun x => x.length ≤ 30 ∧ ∀ y ∈ x, y.length ≤ 1000) := cLst 30 1000 (by omega) (by omega)
theorem cCnt (m : Nat) (hm : (m : Int) ≤ 9223372036854775807) : Cod (ofT (tCnt m)) (fun n => sizeB (n : Nat)) (fun n => n ≤ m) := by
  refine Cod.ofT (fun x r h => ?_) (fun b h => ⟨?_, (bnd_only h).1⟩) (fun x k h hk => ?_)
  · have := bnd_put (n := x) (most := m) r (by omega) (by omega) hm
    exact this
  · have := (bnd_only h).2; show (bnd b m).1 ≤ m; omega
  · show (bnd _ _).2.2 = 2
    rw [bnd_cut (by omega) hk]
theorem ofT_cntD (m : Nat) : ofT (tCntD m) = ofT (tCnt m) := by
  funext b
  unfold ofT
  by_cases h1 : (sz b).2.2 = 0
  · by_cases h2 : m < (sz b).1
    · have e1 : tCntD m b = (0, (sz b).2.1, 4) := by unfold tCntD; rw [if_pos ⟨h1, h2⟩]
      have e2 : tCnt m b = (0, [], 4) := by unfold tCnt bnd; rw [if_neg (by simpa using h1), if_pos (Or.inr (by omega))]
      rw [e1, e2]; simp
    · have e1 : tCntD m b = ((sz b).1, (sz b).2.1, 0) := by unfold tCntD; rw [if_neg (fun h => h2 h.2), if_neg (by simpa using h1)]
      have e2 : tCnt m b = ((sz b).1, (sz b).2.1, 0) := by unfold tCnt bnd; rw [if_neg (by simpa using h1), if_neg (by omega)]
      rw [e1, e2]
  · have e1 : tCntD m b = (0, (sz b).2.1, (sz b).2.2) := by unfold tCntD; rw [if_neg (fun h => h1 h.1), if_pos h1]
    have e2 : tCnt m b = (0, [], (sz b).2.2) := by unfold tCnt bnd; rw [if_pos h1]
    rw [e1, e2]; simp [h1]

/-! ### The reader's parts: the program's (P) and the document's. -/
variable {α : Type}
def rdX (P : Bool) (t : List UInt8 → α × List UInt8 × Int) (d : α) (s : RSt) : α × RSt := if P then rd t d s else rdD t d s
theorem goodX (P : Bool) (t : List UInt8 → α × List UInt8 × Int) (d : α) : Good (rdX P t d) (ofT t) := by
  cases P
  · exact Good.rdD t d
  · exact Good.rd t d
theorem rdX_len {P : Bool} {t : List UInt8 → α × List UInt8 × Int} {d : α} {s : RSt} (h : ∀ b, (t b).2.1.length ≤ b.length) : (rdX P t d s).2.b.length ≤ s.b.length := by
  unfold rdX
  have := h s.b
  cases P
  · simp only [Bool.false_eq_true, if_false]; unfold rdD; split
    · exact Nat.le_refl _
    · exact this
  · simp only [if_true]; unfold rd; split
    · exact Nat.le_refl _
    · split
      · exact Nat.le_refl _
      · exact this
def rdCnt (P : Bool) (m : Nat) (s : RSt) : Nat × RSt := rdX P (if P then tCnt m else tCntD m) 0 s
theorem goodCnt (P : Bool) (m : Nat) : Good (rdCnt P m) (ofT (tCnt m)) := by
  cases P
  · have := goodX false (tCntD m) 0; rw [ofT_cntD] at this; exact this
  · exact goodX true (tCnt m) 0
theorem t32_len (b : List UInt8) : (t32 b).2.1.length ≤ b.length := spB_len b 4
theorem t64_len (b : List UInt8) : (t64 b).2.1.length ≤ b.length := spB_len b 8
theorem tH_len (b : List UInt8) : (tH b).2.1.length ≤ b.length := spB_len b 32
theorem tScr_len (b : List UInt8) : (tScr b).2.1.length ≤ b.length := (lim_len _ _).2
theorem tkF_len {most : Int} : ∀ (n : Nat) (acc : List (List UInt8)) (b : List UInt8), (tkF most n acc b).2.1.length ≤ b.length
  | 0, acc, b => Nat.le_refl _
  | n + 1, acc, b => by
    rw [tkF_succ]
    split
    · simp
    · have := tkF_len n (acc ++ [(lim b most).1]) (lim b most).2.1 (most := most)
      have := (lim_len b most).2
      omega
theorem lst_len (b : List UInt8) (many most : Int) : (lst b many most).2.1.length ≤ b.length := by
  unfold lst
  split
  · simp
  · have := tkF_len (bnd b many).1 [] (bnd b many).2.1 (most := most)
    have := bnd_len b many
    omega
theorem tWit_len (b : List UInt8) : (tWit b).2.1.length ≤ b.length := lst_len _ _ _
theorem tCnt_len (P : Bool) (m : Nat) (b : List UInt8) : ((if P then tCnt m else tCntD m) b).2.1.length ≤ b.length := by
  cases P
  · show (tCntD m b).2.1.length ≤ _
    have := sz_len b
    unfold tCntD; repeat' split
    all_goals exact this
  · exact bnd_len _ _
theorem cnt_len {P : Bool} {m : Nat} {s : RSt} : (rdCnt P m s).2.b.length ≤ s.b.length := rdX_len (tCnt_len P m)
theorem cnt_most (P : Bool) (m : Nat) (s : RSt) : (rdCnt P m s).1 ≤ m := by
  cases P
  · show (rdD (tCntD m) 0 s).1 ≤ m
    unfold rdD; split
    · exact Nat.zero_le _
    · show (tCntD m s.b).1 ≤ m
      unfold tCntD; repeat' split
      all_goals first | exact Nat.zero_le _ | (dsimp only; omega)
  · show (rd (tCnt m) 0 s).1 ≤ m
    unfold rd; repeat' split
    all_goals first | exact Nat.zero_le _ | skip
    rename_i h1 h2
    have := (bnd_only (b := s.b) (most := m) (Classical.not_not.1 h2)).2
    show (bnd s.b m).1 ≤ m
    omega

def bIn (a : H32 × UInt32 × UInt32) : TIn := ⟨a.1, a.2.1, a.2.2, []⟩
def rdIn (P : Bool) (s : RSt) : TIn × RSt :=
  (⟨(rdX P tH zH s).1, (rdX P t32 0 (rdX P tH zH s).2).1, (rdX P t32 0 (rdX P t32 0 (rdX P tH zH s).2).2).1, []⟩, (rdX P t32 0 (rdX P t32 0 (rdX P tH zH s).2).2).2)
def rdOut (P : Bool) (s : RSt) : TOut × RSt := (⟨(rdX P t64 0 s).1, (rdX P tScr [] (rdX P t64 0 s).2).1⟩, (rdX P tScr [] (rdX P t64 0 s).2).2)
def rdWit (P : Bool) (s : RSt) : List (List UInt8) × RSt := rdX P tWit [] s
/-- The inputs with their witnesses. -/
def wits : List TIn → List (List (List UInt8)) → List TIn
  | x :: l, w :: k => ⟨x.prev, x.idx, x.seq, w⟩ :: wits l k
  | l, _ => l
def rdTx (P : Bool) (s : RSt) : TTx × RSt :=
  let v := rdX P t32 0 s
  let n := rdCnt P 20 v.2
  let is := rdN (rdIn P) n.1 n.2
  let m := rdCnt P 20 is.2
  let os := rdN (rdOut P) m.1 m.2
  let k := rdX P t32 0 os.2
  let ws := rdN (rdWit P) is.1.length k.2
  (⟨v.1, wits is.1 ws.1, os.1, k.1⟩, ws.2)

def pIn : Rdg TIn := pbind (ofT tH) fun h => pbind (ofT t32) fun i => pbind (ofT t32) fun q => ppure ⟨h, i, q, []⟩
def pOut : Rdg TOut := pbind (ofT t64) fun v => pbind (ofT tScr) fun x => ppure ⟨v, x⟩
def pTx : Rdg TTx := pbind (ofT t32) fun v => pbind (ofT (tCnt 20)) fun n => pbind (pN pIn n) fun is => pbind (ofT (tCnt 20)) fun m => pbind (pN pOut m) fun os => pbind (ofT t32) fun k => pbind (pN (ofT tWit) is.length) fun ws => ppure ⟨v, wits is ws, os, k⟩

theorem goodIn (P : Bool) : Good (rdIn P) pIn :=
  (goodX P tH zH).bind (g := fun h s => (TIn.mk h (rdX P t32 0 s).1 (rdX P t32 0 (rdX P t32 0 s).2).1 [], (rdX P t32 0 (rdX P t32 0 s).2).2)) fun h =>
    (goodX P t32 0).bind (g := fun i s => (TIn.mk h i (rdX P t32 0 s).1 [], (rdX P t32 0 s).2)) fun i =>
      (goodX P t32 0).bind (g := fun q s => (TIn.mk h i q [], s)) fun q => Good.pure _
theorem goodOut (P : Bool) : Good (rdOut P) pOut :=
  (goodX P t64 0).bind (g := fun v s => (TOut.mk v (rdX P tScr [] s).1, (rdX P tScr [] s).2)) fun v =>
    (goodX P tScr []).bind (g := fun x s => (TOut.mk v x, s)) fun x => Good.pure _
theorem goodTx (P : Bool) : Good (rdTx P) pTx :=
  (goodX P t32 0).bind (g := fun v s =>
    let n := rdCnt P 20 s
    let is := rdN (rdIn P) n.1 n.2
    let m := rdCnt P 20 is.2
    let os := rdN (rdOut P) m.1 m.2
    let k := rdX P t32 0 os.2
    let ws := rdN (rdWit P) is.1.length k.2
    (TTx.mk v (wits is.1 ws.1) os.1 k.1, ws.2)) fun v =>
  (goodCnt P 20).bind (g := fun n s =>
    let is := rdN (rdIn P) n s
    let m := rdCnt P 20 is.2
    let os := rdN (rdOut P) m.1 m.2
    let k := rdX P t32 0 os.2
    let ws := rdN (rdWit P) is.1.length k.2
    (TTx.mk v (wits is.1 ws.1) os.1 k.1, ws.2)) fun n =>
  ((goodIn P).rep n).bind (g := fun is s =>
    let m := rdCnt P 20 s
    let os := rdN (rdOut P) m.1 m.2
    let k := rdX P t32 0 os.2
    let ws := rdN (rdWit P) is.length k.2
    (TTx.mk v (wits is ws.1) os.1 k.1, ws.2)) fun is =>
  (goodCnt P 20).bind (g := fun m s =>
    let os := rdN (rdOut P) m s
    let k := rdX P t32 0 os.2
    let ws := rdN (rdWit P) is.length k.2
    (TTx.mk v (wits is ws.1) os.1 k.1, ws.2)) fun m =>
  ((goodOut P).rep m).bind (g := fun os s =>
    let k := rdX P t32 0 s
    let ws := rdN (rdWit P) is.length k.2
    (TTx.mk v (wits is ws.1) os k.1, ws.2)) fun os =>
  (goodX P t32 0).bind (g := fun k s =>
    let ws := rdN (rdWit P) is.length s
    (TTx.mk v (wits is ws.1) os k, ws.2)) fun k =>
  ((goodX P tWit []).rep is.length).bind (g := fun ws s => (TTx.mk v (wits is ws) os k, s)) fun ws => Good.pure _

/-! ### There and back. -/
def pPair {β : Type} (p : Rdg α) (q : α → Rdg β) : Rdg (α × β) := pbind p fun x => pbind (q x) fun y => ppure (x, y)
theorem pbind_assoc {β γ : Type} (p : Rdg α) (q : α → Rdg β) (r : β → Rdg γ) : pbind (pbind p q) r = pbind p fun x => pbind (q x) r := by
  funext b
  unfold pbind
  cases p b <;> rfl
theorem pbind_pure {β : Type} (x : α) (q : α → Rdg β) : pbind (ppure x) q = q x := rfl
theorem wits_split : ∀ (l : List TIn), (∀ x ∈ l, x.wit = x.wit) → wits (l.map fun x => ⟨x.prev, x.idx, x.seq, []⟩) (l.map TIn.wit) = l
  | [], _ => rfl
  | x :: l, h => by simp only [List.map_cons, wits]; rw [wits_split l fun _ _ => rfl]
theorem wits_map : ∀ (l : List TIn) (k : List (List (List UInt8))), l.length = k.length → (∀ x ∈ l, x.wit = []) → ((wits l k).map fun x : TIn => (⟨x.prev, x.idx, x.seq, []⟩ : TIn)) = l ∧ (wits l k).map TIn.wit = k
  | [], [], _, _ => ⟨rfl, rfl⟩
  | [], _ :: _, h, _ => by simp at h
  | _ :: _, [], h, _ => by simp at h
  | x :: l, w :: k, h, hw => by
    obtain ⟨h1, h2⟩ := wits_map l k (by simpa using h) fun y hy => hw y (by simp [hy])
    have h3 := hw x (by simp)
    obtain ⟨a, b, c, d⟩ := x
    dsimp only at h3
    subst h3
    simp only [wits, List.map_cons, h1, h2]
    exact ⟨trivial, trivial⟩
theorem wits_len : ∀ (l : List TIn) (k : List (List (List UInt8))), (wits l k).length = l.length
  | [], _ => by simp [wits]
  | _ :: _, [] => by simp [wits]
  | x :: l, w :: k => by simp [wits, wits_len l k]

abbrev TxTup := UInt32 × Nat × List TIn × Nat × List TOut × UInt32 × List (List (List UInt8))
theorem cIn : Cod pIn tInB (fun x => x.wit = []) := by
  have := (Cod.pair cH fun _ _ => Cod.pair codN32 fun _ _ => codN32).map (fun z => (⟨z.1, z.2.1, z.2.2, []⟩ : TIn)) (fun x => (x.prev, x.idx, x.seq)) (fun x => x.wit = [])
    (fun z _ => ⟨rfl, rfl⟩) (fun x h => ⟨⟨trivial, trivial, trivial⟩, by obtain ⟨a, b, c, d⟩ := x; dsimp only at h; subst h; rfl⟩)
  refine this.congr (fun b => ?_) (fun x => ?_) (fun x => Iff.rfl)
  · simp only [pIn, pbind_assoc, pbind_pure]
  · simp only [tInB, List.append_assoc]
theorem cOut : Cod pOut tOutB (fun x => scrOk x = true) := by
  have := (Cod.pair codN64 fun _ _ => cScr).map (fun z => (⟨z.1, z.2⟩ : TOut)) (fun x => (x.val, x.scr)) (fun x => scrOk x = true)
    (fun z h => ⟨rfl, by simpa [scrOk] using h.2⟩) (fun x h => ⟨⟨trivial, by simpa [scrOk] using h⟩, rfl⟩)
  refine this.congr (fun b => ?_) (fun x => ?_) (fun x => Iff.rfl)
  · simp only [pOut, pbind_assoc, pbind_pure]
  · simp only [tOutB]
theorem cTx : Cod pTx wholeB (fun t => countsB t = true) := by
  have := (Cod.pair codN32 fun v _ => Cod.pair (cCnt 20 (by omega)) fun n _ => Cod.pair (cIn.rep n) fun is _ => Cod.pair (cCnt 20 (by omega)) fun m _ => Cod.pair (cOut.rep m) fun os _ => Cod.pair codN32 fun k _ => cWit.rep is.length).map
    (fun z => (⟨z.1, wits z.2.2.1 z.2.2.2.2.2.2, z.2.2.2.2.1, z.2.2.2.2.2.1⟩ : TTx))
    (fun t => (t.ver, t.ins.length, t.ins.map (fun x => ⟨x.prev, x.idx, x.seq, []⟩), t.outs.length, t.outs, t.lock, t.ins.map TIn.wit)) (fun t => countsB t = true) ?_ ?_
  · refine this.congr (fun b => ?_) (fun t => ?_) (fun x => Iff.rfl)
    · simp only [pTx, pbind_assoc, pbind_pure]
    · have e1 : cat tInB (t.ins.map (fun x => (⟨x.prev, x.idx, x.seq, []⟩ : TIn))) = cat tInB t.ins := by
        unfold cat; rw [List.map_map]; rfl
      have e2 : cat (fun x : List (List UInt8) => sizeB x.length ++ flat x) (t.ins.map TIn.wit) = cat witB t.ins := by
        unfold cat; rw [List.map_map]; rfl
      dsimp only
      rw [e1, e2]
      simp only [wholeB, bareB, List.append_assoc]
  · rintro ⟨v, n, is, m, os, k, ws⟩ ⟨_, h1, ⟨h2, h3⟩, h4, ⟨h5, h6⟩, _, h7, h8⟩
    dsimp only at h1 h2 h3 h4 h5 h6 h7 h8 ⊢
    obtain ⟨e1, e2⟩ := wits_map is ws h7.symm h3
    refine ⟨by rw [wits_len, e1, e2, h2, h5], ?_⟩
    have : ∀ x ∈ wits is ws, x.wit.length ≤ 30 ∧ ∀ y ∈ x.wit, y.length ≤ 1000 := fun x hx => h8 x.wit (by rw [← e2]; exact List.mem_map_of_mem hx)
    simp only [countsB, wits_len, Bool.and_eq_true, decide_eq_true_eq, List.all_eq_true, witOk]
    exact ⟨⟨⟨by omega, by omega⟩, h6⟩, this⟩
  · intro t h
    simp only [countsB, Bool.and_eq_true, decide_eq_true_eq, List.all_eq_true, witOk] at h
    obtain ⟨⟨⟨h1, h2⟩, h3⟩, h4⟩ := h
    refine ⟨⟨trivial, h1, ⟨by simp, by simp⟩, h2, ⟨rfl, h3⟩, trivial, by simp, ?_⟩, ?_⟩
    · intro w hw
      obtain ⟨x, hx, rfl⟩ := List.mem_map.1 hw
      exact h4 x hx
    · rw [wits_split _ fun _ _ => rfl]

/-! ### Taking a transaction. -/
def takTx (b : List UInt8) : Res TTx := match pTx b with
  | .ok t r => if b.length - r.length ≤ 12000 then .ok t r else .err 4
  | .err e => .err e
def decTx (b : List UInt8) : Res TTx := match takTx b with
  | .ok t r => if r = [] then .ok t [] else .err 3
  | .err e => .err e
theorem takTx_put {t : TTx} (r : List UInt8) (h : fitsB t = true) : takTx (wholeB t ++ r) = .ok t r := by
  simp only [fitsB, Bool.and_eq_true, decide_eq_true_eq] at h
  unfold takTx
  rw [cTx.put t r h.1]
  dsimp only
  rw [if_pos (by simp; omega)]
theorem takTx_only {b r : List UInt8} {t : TTx} (h : takTx b = .ok t r) : fitsB t = true ∧ wholeB t ++ r = b := by
  unfold takTx at h
  split at h
  · rename_i t' r' h1
    split at h
    · rename_i h2
      cases h
      obtain ⟨k1, k2⟩ := cTx.only _ _ _ h1
      refine ⟨?_, k2⟩
      simp only [fitsB, Bool.and_eq_true, decide_eq_true_eq]
      refine ⟨k1, ?_⟩
      rw [← k2] at h2
      simp at h2; omega
    · cases h
  · cases h
theorem takTx_cut {t : TTx} {k : Nat} (h : fitsB t = true) (hk : k < (wholeB t).length) : takTx ((wholeB t).take k) = .err 2 := by
  simp only [fitsB, Bool.and_eq_true, decide_eq_true_eq] at h
  unfold takTx
  rw [cTx.cut t k h.1 hk]
theorem takTx_err {b : List UInt8} {e : Int} (h : takTx b = .err e) : e ≠ 0 := by
  unfold takTx at h
  split at h
  · split at h
    · cases h
    · cases h; decide
  · rename_i e' h1
    cases h
    exact ((goodTx true).err b _ h1).1
theorem decTx_ok {b r : List UInt8} {t : TTx} (h : decTx b = .ok t r) : fitsB t = true ∧ wholeB t = b ∧ r = [] := by
  unfold decTx at h
  split at h
  · rename_i t' r' h1
    split at h
    · rename_i hr
      cases h
      obtain ⟨k1, k2⟩ := takTx_only h1
      subst hr
      exact ⟨k1, by simpa using k2, rfl⟩
    · cases h
  · cases h
theorem decTx_put {t : TTx} (h : fitsB t = true) : decTx (wholeB t) = .ok t [] := by
  have := takTx_put [] h
  rw [List.append_nil] at this
  unfold decTx
  rw [this]
  dsimp only
  rw [if_pos rfl]
theorem decTx_more {t : TTx} {x : UInt8} {r : List UInt8} (h : fitsB t = true) : decTx (wholeB t ++ x :: r) = .err 3 := by
  unfold decTx
  rw [takTx_put _ h]
  dsimp only
  rw [if_neg (by simp)]
theorem decTx_err {b : List UInt8} {e : Int} (h : decTx b = .err e) : e ≠ 0 := by
  unfold decTx at h
  split at h
  · split at h
    · cases h
    · cases h; decide
  · rename_i e' h1
    cases h
    exact takTx_err h1
theorem fits_chk {t : TTx} (h : fitsB t = true) : chkE t = 0 := if_pos h
theorem nfits_chk {t : TTx} (h : fitsB t = false) : chkE t = 4 := if_neg (by simp [h])

end Go.Fw

end

section
/- Lists gone through one by one: all, the first, alike. Plain laws. -/
namespace Go.Fw
open Go
set_option linter.unusedVariables false
set_option linter.unusedSimpArgs false
variable {α : Type}

theorem all_take (p : α → Bool) (d : α) (l : List α) (k : Nat) (h : k < l.length) : (l.take (k + 1)).all p = ((l.take k).all p && p (l.getD k d)) := by
  rw [take_getDx d l k h]; simp
theorem all_getD (p : α → Bool) (d : α) (l : List α) (k : Nat) (h : k < l.length) (hp : p (l.getD k d) = false) : l.all p = false := by
  have hm : l.getD k d ∈ l := by simp [h]
  cases e : l.all p with
  | false => rfl
  | true =>
    rw [List.all_eq_true] at e
    have h9 := e _ hm
    rw [hp] at h9; cases h9
theorem drop_getD (d : α) (l : List α) (k : Nat) (h : k < l.length) : l.drop k = l.getD k d :: l.drop (k + 1) := by
  rw [List.drop_eq_getElem_cons h]; simp [h]

/-- The place of the first one; -1: there is none. -/
def fstI (p : α → Bool) : List α → Nat → Int
  | [], _ => -1
  | x :: l, k => if p x = true then (k : Int) else fstI p l (k + 1)
theorem fstI_any (p : α → Bool) : ∀ (l : List α) (k : Nat), decide (0 ≤ fstI p l k) = l.any p
  | [], k => rfl
  | x :: l, k => by
    unfold fstI
    rw [List.any_cons]
    cases p x
    · simp only [Bool.false_eq_true, if_false, Bool.false_or]; exact fstI_any p l (k + 1)
    · simp only [if_true, Bool.true_or]; simp
theorem fstI_yes (p : α → Bool) (d : α) (l : List α) (k : Nat) (h : k < l.length) (hp : p (l.getD k d) = true) : fstI p (l.drop k) k = (k : Int) := by
  rw [drop_getD d l k h, fstI, if_pos hp]
theorem fstI_no (p : α → Bool) (d : α) (l : List α) (k : Nat) (h : k < l.length) (hp : p (l.getD k d) = false) : fstI p (l.drop k) k = fstI p (l.drop (k + 1)) (k + 1) := by
  rw [drop_getD d l k h, fstI, if_neg (by rw [hp]; exact Bool.false_ne_true)]
theorem fstI_end (p : α → Bool) (l : List α) : fstI p (l.drop l.length) l.length = -1 := by rw [List.drop_length]; rfl

theorem getD_ne (d : α) {l m : List α} (k : Nat) (h : l.getD k d ≠ m.getD k d) : l ≠ m := fun e => h (by rw [e])
theorem take_eq_succ (d : α) {l m : List α} {k : Nat} (h1 : k < l.length) (h2 : k < m.length) (h : l.take k = m.take k) (e : l.getD k d = m.getD k d) : l.take (k + 1) = m.take (k + 1) := by
  rw [take_getDx d l k h1, take_getDx d m k h2, h, e]
theorem take_eq_all {l m : List α} (hl : l.length = m.length) (h : l.take l.length = m.take l.length) : l = m := by
  rw [List.take_length, hl, List.take_length] at h; exact h

def longB (x : List UInt8) : Bool := decide (1000 < (x.length : Int))
theorem scrOk_long (x : TOut) : scrOk x = !longB x.scr := by
  unfold scrOk longB
  by_cases h : x.scr.length ≤ 1000
  · have : ¬ (1000 < (x.scr.length : Int)) := by omega
    simp [h, this]
  · have : (1000 < (x.scr.length : Int)) := by omega
    simp [h, this]
theorem witOk_long (x : TIn) : witOk x = (!(decide (30 < (x.wit.length : Int)) || x.wit.any longB)) := by
  unfold witOk
  have e1 : decide (x.wit.length ≤ 30) = !decide (30 < (x.wit.length : Int)) := by
    by_cases h : x.wit.length ≤ 30
    · have : ¬ (30 < (x.wit.length : Int)) := by omega
      simp [h, this]
    · have : (30 < (x.wit.length : Int)) := by omega
      simp [h, this]
  have e2 : (x.wit.all fun y => decide (y.length ≤ 1000)) = !x.wit.any longB := by
    rw [List.not_any_eq_all_not]
    congr 1
    funext y
    exact scrOk_long ⟨0, y⟩
  rw [e1, e2, Bool.not_or]
theorem countsB_eq (t : TTx) : countsB t = (decide (t.ins.length ≤ 20) && decide (t.outs.length ≤ 20) && t.outs.all scrOk && t.ins.all witOk) := rfl

theorem wits_nil (l : List TIn) : wits l [] = l := by cases l <;> rfl
theorem wits_at : ∀ (l : List TIn) (k : List (List (List UInt8))), k.length < l.length → (wits l k).getD k.length dIn = l.getD k.length dIn
  | [], _, h => by simp at h
  | x :: l, [], h => by rw [wits_nil]
  | x :: l, w :: k, h => by
    simp only [wits, List.length_cons, List.getD_cons_succ]
    exact wits_at l k (by simpa using h)
theorem wits_snoc : ∀ (l : List TIn) (k : List (List (List UInt8))) (w : List (List UInt8)), k.length < l.length → (wits l k).set k.length ⟨(l.getD k.length dIn).prev, (l.getD k.length dIn).idx, (l.getD k.length dIn).seq, w⟩ = wits l (k ++ [w])
  | [], _, _, h => by simp at h
  | x :: l, [], w, h => by rw [wits_nil]; simp [wits, wits_nil]
  | x :: l, v :: k, w, h => by
    simp only [wits, List.length_cons, List.getD_cons_succ, List.set_cons_succ, List.cons_append]
    rw [wits_snoc l k w (by simpa using h)]
theorem wits_set (l : List TIn) (k : List (List (List UInt8))) (w : List (List UInt8)) (i : Nat) (hi : k.length = i) (h : i < l.length) :
    ((wits l k).map inT).getD i default = inT ⟨(l.getD i dIn).prev, (l.getD i dIn).idx, (l.getD i dIn).seq, (l.getD i dIn).wit⟩ ∧
    ((wits l k).map inT).set i (inT ⟨(l.getD i dIn).prev, (l.getD i dIn).idx, (l.getD i dIn).seq, w⟩) = (wits l (k ++ [w])).map inT := by
  subst hi
  refine ⟨?_, ?_⟩
  · rw [in_getD _ _ (by rw [wits_len]; exact h), wits_at l k h]
  · rw [← List.map_set, wits_snoc l k w h]

def scrS (x : TOut) : Bool := decide (x.scr.length ≤ 600)
def witS (x : TIn) : Bool := decide (x.wit.length ≤ 6) && x.wit.all fun y => decide (y.length ≤ 600)
theorem smallT_eq (t : TTx) : smallT t = (decide (t.ins.length ≤ 6) && decide (t.outs.length ≤ 6) && t.outs.all scrS && t.ins.all witS) := rfl
theorem small_counts {t : TTx} (h : smallT t = true) : countsB t = true := by
  obtain ⟨h1, h2, h3, h4⟩ := smallT_ok h
  simp only [countsB, Bool.and_eq_true, decide_eq_true_eq, List.all_eq_true, scrOk, witOk]
  exact ⟨⟨⟨by omega, by omega⟩, fun x hx => by have := h3 x hx; omega⟩, fun x hx => ⟨by have := (h4 x hx).1; omega, fun y hy => by have := (h4 x hx).2 y hy; omega⟩⟩
theorem all_get {α : Type} (p : α → Bool) (d : α) (l : List α) (k : Nat) (h : k < l.length) (hl : l.all p = true) : p (l.getD k d) = true := by
  rw [List.all_eq_true] at hl
  exact hl _ (by simp [h])

end Go.Fw

end

section
/- A row of the call's own, compared with nil: whether it is nil, nobody tells. -/
namespace Go.Fw
set_option linter.unusedVariables false
set_option linter.unusedSimpArgs false
open Go

theorem own_slice {m : Mem} {w : World} {sz : Nat} {l : List T} {v : Value} (h : BlkOk m w (.sq sz l) v) : ∃ a n k, v = .slice a n k ∧ (a = none → l = []) := by
  obtain ⟨_, ⟨rfl, rfl⟩ | ⟨b, cap, cur, e, rfl, _⟩⟩ := h
  · exact ⟨_, _, _, rfl, fun _ => rfl⟩
  · exact ⟨_, _, _, rfl, fun h => by cases h⟩

/-- A region that ends with a comparison with nil. -/
theorem AWP.gnilO {kp : Nat} {P : Program} {E : Env} {q : List TypeId} (hX : XOk P E q) {gl : GCalls} (hcl : GClOk P gl) (keep : List Nat) {N id d j : Nat} {l : List Oper} {o : Oper} {t t' e : TypeId} {sz : Nat} {b : List T} {Q : Exit → AS → Prop} {S S1 : AS}
    (hop : o.op = .binOp .eql t (.tmp j) (.const (.slice none 0 0)) t') (hd : o.dst = some d) (hdN : d < N) (ht : (E t).ty = .sl e)
    (h : gops E q gl N (l ++ [o]) l S = some S1) (hw : wantA (l ++ [o]) S1.s o = some true) {x : Nat} (hsl : lk j S1.s = .own x) (hbl : S1.H[x]? = some (.sq sz b))
    (hQ : ∀ r : Bool, (r = true → b = []) → Q .normal ⟨prune keep ((d, .t (.bool r)) :: S1.s), S1.H⟩) : AWP kp P N (.region id (l ++ [o]).toArray false) Q S := by
  intro c hc m w a hi hs
  refine wp_region_list ?_
  have e1 : (l ++ [o]).toArray.toList = l ++ [o] := by simp
  rw [e1]
  refine gops_then hX hcl [o] l S S1 m w a (by rw [e1]; exact h) hi hs fun m' w' a' h1 h2 => ?_
  have hw' := wantA_ok (ops := (l ++ [o]).toArray) h2 (by rw [e1]; exact hw)
  unfold wpList
  rw [if_pos hw']
  refine .inl ?_
  have hrel := h2.2.2 j
  rw [hsl] at hrel
  obtain ⟨hv0, _⟩ := hrel.own_inv
  obtain ⟨b0, n, k, hv1, hemp⟩ := own_slice (h1.ok x _ hbl)
  have hv := hv0.trans hv1
  have dd := (hX.env.ty ht (by simp)).1
  simp only [DescOk] at dd
  have hrun := run_sl_nil (P := P) (w := w') dd b0 n k (.tmp j) (.const (.slice none 0 0))
  have hexec : (execOp a'.eval o).run P w' = .ok (.value (.bool b0.isNone)) w' := by
    simp only [execOp, hop]
    have ev1 : a'.eval (.tmp j) = .slice b0 n k := hv
    have ev2 : a'.eval (.const (.slice none 0 0)) = .slice none 0 0 := rfl
    simp only [Sem.run_bind, ev1, ev2] at hrun ⊢
    rw [hrun]; rfl
  unfold Oper.wp
  rw [hexec]
  show wpList P (l ++ [o]).toArray (APost c N Q) [] (a'.put o.dst (.bool b0.isNone)) w'
  refine wpList_nil ?_
  have hp : aputs N o (.t (.bool b0.isNone)) S1.s = some ((d, .t (.bool b0.isNone)) :: S1.s) := by simp only [aputs, hd]; rw [if_pos hdN]
  exact ⟨m', ⟨prune keep ((d, .t (.bool b0.isNone)) :: S1.s), S1.H⟩, h1, (h2.puts (.t .bool) hp).prune keep, hQ _ fun h => hemp (by cases b0 <;> simp_all)⟩

end Go.Fw

end

section
/- A region in two parts, the state told anew between them. -/
namespace Go.Fw
set_option linter.unusedVariables false
set_option linter.unusedSimpArgs false
open Go

theorem AWP.gsplit {kp : Nat} {P : Program} {E : Env} {q : List TypeId} (hX : XOk P E q) {gl : GCalls} (hcl : GClOk P gl) (keep : List Nat) {N id : Nat} {l1 l2 : List Oper} {Q : Exit → AS → Prop} {S S1 S2 S3 : AS}
    (h1 : gops E q gl N (l1 ++ l2) l1 S = some S1) (hw : Weak kp N S1 S2) (h2 : gops E q gl N (l1 ++ l2) l2 S2 = some S3)
    (hQ : Q .normal ⟨prune keep S3.s, S3.H⟩) : AWP kp P N (.region id (l1 ++ l2).toArray false) Q S := by
  intro c hc m w a hi hs
  refine wp_region_list ?_
  have e1 : (l1 ++ l2).toArray.toList = l1 ++ l2 := by simp
  rw [e1]
  refine gops_then hX hcl l2 l1 S S1 m w a (by rw [e1]; exact h1) hi hs fun m' w' a' i1 r1 => ?_
  obtain ⟨m2, i2, r2⟩ := hw c hc m' w' a' i1 r1
  exact gops_ok hX hcl l2 S2 S3 m2 w' a' (by rw [e1]; exact h2) i2 r2 fun m3 w3 a3 i3 r3 => ⟨m3, ⟨prune keep S3.s, S3.H⟩, i3, r3.prune keep, hQ⟩

end Go.Fw

end

section
/- Coins, Refs, transactions, acts on a view, as arguments. Plain. -/
namespace Go.Fw
open Go
set_option linter.unusedVariables false
set_option linter.unusedSimpArgs false

abbrev shRf : Sh := .st [.ba 32, .int .u32]
abbrev shCoin : Sh := .st [shRf, shOut, .int .u32, .bool]

theorem rf_of {x : T} (h : shRf.has x) (hw : x.wf) : ∃ a, x = rfT a := by
  cases x <;> simp only [Sh.has] at h
  simp only [T.wf] at hw
  obtain ⟨hh, ys, rfl, g1, g2⟩ := hasL1 h
  obtain ⟨i, ys, rfl, g3, g4⟩ := hasL1 g2
  obtain rfl := hasL0 g4
  obtain ⟨w1, hw⟩ := wfL1 hw
  obtain ⟨w2, hw⟩ := wfL1 hw
  obtain ⟨a, rfl⟩ := h32_of g1
  obtain ⟨b, rfl⟩ := u32_shp g3 w2
  exact ⟨⟨a, b⟩, rfl⟩
theorem bool_shp {x : T} (h : Sh.bool.has x) : ∃ b, x = .bool b := by
  cases x <;> simp only [Sh.has] at h
  exact ⟨_, rfl⟩
theorem coin_of {x : T} (h : shCoin.has x) (hw : x.wf) : ∃ a, x = coinT a := by
  cases x <;> simp only [Sh.has] at h
  simp only [T.wf] at hw
  obtain ⟨r, ys, rfl, h1, h2⟩ := hasL1 h
  obtain ⟨o, ys, rfl, h3, h4⟩ := hasL1 h2
  obtain ⟨t, ys, rfl, h5, h6⟩ := hasL1 h4
  obtain ⟨f, ys, rfl, h7, h8⟩ := hasL1 h6
  obtain rfl := hasL0 h8
  obtain ⟨w1, hw⟩ := wfL1 hw
  obtain ⟨w2, hw⟩ := wfL1 hw
  obtain ⟨w3, hw⟩ := wfL1 hw
  obtain ⟨w4, hw⟩ := wfL1 hw
  obtain ⟨a, rfl⟩ := rf_of h1 w1
  obtain ⟨b, rfl⟩ := out_of o h3 w2
  obtain ⟨c, rfl⟩ := u32_shp h5 w3
  obtain ⟨d, rfl⟩ := bool_shp h7
  exact ⟨⟨a, b, c, d⟩, rfl⟩
def coinsT (l : List TCoin) : T := .sq 37 (l.map coinT)
theorem coinsT_inj (a b : List TCoin) (h : coinsT a = coinsT b) : a = b := by
  simp only [coinsT, T.sq.injEq, true_and] at h
  exact coins_inj _ _ h
theorem coins_of {x : T} (h : (Sh.sq 37 shCoin).has x) (hw : x.wf) : ∃ a, x = coinsT a := by
  cases x <;> simp only [Sh.has] at h
  obtain ⟨rfl, h⟩ := h
  simp only [T.wf] at hw
  obtain ⟨l, rfl⟩ := list_of (fun x h w => coin_of h w) _ h hw.2.2.2
  exact ⟨l, rfl⟩
abbrev txsT (l : List TTx) : T := .sq 4 (l.map txT)
theorem txsT_inj (a b : List TTx) (h : txsT a = txsT b) : a = b := by
  simp only [txsT, T.sq.injEq, true_and] at h
  exact map_inj txT_inj _ _ h
theorem txs_of {x : T} (h : (Sh.sq 4 shTx).has x) (hw : x.wf) : ∃ a, x = txsT a := by
  cases x <;> simp only [Sh.has] at h
  obtain ⟨rfl, h⟩ := h
  simp only [T.wf] at hw
  obtain ⟨l, rfl⟩ := list_of (fun x h w => tx_of h w) _ h hw.2.2.2
  exact ⟨l, rfl⟩
theorem i64_shp {x : T} (h : (Sh.int .i64).has x) : ∃ a : Int, x = .int .i64 a := by
  cases x <;> simp only [Sh.has] at h
  subst h
  exact ⟨_, rfl⟩

/-- An act on a view. -/
structure VAct where
  k : Int
  c : TCoin
  t : TTx
  txs : List TTx
  ht : UInt32
  first : Bool
  sp : List TCoin
def vactT (a : VAct) : T := .st [.int .i64 a.k, coinT a.c, txT a.t, txsT a.txs, h32T a.ht, .bool a.first, coinsT a.sp]
theorem vactT_inj (a b : VAct) (h : vactT a = vactT b) : a = b := by
  obtain ⟨k1, c1, t1, l1, h1, f1, s1⟩ := a
  obtain ⟨k2, c2, t2, l2, h2, f2, s2⟩ := b
  simp only [vactT, T.st.injEq, List.cons.injEq, T.int.injEq, T.bool.injEq, true_and, and_true] at h
  obtain ⟨e1, e2, e3, e4, e5, e6, e7⟩ := h
  rw [e1, coinT_inj _ _ e2, txT_inj _ _ e3, txsT_inj _ _ e4, h32T_inj _ _ e5, e6, coinsT_inj _ _ e7]
abbrev shVact : Sh := .st [.int .i64, shCoin, shTx, .sq 4 shTx, .int .u32, .bool, .sq 37 shCoin]
theorem vact_of {x : T} (h : shVact.has x) (hw : x.wf) : ∃ a, x = vactT a := by
  cases x <;> simp only [Sh.has] at h
  simp only [T.wf] at hw
  obtain ⟨k, ys, rfl, g1, h⟩ := hasL1 h
  obtain ⟨c, ys, rfl, g2, h⟩ := hasL1 h
  obtain ⟨t, ys, rfl, g3, h⟩ := hasL1 h
  obtain ⟨l, ys, rfl, g4, h⟩ := hasL1 h
  obtain ⟨ht, ys, rfl, g5, h⟩ := hasL1 h
  obtain ⟨f, ys, rfl, g6, h⟩ := hasL1 h
  obtain ⟨s, ys, rfl, g7, h⟩ := hasL1 h
  obtain rfl := hasL0 h
  obtain ⟨w1, hw⟩ := wfL1 hw
  obtain ⟨w2, hw⟩ := wfL1 hw
  obtain ⟨w3, hw⟩ := wfL1 hw
  obtain ⟨w4, hw⟩ := wfL1 hw
  obtain ⟨w5, hw⟩ := wfL1 hw
  obtain ⟨w6, hw⟩ := wfL1 hw
  obtain ⟨w7, hw⟩ := wfL1 hw
  obtain ⟨k, rfl⟩ := i64_shp g1
  obtain ⟨c, rfl⟩ := coin_of g2 w2
  obtain ⟨t, rfl⟩ := tx_of g3 w3
  obtain ⟨l, rfl⟩ := txs_of g4 w4
  obtain ⟨ht, rfl⟩ := u32_shp g5 w5
  obtain ⟨f, rfl⟩ := bool_shp g6
  obtain ⟨s, rfl⟩ := coins_of g7 w7
  exact ⟨⟨k, c, t, l, ht, f, s⟩, rfl⟩

end Go.Fw

end
