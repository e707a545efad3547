/- The abstract machine, and the contracts of the code: part 21. -/
import Derived.Test.YtchljppcenckaaaFwR

section
/- Arguments of any readable type: what came in is a tree of its type. -/
namespace Go.Fw
open Go Go.RowKit Go.ChangeShapes Go.WideShapes
set_option linter.unusedVariables false
set_option linter.unusedSimpArgs false

inductive Sh where
  | bool
  | int (k : IntKind)
  | str
  | by
  | sq (sz : Nat) (e : Sh)
  | ba (n : Nat)
  | ar (n : Nat) (e : Sh)
  | st (ts : List Sh)

mutual
def Sh.size : Sh → Nat
  | .st ts => Sh.sizeL ts
  | .ba n => n
  | .ar n e => n * e.size
  | _ => 1
def Sh.sizeL : List Sh → Nat
  | [] => 0
  | t :: ts => t.size + Sh.sizeL ts
end

mutual
def Sh.has : Sh → T → Prop
  | .bool, .bool _ => True
  | .int k, .int k' _ => k' = k
  | .str, .str _ => True
  | .by, .by _ => True
  | .sq sz e, .sq sz' xs => sz' = sz ∧ ∀ x ∈ xs, e.has x
  | .st ts, .st xs => Sh.hasL ts xs
  | .ba n, .ba n' l => n' = n ∧ l.length = n
  | .ar n e, .ar n' sz xs => n' = n ∧ sz = e.size ∧ xs.length = n ∧ ∀ x ∈ xs, e.has x
  | _, _ => False
def Sh.hasL : List Sh → List T → Prop
  | [], [] => True
  | t :: ts, x :: xs => t.has x ∧ Sh.hasL ts xs
  | _, _ => False
end

inductive ShOf (P : Program) : TypeId → Sh → Prop
  | bool {t} (h : P.underlying t = some .bool) : ShOf P t .bool
  | int {t k} (h : P.underlying t = some (.int k)) : ShOf P t (.int k)
  | str {t} (h : P.underlying t = some .string) : ShOf P t .str
  | by {t e} (h : P.underlying t = some (.slice e)) (he : P.underlying e = some (.int .u8)) (hc : P.cellsOf e = 1) : ShOf P t .by
  | sq {t e te} (h : P.underlying t = some (.slice e)) (hc : P.cellsOf e = te.size) (h0 : 0 < te.size) (he : ShOf P e te) : ShOf P t (.sq te.size te)
  | ba {t n e} (h : P.underlying t = some (.array n e)) (he : P.underlying e = some (.int .u8)) (hc : P.cellsOf e = 1) (hct : P.cellsOf t = n) : ShOf P t (.ba n)
  | ar {t n e te} (h : P.underlying t = some (.array n e)) (hc : P.cellsOf e = te.size) (hct : P.cellsOf t = n * te.size) (h0 : 0 < te.size) (he : ShOf P e te) : ShOf P t (.ar n te)
  | st {t fs ts} (h : P.underlying t = some (.struct fs)) (hl : fs.size = ts.length) (hc : P.cellsOf t = Sh.sizeL ts)
      (ho : ∀ (i : Nat) (f : Field) (y : Sh), fs[i]? = some f → ts[i]? = some y → f.offset = Sh.sizeL (ts.take i) ∧ P.cellsOf f.type = y.size)
      (he : ∀ (i : Nat) (f : Field) (y : Sh), fs[i]? = some f → ts[i]? = some y → ShOf P f.type y) : ShOf P t (.st ts)

theorem cellsL_inv : ∀ (xs : List T), T.wfL xs → ∀ (i : Nat) (c : T), (T.cellsL xs)[i]? = some c → ∃ (r : Nat) (y : T) (j : Nat), xs[r]? = some y ∧ y.cells[j]? = some c ∧ i = T.sizeL (xs.take r) + j
  | [], _, i, c, h => by simp [T.cellsL] at h
  | x :: xs, hw, i, c, h => by
    obtain ⟨hw1, hw2⟩ := (by simpa only [T.wfL] using hw : x.wf ∧ T.wfL xs)
    have hlen := T.cells_len x hw1
    simp only [T.cellsL] at h
    by_cases hi : i < x.cells.length
    · rw [List.getElem?_append_left hi] at h
      exact ⟨0, x, i, rfl, h, by simp [T.sizeL]⟩
    · rw [List.getElem?_append_right (by omega)] at h
      obtain ⟨r, y, j, h1, h2, h3⟩ := cellsL_inv xs hw2 _ c h
      exact ⟨r + 1, y, j, by simpa using h1, h2, by simp only [List.take_succ_cons, T.sizeL]; omega⟩

theorem cells?_get {W : World} {base : Nat} {a : Addr} {n : Nat} {cs : List Value} (h : W.cells? base a n = some cs) : cs.length = n ∧ ∀ i, i < n → W.cell? (a.add i) = cs[i]? := by
  unfold World.cells? at h
  split at h
  · refine ⟨by simpa using mapM_some_length h, fun i hi => ?_⟩
    have := mapM_some_get h i i (by simp [hi])
    exact this
  · cases h

theorem cell_block {W : World} {b off : Nat} {sp : Option Nat} {v : Value} (h : W.cell? ⟨b, off, sp⟩ = some v) : sp = none ∧ ∃ cur ty fr, W.heap[b]? = some (.cells cur ty fr) ∧ cur[off]? = some v := by
  unfold World.cell? at h
  split at h
  · rename_i c el fr hh
    split at h
    · cases h
    · rename_i hs; exact ⟨by simpa using hs, c, el, fr, hh, h⟩
  · cases h

/-- Fields one behind the other. -/
theorem fields_rel {M : Nat → Option Obj} {cs : List Value} : ∀ (ts : List Sh) (b : Nat),
    (∀ (i : Nat) (y : Sh), ts[i]? = some y → ∃ x : T, y.has x ∧ x.wf ∧ x.size = y.size ∧ ∀ (j : Nat) (c : T), x.cells[j]? = some c → ∃ v, cs[b + Sh.sizeL (ts.take i) + j]? = some v ∧ RelT M c v) →
    ∃ xs : List T, Sh.hasL ts xs ∧ T.wfL xs ∧ T.sizeL xs = Sh.sizeL ts ∧ ∀ (j : Nat) (c : T), (T.cellsL xs)[j]? = some c → ∃ v, cs[b + j]? = some v ∧ RelT M c v
  | [], b, h => ⟨[], by simp [Sh.hasL], by simp [T.wfL], by simp [T.sizeL, Sh.sizeL], fun j c hj => by simp [T.cellsL] at hj⟩
  | t :: ts, b, h => by
    obtain ⟨x, h1, h2, h3, h4⟩ := h 0 t rfl
    obtain ⟨xs, g1, g2, g3, g4⟩ := fields_rel ts (b + t.size) (fun i y hy => by
      obtain ⟨x', a1, a2, a3, a4⟩ := h (i + 1) y (by simpa using hy)
      refine ⟨x', a1, a2, a3, fun j c hj => ?_⟩
      obtain ⟨v, hv, hr⟩ := a4 j c hj
      refine ⟨v, ?_, hr⟩
      simp only [List.take_succ_cons, Sh.sizeL] at hv
      rw [← hv]; congr 1; omega)
    refine ⟨x :: xs, ⟨h1, g1⟩, ⟨h2, g2⟩, by simp only [T.sizeL, Sh.sizeL, h3, g3], fun j c hj => ?_⟩
    have hlen := T.cells_len x h2
    simp only [T.cellsL] at hj
    by_cases hi : j < x.cells.length
    · rw [List.getElem?_append_left hi] at hj
      obtain ⟨v, hv, hr⟩ := h4 j c hj
      exact ⟨v, by simpa [Sh.sizeL] using hv, hr⟩
    · rw [List.getElem?_append_right (by omega)] at hj
      obtain ⟨v, hv, hr⟩ := g4 _ c hj
      exact ⟨v, by rw [← hv]; congr 1; omega, hr⟩

theorem arg_T {H : Type} {enc : TypeId × Value → H} {P : Program} {W : World} {held : Bool} : ∀ (n : Nat) (t : TypeId) (ty : Sh) (cs : List Value) (x : DataW H × List MemPlace), ShOf P t ty →
    DataW.trod enc P W 0 (fun _ => true) held n t cs = some x →
    ∃ y : T, ty.has y ∧ y.wf ∧ y.size = ty.size ∧ cs.length = ty.size ∧ ∀ (i : Nat) (c : T), y.cells[i]? = some c → ∃ v, cs[i]? = some v ∧ RelT (snap W) c v := by
  intro n
  induction n with
  | zero => intro t ty cs x _ h; simp [DataW.trod] at h
  | succ n ih =>
    intro t ty cs x hty h
    have one : ∀ (y : T) (v : Value), y.cells = [y] → RelT (snap W) y v → ∀ (i : Nat) (c : T), y.cells[i]? = some c → ∃ v', [v][i]? = some v' ∧ RelT (snap W) c v' := by
      intro y v hy hr i c hi
      rw [hy] at hi
      cases i with
      | zero => simp at hi; subst hi; exact ⟨v, rfl, hr⟩
      | succ i => simp at hi
    cases hty with
    | bool ht =>
      obtain ⟨b, rfl, _⟩ := DataW.trod_bool ht h
      exact ⟨.bool b, trivial, trivial, rfl, rfl, one _ _ rfl .bool⟩
    | @int _ k ht =>
      obtain ⟨z, rfl, _, hw⟩ := DataW.trod_int ht h
      have hk : inK k z := by simp only [Lit.wf] at hw; simpa [inK] using hw
      exact ⟨.int k z, rfl, hk, rfl, rfl, one _ _ rfl (.int hk)⟩
    | str ht =>
      obtain ⟨s, rfl, _, hw⟩ := DataW.trod_string ht h
      have hl : s.data.toList.length ≤ maxLen := by simpa using hw
      have hr : RelT (snap W) (.str s.data.toList) (.string s) := by
        have := RelT.str (M := snap W) hl
        simpa using this
      exact ⟨.str s.data.toList, trivial, hl, rfl, rfl, one _ _ rfl hr⟩
    | «by» ht he hc =>
      rcases open_ints ht he hc h with ⟨rfl, _⟩ | ⟨a, len, cap, zs, rfl, _, hl, hm, hz, _, hcell, hwz⟩
      · exact ⟨.by [], trivial, by simp [T.wf, maxLen], rfl, rfl, one _ _ rfl .byn⟩
      · simp only [if_true] at hz
        obtain ⟨l, hr⟩ := row_rel (W := W) (A := some a) hl hm hz hwz (fun h => by cases h) (fun a' ha' c hc' => by cases ha'; exact hcell c (by omega))
        exact ⟨.by l, trivial, hr.wf, rfl, rfl, one _ _ rfl hr⟩
    | @sq _ e te ht hc h0 he =>
      rcases DataW.trod_slice ht h with ⟨rfl, _⟩ | ⟨a, len, cap, elems, rest, m, hm0, rfl, _, _, hl, hm, hel, hels, hsp, _⟩
      · exact ⟨.sq te.size [], ⟨rfl, by simp⟩, by simp [T.wf, T.wfL, h0], rfl, rfl, one _ _ rfl (.sqn h0)⟩
      · cases hm0
        obtain ⟨hr1, hr2⟩ := hsp rfl
        have each : ∀ r, r < cap → ∃ (ce : List Value) (y : DataW H × List MemPlace), W.cells? 0 (a.add (r * te.size)) te.size = some ce ∧ DataW.trod enc P W 0 (fun _ => true) held n e ce = some y := by
          intro r hr
          have hb : ∃ y, (W.cells? 0 (a.add (r * P.cellsOf e)) (P.cellsOf e)).bind (DataW.trod enc P W 0 (fun _ => true) held n e) = some y := by
            by_cases hrl : r < len
            · have := hels r hrl
              rw [List.getElem?_eq_getElem (by omega)] at this
              exact ⟨_, this⟩
            · have := hr2 (r - len) (by omega)
              rw [show len + (r - len) = r by omega, List.getElem?_eq_getElem (by omega)] at this
              exact ⟨_, this⟩
          obtain ⟨y, hy⟩ := hb
          rw [Option.bind_eq_some_iff] at hy
          obtain ⟨ce, hce, hy⟩ := hy
          rw [hc] at hce
          exact ⟨ce, y, hce, hy⟩
        rcases Nat.eq_zero_or_pos cap with hc0 | hc0
        · subst hc0
          obtain rfl : len = 0 := by omega
          exact ⟨.sq te.size [], ⟨rfl, by simp⟩, by simp [T.wf, T.wfL, h0], rfl, rfl, one _ _ rfl (.sqn h0)⟩
        · obtain ⟨b, off, sp⟩ := a
          have hblk : sp = none ∧ ∃ cur ty fr, W.heap[b]? = some (.cells cur ty fr) := by
            obtain ⟨ce, y, hce, _⟩ := each 0 hc0
            obtain ⟨q1, q2⟩ := cells?_get hce
            have := q2 0 h0
            rw [List.getElem?_eq_getElem (by omega)] at this
            simp only [Nat.zero_mul] at this
            have ha : ((⟨b, off, sp⟩ : Addr).add 0).add 0 = ⟨b, off, sp⟩ := by simp [Addr.add]
            rw [ha] at this
            obtain ⟨s1, c1, c2, c3, c4, _⟩ := cell_block this
            exact ⟨s1, c1, c2, c3, c4⟩
          obtain ⟨rfl, cur, tyb, fr, hb⟩ := hblk
          have hcellat : ∀ k, W.cell? ((⟨b, off, none⟩ : Addr).add k) = cur[off + k]? := by
            intro k
            unfold Addr.add
            split
            · rename_i h0'; subst h0'; simp [World.cell?, hb]
            · simp [World.cell?, hb]
          have hadd : ∀ k j, ((⟨b, off, none⟩ : Addr).add k).add j = (⟨b, off, none⟩ : Addr).add (k + j) := by
            intro k j
            simp only [Addr.add]
            split <;> split <;> simp_all <;> omega
          have each2 : ∀ r, ∃ y : T, r < cap → te.has y ∧ y.wf ∧ y.size = te.size ∧ ∀ (j : Nat) (c : T), y.cells[j]? = some c → ∃ v, cur[off + (r * te.size + j)]? = some v ∧ RelT (snap W) c v := by
            intro r
            by_cases hr : r < cap
            · obtain ⟨ce, y, hce, hy⟩ := each r hr
              obtain ⟨z, z1, z2, z3, z4, z5⟩ := ih e te ce y he hy
              refine ⟨z, fun _ => ⟨z1, z2, z3, fun j c hj => ?_⟩⟩
              obtain ⟨v, hv, hrl⟩ := z5 j c hj
              obtain ⟨q1, q2⟩ := cells?_get hce
              have hjl : j < te.size := by
                have := (List.getElem?_eq_some_iff.1 hj).1
                rw [T.cells_len z z2, z3] at this; exact this
              have := q2 j hjl
              rw [hadd, hcellat, hv] at this
              exact ⟨v, this, hrl⟩
            · exact ⟨.nil, fun h => absurd h hr⟩
          let f : Nat → T := fun r => Classical.choose (each2 r)
          have hf : ∀ r, r < cap → te.has (f r) ∧ (f r).wf ∧ (f r).size = te.size ∧ ∀ (j : Nat) (c : T), (f r).cells[j]? = some c → ∃ v, cur[off + (r * te.size + j)]? = some v ∧ RelT (snap W) c v := fun r hr => Classical.choose_spec (each2 r) hr
          have hmem : ∀ x ∈ (List.range len).map f, ∃ r, r < cap ∧ x = f r := by
            intro x hx
            simp only [List.mem_map, List.mem_range] at hx
            obtain ⟨r, hr, rfl⟩ := hx
            exact ⟨r, by omega, rfl⟩
          have hlen : ((List.range len).map f).length = len := by simp
          have hsz : ∀ x ∈ (List.range len).map f, x.size = te.size := fun x hx => by obtain ⟨r, hr, rfl⟩ := hmem x hx; exact (hf r hr).2.2.1
          have hwfL : T.wfL ((List.range len).map f) := (T.wfL_iff _).2 fun x hx => by obtain ⟨r, hr, rfl⟩ := hmem x hx; exact (hf r hr).2.1
          have hwf : T.wf (.sq te.size ((List.range len).map f)) := by
            simp only [T.wf]
            exact ⟨h0, by rw [hlen]; omega, hsz, hwfL⟩
          have hcell : ∀ (i : Nat) (c : T), (T.cellsL ((List.range len).map f))[i]? = some c → ∃ v, cur[off + i]? = some v ∧ RelT (snap W) c v := by
            intro i c hi
            obtain ⟨r, y, j, h1, h2, rfl⟩ := cellsL_inv _ hwfL i c hi
            have hrl := (List.getElem?_eq_some_iff.1 h1).1
            rw [hlen] at hrl
            have hy : y = f r := by simp [hrl] at h1; exact h1.symm
            subst hy
            have e : T.sizeL (((List.range len).map f).take r) = r * te.size := by
              rw [T.sizeL_const _ te.size (fun x hx => hsz x (List.mem_of_mem_take hx)), List.length_take, hlen]
              congr 1; omega
            rw [e]
            exact (hf r (by omega)).2.2.2 j c h2
          have hrel := RelT.sq (M := snap W) (sz := te.size) (xs := (List.range len).map f) (off := off) (cap := cap) (b := b) hb hwf (by rw [hlen]; exact hl) hm (fun i => (cur[off + i]?).getD undef)
            (fun i c hi => by obtain ⟨v, hv, _⟩ := hcell i c hi; rw [hv]; rfl)
            (fun i c hi => by obtain ⟨v, hv, hr⟩ := hcell i c hi; rw [hv]; exact hr)
          rw [hlen] at hrel
          exact ⟨.sq te.size ((List.range len).map f), ⟨rfl, fun x hx => by obtain ⟨r, hr, rfl⟩ := hmem x hx; exact (hf r hr).1⟩, hwf, rfl, rfl, one _ _ rfl hrel⟩
    | @ba _ k e ht he hc hct =>
      obtain ⟨xs, m, hm0, _, hcl, hxl, hel⟩ := DataW.trod_array ht h
      cases hm0
      have each : ∀ i, ∃ c : UInt8, i < k → cs[i]? = some (vu8 c) := by
        intro i
        by_cases hi : i < k
        · have h1 := hel i hi
          rw [List.getElem?_eq_getElem (by omega), hc] at h1
          obtain ⟨z, hz, _, hw⟩ := DataW.trod_int he h1
          have h2 := int_of_wf hw
          have h3 : cs[i]? = some (.int .u8 z) := by
            have e : ((cs.drop (i * 1)).take 1)[0]? = some (.int .u8 z) := by rw [hz]; rfl
            rw [List.getElem?_take_of_lt (by omega), List.getElem?_drop] at e
            simpa using e
          refine ⟨UInt8.ofNat z.toNat, fun _ => ?_⟩
          rw [h3]
          simp only [vu8, Option.some.injEq, Value.int.injEq, true_and]
          simp; omega
        · exact ⟨0, fun h => absurd h hi⟩
      let f : Nat → UInt8 := fun i => Classical.choose (each i)
      have hf : ∀ i, i < k → cs[i]? = some (vu8 (f i)) := fun i hi => Classical.choose_spec (each i) hi
      have hlen : ((List.range k).map f).length = k := by simp
      refine ⟨.ba k ((List.range k).map f), ⟨rfl, hlen⟩, hlen, rfl, by rw [hcl, hct]; rfl, fun i c hi => ?_⟩
      have hi' : i < k := by
        have := (List.getElem?_eq_some_iff.1 hi).1
        simpa [T.cells] using this
      simp [T.cells, hi'] at hi
      exact ⟨vu8 (f i), hf i hi', hi ▸ RelT_u8 _⟩
    | @ar _ k e te ht hc hct h0 he =>
      obtain ⟨xs, m, hm0, _, hcl, hxl, hel⟩ := DataW.trod_array ht h
      cases hm0
      have each : ∀ i, ∃ y : T, i < k → te.has y ∧ y.wf ∧ y.size = te.size ∧ ∀ (j : Nat) (c : T), y.cells[j]? = some c → ∃ v, cs[i * te.size + j]? = some v ∧ RelT (snap W) c v := by
        intro i
        by_cases hi : i < k
        · have h1 := hel i hi
          rw [List.getElem?_eq_getElem (by omega), hc] at h1
          obtain ⟨z, z1, z2, z3, z4, z5⟩ := ih e te _ _ he h1
          refine ⟨z, fun _ => ⟨z1, z2, z3, fun j c hj => ?_⟩⟩
          obtain ⟨v, hv, hr⟩ := z5 j c hj
          refine ⟨v, ?_, hr⟩
          rw [List.getElem?_take] at hv
          split at hv
          · rw [List.getElem?_drop] at hv; exact hv
          · cases hv
        · exact ⟨.nil, fun h => absurd h hi⟩
      let f : Nat → T := fun i => Classical.choose (each i)
      have hf : ∀ i, i < k → te.has (f i) ∧ (f i).wf ∧ (f i).size = te.size ∧ ∀ (j : Nat) (c : T), (f i).cells[j]? = some c → ∃ v, cs[i * te.size + j]? = some v ∧ RelT (snap W) c v := fun i hi => Classical.choose_spec (each i) hi
      have hmem : ∀ x ∈ (List.range k).map f, ∃ r, r < k ∧ x = f r := by
        intro x hx
        simp only [List.mem_map, List.mem_range] at hx
        obtain ⟨r, hr, rfl⟩ := hx
        exact ⟨r, hr, rfl⟩
      have hlen : ((List.range k).map f).length = k := by simp
      have hsz : ∀ x ∈ (List.range k).map f, x.size = te.size := fun x hx => by obtain ⟨r, hr, rfl⟩ := hmem x hx; exact (hf r hr).2.2.1
      have hwfL : T.wfL ((List.range k).map f) := (T.wfL_iff _).2 fun x hx => by obtain ⟨r, hr, rfl⟩ := hmem x hx; exact (hf r hr).2.1
      refine ⟨.ar k te.size ((List.range k).map f), ⟨rfl, rfl, hlen, fun x hx => by obtain ⟨r, hr, rfl⟩ := hmem x hx; exact (hf r hr).1⟩, ?_, rfl, by rw [hcl, hct]; rfl, fun i c hi => ?_⟩
      · simp only [T.wf]; exact ⟨hlen, hsz, hwfL⟩
      · simp only [T.cells] at hi
        obtain ⟨r, y, j, h1, h2, rfl⟩ := cellsL_inv _ hwfL i c hi
        have hrl := (List.getElem?_eq_some_iff.1 h1).1
        rw [hlen] at hrl
        have hy : y = f r := by simp [hrl] at h1; exact h1.symm
        subst hy
        have e : T.sizeL (((List.range k).map f).take r) = r * te.size := by
          rw [T.sizeL_const _ te.size (fun x hx => hsz x (List.mem_of_mem_take hx)), List.length_take, hlen]
          congr 1; omega
        rw [e]
        exact (hf r hrl).2.2.2 j c h2
    | @st _ fs ts ht hl hc ho he =>
      obtain ⟨xs, m, hm0, _, hcl, hxl, hfs⟩ := DataW.trod_struct ht h
      cases hm0
      obtain ⟨ys, g1, g2, g3, g4⟩ := fields_rel (M := snap W) (cs := cs) ts 0 (fun i y hy => by
        have hi : i < ts.length := (List.getElem?_eq_some_iff.1 hy).1
        have hif : fs[i]? = some fs[i] := by simp [hl, hi]
        obtain ⟨o1, o2⟩ := ho i _ y hif hy
        have h1 := hfs i _ hif
        rw [List.getElem?_eq_getElem (by omega)] at h1
        obtain ⟨z, z1, z2, z3, z4, z5⟩ := ih _ y _ _ (he i _ y hif hy) h1
        refine ⟨z, z1, z2, z3, fun j c hj => ?_⟩
        obtain ⟨v, hv, hr⟩ := z5 j c hj
        refine ⟨v, ?_, hr⟩
        rw [List.getElem?_take] at hv
        split at hv
        · rw [List.getElem?_drop, o1] at hv
          rw [Nat.zero_add]; exact hv
        · cases hv)
      exact ⟨.st ys, g1, by simpa only [T.wf] using g2, by simpa only [T.size, Sh.size] using g3, by rw [hcl, hc]; rfl, fun i c hi => by
        obtain ⟨v, hv, hr⟩ := g4 i c (by simpa only [T.cells] using hi)
        exact ⟨v, by simpa using hv, hr⟩⟩

/-- What came in, of any readable type. -/
theorem arg_any {H : Type} {enc : TypeId × Value → H} {P : Program} {W : World} {base : Nat} {t : TypeId} {ty : Sh} {v : Value} {d : DataW H} {p : List MemPlace} {held : Bool} (hty : ShOf P t ty)
    (hv : Value.okWide P W .any base t v) (hd : DataW.Trod enc P W 0 (fun _ => true) held t v d p) : ∃ x : T, ty.has x ∧ RelT (snap W) x v := by
  obtain ⟨n, hd⟩ := hd
  obtain ⟨y, h1, h2, h3, h4, h5⟩ := arg_T n t _ _ _ hty hd
  refine ⟨y, h1, ?_⟩
  have one : y.cells = [y] → v.cells.toList = [v] → RelT (snap W) y v := by
    intro hy hc
    obtain ⟨v', hv', hr⟩ := h5 0 y (by rw [hy]; rfl)
    rw [hc] at hv'; simp at hv'; subst hv'; exact hr
  have agg : ∀ cs : Array Value, v = .agg cs → v.cells.toList = cs.toList := by rintro cs rfl; rfl
  cases hty with
  | bool ht =>
    have : ∃ b, v = .bool b := by
      simp only [Value.okWide, ht, Cell.okWide] at hv
      cases v <;> simp_all [Cell.ok]
    obtain ⟨b, rfl⟩ := this
    cases y <;> simp only [Sh.has] at h1
    exact one rfl rfl
  | int ht =>
    have : ∃ k n, v = .int k n := by
      simp only [Value.okWide, ht, Cell.okWide] at hv
      cases v <;> simp_all [Cell.ok]
    obtain ⟨k, n, rfl⟩ := this
    cases y <;> simp only [Sh.has] at h1
    exact one rfl rfl
  | str ht =>
    obtain ⟨s, rfl⟩ := okWide_string ht hv
    cases y <;> simp only [Sh.has] at h1
    exact one rfl rfl
  | «by» ht =>
    obtain ⟨a, len, cap, rfl⟩ := okWide_slice ht hv
    cases y <;> simp only [Sh.has] at h1
    exact one rfl rfl
  | sq ht =>
    obtain ⟨a, len, cap, rfl⟩ := okWide_slice ht hv
    cases y <;> simp only [Sh.has] at h1
    exact one rfl rfl
  | ba ht he hc hct =>
    have : ∃ cs, v = .agg cs := by
      simp only [Value.okWide, ht] at hv
      obtain ⟨cs, h, _⟩ := hv; exact ⟨cs, h⟩
    obtain ⟨cs, rfl⟩ := this
    cases y <;> simp only [Sh.has] at h1
    rename_i k l
    obtain ⟨rfl, hl⟩ := h1
    have hcs : cs.toList = l.map vu8 := by
      apply List.ext_getElem?
      intro i
      by_cases hi : i < l.length
      · obtain ⟨u, hu, hr⟩ := h5 i (u8 l[i]) (by simp [T.cells, hi])
        rw [show (Value.agg cs).cells.toList = cs.toList from rfl] at hu
        rw [hu, List.getElem?_map, List.getElem?_eq_getElem hi, u8_rel hr]; rfl
      · rw [List.getElem?_eq_none, List.getElem?_eq_none]
        · simp; omega
        · rw [show (Value.agg cs).cells.toList = cs.toList from rfl] at h4
          rw [h4]; simp only [Sh.size]; omega
    have : cs = (l.map vu8).toArray := by apply Array.toList_inj.1; simpa using hcs
    rw [this]
    exact .ba hl
  | ar ht hc hct h0 he =>
    have : ∃ cs, v = .agg cs := by
      simp only [Value.okWide, ht] at hv
      obtain ⟨cs, h, _⟩ := hv; exact ⟨cs, h⟩
    obtain ⟨cs, rfl⟩ := this
    cases y <;> simp only [Sh.has] at h1
    rename_i k sz ys
    obtain ⟨rfl, rfl, hl, _⟩ := h1
    refine .ar h2 ?_ fun i c hi => ?_
    · rw [show (Value.agg cs).cells.toList = cs.toList from rfl] at h4
      simp only [Sh.size] at h4
      simpa using h4
    · obtain ⟨u, hu, hr⟩ := h5 i c (by simpa only [T.cells] using hi)
      rw [show (Value.agg cs).cells.toList = cs.toList from rfl] at hu
      have : cs.getD i undef = u := by simp [Array.getD_eq_getD_getElem?, ← Array.getElem?_toList, hu]
      rw [this]; exact hr
  | st ht hl hc ho he =>
    have : ∃ cs, v = .agg cs := by
      simp only [Value.okWide, ht] at hv
      obtain ⟨cs, h, _⟩ := hv; exact ⟨cs, h⟩
    obtain ⟨cs, rfl⟩ := this
    cases y <;> simp only [Sh.has] at h1
    rename_i ys
    refine .st h2 ?_ fun i c hi => ?_
    · rw [show (Value.agg cs).cells.toList = cs.toList from rfl] at h4
      simp only [Sh.size, T.size] at h3 h4
      simpa [h3] using h4
    · obtain ⟨u, hu, hr⟩ := h5 i c hi
      rw [show (Value.agg cs).cells.toList = cs.toList from rfl] at hu
      have : cs.getD i undef = u := by simp [Array.getD_eq_getD_getElem?, ← Array.getElem?_toList, hu]
      rw [this]; exact hr

/-- A slice that came in. -/
theorem arg_slice {H : Type} {enc : TypeId × Value → H} {P : Program} {W : World} {base : Nat} {t e : TypeId} {te : Sh} {v : Value} {d : DataW H} {p : List MemPlace} {held : Bool} (hty : ShOf P t (.sq te.size te)) (ht : P.underlying t = some (.slice e))
    (hv : Value.okWide P W .any base t v) (hd : DataW.Trod enc P W 0 (fun _ => true) held t v d p) : ∃ xs : List T, (∀ x ∈ xs, te.has x) ∧ RelT (snap W) (.sq te.size xs) v := by
  obtain ⟨a, len, cap, rfl⟩ := okWide_slice ht hv
  obtain ⟨n, hd⟩ := hd
  obtain ⟨y, h1, h2, h3, h4, h5⟩ := arg_T n t _ _ _ hty hd
  cases y <;> simp only [Sh.has] at h1
  obtain ⟨rfl, h1⟩ := h1
  obtain ⟨v', hv', hr⟩ := h5 0 _ rfl
  simp [Value.cells] at hv'
  subst hv'
  exact ⟨_, h1, hr⟩

/-! ### A check that a type is of a shape. -/
mutual
def shB (P : Program) : Sh → TypeId → Bool
  | .bool, t => match P.underlying t with | some .bool => true | _ => false
  | .int k, t => match P.underlying t with | some (.int k') => decide (k' = k) | _ => false
  | .str, t => match P.underlying t with | some .string => true | _ => false
  | .by, t => match P.underlying t with | some (.slice e) => (match P.underlying e with | some (.int .u8) => true | _ => false) && P.cellsOf e == 1 | _ => false
  | .sq sz te, t => match P.underlying t with | some (.slice e) => P.cellsOf e == te.size && sz == te.size && decide (0 < te.size) && shB P te e | _ => false
  | .ba n, t => match P.underlying t with | some (.array n' e) => n' == n && (match P.underlying e with | some (.int .u8) => true | _ => false) && P.cellsOf e == 1 && P.cellsOf t == n | _ => false
  | .ar n te, t => match P.underlying t with | some (.array n' e) => n' == n && P.cellsOf e == te.size && P.cellsOf t == n * te.size && decide (0 < te.size) && shB P te e | _ => false
  | .st ts, t => match P.underlying t with | some (.struct fs) => P.cellsOf t == Sh.sizeL ts && shLB P ts fs.toList 0 | _ => false
def shLB (P : Program) : List Sh → List Field → Nat → Bool
  | [], [], _ => true
  | y :: ts, f :: fs, o => f.offset == o && P.cellsOf f.type == y.size && shB P y f.type && shLB P ts fs (o + y.size)
  | _, _, _ => false
end

mutual
theorem shB_ok {P : Program} : ∀ (y : Sh) (t : TypeId), shB P y t = true → ShOf P t y
  | .bool, t, h => by
    unfold shB at h
    split at h
    · exact .bool (by assumption)
    · cases h
  | .int k, t, h => by
    unfold shB at h
    split at h
    · rename_i k' hk
      have := of_decide_eq_true h
      subst this
      exact .int hk
    · cases h
  | .str, t, h => by
    unfold shB at h
    split at h
    · exact .str (by assumption)
    · cases h
  | .by, t, h => by
    unfold shB at h
    split at h
    · rename_i e he
      simp only [Bool.and_eq_true, beq_iff_eq] at h
      obtain ⟨h1, h2⟩ := h
      split at h1
      · exact .by he (by assumption) h2
      · cases h1
    · cases h
  | .sq sz te, t, h => by
    unfold shB at h
    split at h
    · rename_i e he
      simp only [Bool.and_eq_true, beq_iff_eq, decide_eq_true_eq] at h
      obtain ⟨⟨⟨h1, rfl⟩, h3⟩, h4⟩ := h
      exact .sq he h1 h3 (shB_ok te e h4)
    · cases h
  | .ba n, t, h => by
    unfold shB at h
    split at h
    · rename_i n' e he
      simp only [Bool.and_eq_true, beq_iff_eq] at h
      obtain ⟨⟨⟨rfl, h1⟩, h2⟩, h3⟩ := h
      split at h1
      · exact .ba he (by assumption) h2 h3
      · cases h1
    · cases h
  | .ar n te, t, h => by
    unfold shB at h
    split at h
    · rename_i n' e he
      simp only [Bool.and_eq_true, beq_iff_eq, decide_eq_true_eq] at h
      obtain ⟨⟨⟨⟨rfl, h1⟩, h2⟩, h3⟩, h4⟩ := h
      exact .ar he h1 h2 h3 (shB_ok te e h4)
    · cases h
  | .st ts, t, h => by
    unfold shB at h
    split at h
    · rename_i fs hf
      simp only [Bool.and_eq_true, beq_iff_eq] at h
      obtain ⟨h1, h2⟩ := h
      obtain ⟨k1, k2⟩ := shLB_ok ts fs.toList 0 h2
      refine .st hf (by simpa using k1) h1 (fun i f y hi hy => ?_) (fun i f y hi hy => ?_)
      · have := k2 i f y (by simpa using hi) hy
        exact ⟨by simpa using this.1, this.2.1⟩
      · exact (k2 i f y (by simpa using hi) hy).2.2
    · cases h
theorem shLB_ok {P : Program} : ∀ (ts : List Sh) (fs : List Field) (o : Nat), shLB P ts fs o = true → fs.length = ts.length ∧ ∀ (i : Nat) (f : Field) (y : Sh), fs[i]? = some f → ts[i]? = some y → f.offset = o + Sh.sizeL (ts.take i) ∧ P.cellsOf f.type = y.size ∧ ShOf P f.type y
  | [], [], o, _ => ⟨rfl, fun i f y hi => by simp at hi⟩
  | [], _ :: _, o, h => by simp [shLB] at h
  | _ :: _, [], o, h => by simp [shLB] at h
  | y :: ts, f :: fs, o, h => by
    simp only [shLB, Bool.and_eq_true, beq_iff_eq] at h
    obtain ⟨⟨⟨h1, h2⟩, h3⟩, h4⟩ := h
    obtain ⟨k1, k2⟩ := shLB_ok ts fs _ h4
    refine ⟨by simp [k1], fun i f' y' hi hy => ?_⟩
    cases i with
    | zero =>
      simp at hi hy
      subst hi; subst hy
      exact ⟨by simp [h1, Sh.sizeL], h2, shB_ok y _ h3⟩
    | succ i =>
      obtain ⟨g1, g2, g3⟩ := k2 i f' y' (by simpa using hi) (by simpa using hy)
      exact ⟨by rw [g1]; simp only [List.take_succ_cons, Sh.sizeL]; omega, g2, g3⟩
end

end Go.Fw

end
