/- The abstract machine, and the contracts of the code: part 4. -/
import Derived.Test.YtchljppcenckaaaFwBb

section
/- Operations that turn no memory: what they make of abstract values, and that the model's run does so. -/
namespace Go.Fw
set_option linter.unusedVariables false
set_option linter.unusedSimpArgs false
open Go

def snap (w : World) : Nat → Option Obj := fun b => w.heap[b]?

/-- A stretch of an array that lies within a block. -/
def subPart (o : Option Blk) (p : List Nat) (sz off lo len : Nat) : Option T :=
  match o with
  | some B => match B.get p, B.off p with
    | some (.t (.ba _ l)), some o => if sz = 1 ∧ o = off ∧ lo + len ≤ l.length then some (.by ((l.drop lo).take len)) else none
    | some (.t (.ar _ sz' xs)), some o => if sz = sz' ∧ 0 < sz ∧ o = off ∧ lo + len ≤ xs.length then some (.sq sz ((xs.drop lo).take len)) else none
    | _, _ => none
  | none => none

/-- A slice's content as a tree. -/
def rowT (H : List Blk) : AV → Option T
  | .t .nil => some .nil
  | .t (.by l) => some (.by l)
  | .t (.sq sz xs) => some (.sq sz xs)
  | .ex (.by l) => some (.by l)
  | .ex (.sq sz xs) => some (.sq sz xs)
  | .own i => match H[i]? with
    | some (.by l) => some (.by l)
    | some (.sq sz xs) => some (.sq sz xs)
    | some (.fz x) => some x
    | _ => none
  | .sub i p sz off lo len => match p with
    | [] => match H[i]? with
      | some (.by l) => if sz = 1 ∧ off = 0 ∧ lo + len ≤ l.length then some (.by ((l.drop lo).take len)) else none
      | some (.sq sz' xs) => if sz = sz' ∧ off = 0 ∧ lo + len ≤ xs.length then some (.sq sz ((xs.drop lo).take len)) else none
      | o => subPart o [] sz off lo len
    | j :: q => subPart H[i]? (j :: q) sz off lo len
  | _ => none

theorem cellsL_append (xs ys : List T) : T.cellsL (xs ++ ys) = T.cellsL xs ++ T.cellsL ys := by
  induction xs with
  | nil => rfl
  | cons x xs ih => simp [T.cellsL, ih]

/-- The cells of a stretch of a row of elements of one size. -/
theorem cellsL_stretch {sz : Nat} {xs : List T} (hs : ∀ x ∈ xs, x.size = sz) (hw : T.wfL xs) (lo n : Nat) (h : lo + n ≤ xs.length) (i : Nat) (c : T)
    (hi : (T.cellsL ((xs.drop lo).take n))[i]? = some c) : (T.cellsL xs)[lo * sz + i]? = some c := by
  have e : xs = xs.take lo ++ ((xs.drop lo).take n ++ (xs.drop lo).drop n) := by rw [List.take_append_drop, List.take_append_drop]
  have h1 : (T.cellsL (xs.take lo)).length = lo * sz := by
    rw [T.cellsL_len _ ((T.wfL_iff _).2 fun x hx => (T.wfL_iff _).1 hw x (List.mem_of_mem_take hx)), T.sizeL_const _ sz (fun x hx => hs x (List.mem_of_mem_take hx))]
    rw [List.length_take, Nat.min_eq_left (by omega)]
  rw [e, cellsL_append, cellsL_append, List.getElem?_append_right (by omega), h1]
  rw [show lo * sz + i - lo * sz = i by omega]
  rw [List.getElem?_append_left (List.getElem?_eq_some_iff.1 hi).1]
  exact hi

theorem Inv.snap {c : Ctx} {m : Mem} {w : World} {H : List Blk} (h : Inv c m w H) : MLe m.M (snap w) := h.imm

theorem RelT.snap_by {M : Nat → Option Obj} {l : List UInt8} {a : Option Addr} {n cap : Nat} (h : RelT M (.by l) (.slice a n cap)) : n = l.length ∧ l.length ≤ cap ∧ cap ≤ maxLen := by
  cases h with
  | byn => exact ⟨rfl, Nat.le_refl _, Nat.zero_le _⟩
  | «by» hM hl hm hc => exact ⟨rfl, hl, hm⟩

theorem wfL_stretch {xs : List T} (hw : T.wfL xs) (lo n : Nat) : T.wfL ((xs.drop lo).take n) :=
  (T.wfL_iff _).2 fun x hx => (T.wfL_iff _).1 hw x (List.mem_of_mem_drop (List.mem_of_mem_take hx))

/-- A slice (or string) whose cells lie in memory as it is now, its elements read only. -/
inductive RelR (w : World) (M : Nat → Option Obj) : T → Value → Prop
  | nil : RelR w M .nil (.slice none 0 0)
  | byn {a : Option Addr} : RelR w M (.by []) (.slice a 0 0)
  | by {l : List UInt8} {b off cap : Nat} {cur : Array Value} {ty : TypeId} {fr : Nat × Nat} (hM : w.heap[b]? = some (.cells cur ty fr))
      (hl : l.length ≤ cap) (hm : cap ≤ maxLen) (hc : ∀ i c, l[i]? = some c → cur[off + i]? = some (vu8 c)) : RelR w M (.by l) (.slice (some ⟨b, off, none⟩) l.length cap)
  | sqn {sz : Nat} {a : Option Addr} (h : 0 < sz) : RelR w M (.sq sz []) (.slice a 0 0)
  | sq {sz : Nat} {xs : List T} {b off cap : Nat} {cur : Array Value} {ty : TypeId} {fr : Nat × Nat} (hM : w.heap[b]? = some (.cells cur ty fr))
      (hw : T.wf (.sq sz xs)) (hl : xs.length ≤ cap) (hm : cap ≤ maxLen)
      (hr : ∀ i c, (T.cellsL xs)[i]? = some c → ∃ u, cur[off + i]? = some u ∧ RelT M c u) : RelR w M (.sq sz xs) (.slice (some ⟨b, off, none⟩) xs.length cap)
  | str {l : List UInt8} (h : l.length ≤ maxLen) : RelR w M (.str l) (.string ⟨l.toArray⟩)

def T.isRow : T → Bool
  | .nil | .by _ | .sq _ _ | .str _ => true
  | _ => false

theorem RelT.toR {w : World} {M : Nat → Option Obj} (hM : MLe M (snap w)) {x : T} {u : Value} (h : RelT M x u) (hx : x.isRow = true) : RelR w M x u := by
  cases h with
  | nil => exact .nil
  | byn => exact .byn
  | «by» h1 hl hm hc => exact .by (hM _ _ h1) hl hm hc
  | sqn h => exact .sqn h
  | sq h1 hw hl hm g hc hr => exact .sq (hM _ _ h1) hw hl hm (fun i c h => ⟨_, hc i c h, hr i c h⟩)
  | str h => exact .str h
  | _ => simp [T.isRow] at hx

theorem RelR.toT {w : World} {M : Nat → Option Obj} (hM : MLe M (snap w)) {x : T} {u : Value} (h : RelR w M x u) : RelT (snap w) x u := by
  cases h with
  | nil => exact .nil
  | byn => exact .byn
  | «by» h1 hl hm hc => exact .by h1 hl hm hc
  | sqn h => exact .sqn h
  | sq h1 hw hl hm hr =>
    rename_i off cap cur ty fr
    refine .sq h1 hw hl hm (fun j => cur.getD (off + j) undef) ?_ ?_
    · intro j c hj; obtain ⟨u, hu, _⟩ := hr j c hj; simp [hu]
    · intro j c hj; obtain ⟨u, hu, hr⟩ := hr j c hj; rw [show cur.getD (off + j) undef = u by simp [hu]]; exact hr.mono hM
  | str h => exact .str h

theorem subPart_ok {c : Ctx} {m : Mem} {w : World} {H : List Blk} (h : Inv c m w H) {i : Nat} {p : List Nat} {sz off lo len : Nat} {u : Value} (hv : RelA m (.sub i p sz off lo len) u) {x : T}
    (hx : subPart H[i]? p sz off lo len = some x) : RelR w m.M x u := by
  obtain ⟨a, cap, rfl, hi, hl, hm, ha⟩ := hv.sub_inv
  unfold subPart at hx
  split at hx
  case h_2 => cases hx
  rename_i B hB
  split at hx
  case h_3 => cases hx
  · rename_i n l o hg ho
    split at hx
    case isFalse => cases hx
    rename_i hc
    obtain ⟨rfl, rfl, hlen⟩ := hc
    cases hx
    have e : ((l.drop lo).take len).length = len := by simp; omega
    rcases ha with ⟨rfl, rfl, rfl⟩ | ⟨b, o', hb, rfl, ho'⟩
    · rw [show (l.drop lo).take 0 = [] from rfl]; exact .byn
    · obtain ⟨b', cur, e', fr, hb', hh, hw, hr⟩ := Blk.get_ok h.imm (h.ok _ _ hB) hg ho
      rw [hb] at hb'; cases hb'
      have := RelR.by (w := w) (M := m.M) (l := (l.drop lo).take len) (b := b) (off := o') (cap := cap) hh (by omega) hm (by
        intro j c hj
        have hj' := (List.getElem?_eq_some_iff.1 hj).1
        rw [e] at hj'
        rw [List.getElem?_take, if_pos hj', List.getElem?_drop] at hj
        obtain ⟨u, hu, hru⟩ := hr (lo + j) (.t (u8 c)) (by simp [AV.cells, T.cells, hj])
        rw [ho' (by omega), Nat.mul_one, Nat.add_assoc, hu, u8_rel hru.t_inv])
      rw [e] at this; exact this
  · rename_i n sz' xs o hg ho
    split at hx
    case isFalse => cases hx
    rename_i hc
    obtain ⟨rfl, hpos, rfl, hlen⟩ := hc
    cases hx
    have e : ((xs.drop lo).take len).length = len := by simp; omega
    rcases ha with ⟨rfl, rfl, rfl⟩ | ⟨b, o', hb, rfl, ho'⟩
    · rw [show (xs.drop lo).take 0 = [] from rfl]; exact .sqn hpos
    · obtain ⟨b', cur, e', fr, hb', hh, hw, hr⟩ := Blk.get_ok h.imm (h.ok _ _ hB) hg ho
      rw [hb] at hb'; cases hb'
      simp only [AV.wf, T.wf] at hw
      obtain ⟨hw1, hw2, hw3⟩ := hw
      have hlen0 : len ≤ maxLen := by omega
      have := RelR.sq (w := w) (M := m.M) (sz := sz) (xs := (xs.drop lo).take len) (b := b) (off := o') (cap := cap) hh
        (by simp only [T.wf]; exact ⟨hpos, by rw [e]; omega, fun x hx => hw2 x (List.mem_of_mem_drop (List.mem_of_mem_take hx)), wfL_stretch hw3 _ _⟩)
        (by omega) hm (fun j c hj => by
          have h0 : len ≠ 0 := by intro h0; subst h0; simp [T.cellsL] at hj
          have := cellsL_stretch hw2 hw3 lo len hlen j c hj
          obtain ⟨u, hu, hru⟩ := hr (lo * sz + j) (.t c) (by simp [AV.cells, T.cells, this])
          exact ⟨u, by rw [ho' h0, Nat.add_assoc]; exact hu, hru.t_inv⟩)
      rw [e] at this; exact this

theorem rowR_ok {c : Ctx} {m : Mem} {w : World} {H : List Blk} (h : Inv c m w H) {v : AV} {u : Value} (hv : RelA m v u) {x : T} (hx : rowT H v = some x) (hrow : x.isRow = true) : RelR w m.M x u := by
  unfold rowT at hx
  split at hx
  · cases hx; exact hv.t_inv.toR h.snap hrow
  · cases hx; exact hv.t_inv.toR h.snap hrow
  · cases hx; exact hv.t_inv.toR h.snap hrow
  · cases hx; cases hv with | ex hv => exact hv.toR h.snap hrow
  · cases hx; cases hv with | ex hv => exact hv.toR h.snap hrow
  · rename_i i
    obtain ⟨rfl, _⟩ := hv.own_inv
    split at hx
    · rename_i l hi
      cases hx
      rcases h.ok _ _ hi with ⟨e, rfl⟩ | ⟨b, cap, cur, e, hd, hh, hs, hl, hm, _, hc⟩
      · rw [e]; exact .byn
      · rw [hd]; exact .by hh hl hm (by simpa using hc)
    · rename_i sz xs hi
      cases hx
      obtain ⟨hw, ho⟩ := h.ok _ _ hi
      rcases ho with ⟨e, rfl⟩ | ⟨b, cap, cur, e, hd, hh, hs, hl, hm, _, hc⟩
      · rw [e]; exact .sqn (by simp only [T.wf] at hw; exact hw.1)
      · rw [hd]; exact .sq hh hw hl hm (by simpa using hc)
    · rename_i y hi
      cases hx
      exact RelT.toR h.snap (h.ok _ _ hi).1 hrow
    · cases hx
  · rename_i i p sz off lo len
    split at hx
    case h_2 => exact subPart_ok h hv hx
    have hv0 := hv
    obtain ⟨a, cap, rfl, hi, hl, hm, ha⟩ := hv.sub_inv
    split at hx
    · rename_i l hib
      split at hx
      · rename_i hc
        obtain ⟨rfl, rfl, hlen⟩ := hc
        cases hx
        have e : ((l.drop lo).take len).length = len := by simp; omega
        rcases ha with ⟨rfl, rfl, rfl⟩ | ⟨b, o, hb, rfl, ho⟩
        · have : (l.drop lo).take 0 = [] := rfl
          rw [this]; exact .byn
        · rcases h.ok _ _ hib with ⟨e, _⟩ | ⟨b', cap', cur, ty, hd, hh, hs, hl', hm', _, hcc⟩
          · rw [e] at hb; cases hb
          · rw [hd] at hb; simp [blk] at hb; subst hb
            have := RelR.by (w := w) (M := m.M) (l := (l.drop lo).take len) (b := b') (off := o) (cap := cap) hh (by omega) hm (by
              intro j c hj
              have hj' := (List.getElem?_eq_some_iff.1 hj).1
              rw [e] at hj'
              rw [ho (by omega), show 0 + lo * 1 + j = lo + j by omega]
              apply hcc
              rw [List.getElem?_take, if_pos hj', List.getElem?_drop] at hj
              exact hj)
            rw [e] at this; exact this
      · cases hx
    · rename_i sz' xs hib
      split at hx
      · rename_i hc
        obtain ⟨rfl, rfl, hlen⟩ := hc
        cases hx
        obtain ⟨hw, hok⟩ := h.ok _ _ hib
        obtain ⟨hw1, hw2, hw3, hw4⟩ := (by simpa only [T.wf] using hw : 0 < sz ∧ xs.length ≤ maxLen ∧ (∀ x ∈ xs, x.size = sz) ∧ T.wfL xs)
        have e : ((xs.drop lo).take len).length = len := by simp; omega
        rcases ha with ⟨rfl, rfl, rfl⟩ | ⟨b, o, hb, rfl, ho⟩
        · have : (xs.drop lo).take 0 = [] := rfl
          rw [this]; exact .sqn hw1
        · rcases hok with ⟨e, _⟩ | ⟨b', cap', cur, ty, hd, hh, hs, hl', hm', _, hcc⟩
          · rw [e] at hb; cases hb
          · rw [hd] at hb; simp [blk] at hb; subst hb
            have hget : ∀ j c, (T.cellsL ((xs.drop lo).take len))[j]? = some c → ∃ u, cur[o + j]? = some u ∧ RelT m.M c u := by
              intro j c hj
              have h0 : len ≠ 0 := by
                intro h0; subst h0; simp [T.cellsL] at hj
              have := hcc _ _ (cellsL_stretch hw3 hw4 lo len hlen j c hj)
              rw [ho h0]; simpa using this
            have := RelR.sq (w := w) (M := m.M) (sz := sz) (xs := (xs.drop lo).take len) (b := b') (off := o) (cap := cap) hh
              (by simp only [T.wf]; exact ⟨hw1, by rw [e]; omega, fun x hx => hw3 x (List.mem_of_mem_drop (List.mem_of_mem_take hx)), wfL_stretch hw4 _ _⟩)
              (by omega) hm hget
            rw [e] at this; exact this
      · cases hx
    · exact subPart_ok h hv0 hx
  · cases hx

theorem rowT_ok {c : Ctx} {m : Mem} {w : World} {H : List Blk} (h : Inv c m w H) {v : AV} {u : Value} (hv : RelA m v u) {x : T} (hx : rowT H v = some x) (hrow : x.isRow = true) : RelT (snap w) x u :=
  (rowR_ok h hv hx hrow).toT h.snap

def alen (H : List Blk) : AV → Option Nat
  | .t .nil => some 0
  | .t (.by l) => some l.length
  | .t (.sq _ xs) => some xs.length
  | .t (.str l) => some l.length
  | .sub _ _ _ _ _ len => some len
  | .ex (.by l) => some l.length
  | .ex (.sq _ xs) => some xs.length
  | .own i => match H[i]? with
    | some (.by l) => some l.length
    | some (.sq _ xs) => some xs.length
    | some (.fz (.by l)) => some l.length
    | some (.fz (.sq _ xs)) => some xs.length
    | _ => none
  | _ => none

/-- A slice's header has that length, which is no more than its room. -/
theorem alen_ok {c : Ctx} {m : Mem} {w : World} {H : List Blk} (h : Inv c m w H) {v : AV} {u : Value} (hv : RelA m v u) {n : Nat} (hn : alen H v = some n) :
    (∃ a cap, u = .slice a n cap ∧ n ≤ cap ∧ cap ≤ maxLen ∧ (a = none → cap = 0)) ∨ (∃ l, v = .t (.str l) ∧ u = .string ⟨l.toArray⟩ ∧ n = l.length ∧ n ≤ maxLen) := by
  have byc : ∀ (M : Nat → Option Obj) (l : List UInt8), RelT M (.by l) u → ∃ a cap, u = .slice a l.length cap ∧ l.length ≤ cap ∧ cap ≤ maxLen ∧ (a = none → cap = 0) := by
    intro M l h
    cases h with
    | byn => exact ⟨_, _, rfl, Nat.le_refl _, Nat.zero_le _, fun _ => rfl⟩
    | «by» hM hl hm hc => exact ⟨_, _, rfl, hl, hm, fun h => by cases h⟩
  have sqc : ∀ (M : Nat → Option Obj) (sz : Nat) (xs : List T), RelT M (.sq sz xs) u → ∃ a cap, u = .slice a xs.length cap ∧ xs.length ≤ cap ∧ cap ≤ maxLen ∧ (a = none → cap = 0) := by
    intro M sz xs h
    cases h with
    | sqn => exact ⟨_, _, rfl, Nat.le_refl _, Nat.zero_le _, fun _ => rfl⟩
    | sq hM hw hl hm hc => exact ⟨_, _, rfl, hl, hm, fun h => by cases h⟩
  unfold alen at hn
  split at hn <;> (try cases hn)
  · cases hv.t_inv; exact .inl ⟨_, _, rfl, Nat.le_refl _, Nat.zero_le _, fun _ => rfl⟩
  · exact .inl (byc _ _ hv.t_inv)
  · exact .inl (sqc _ _ _ hv.t_inv)
  · obtain ⟨h1, h2⟩ := hv.str_inv; exact .inr ⟨_, rfl, h1, rfl, h2⟩
  · cases hv with
    | sub hi hl hm ha =>
      rcases ha with ⟨rfl, rfl, rfl⟩ | ⟨b, o, hb, rfl, ho⟩
      · exact .inl ⟨_, _, rfl, hl, hm, fun _ => rfl⟩
      · exact .inl ⟨_, _, rfl, hl, hm, fun h => by cases h⟩
  · cases hv with | ex hv => exact .inl (byc _ _ hv)
  · cases hv with | ex hv => exact .inl (sqc _ _ _ hv)
  · rename_i i
    have hu : u = m.η i := by cases hv; rfl
    subst hu
    split at hn <;> (try cases hn)
    · rename_i l hi
      rcases h.ok _ _ hi with ⟨e, rfl⟩ | ⟨b, cap, cur, e, hd, hh, hs, hl, hm, _, hc⟩
      · rw [e]; exact .inl ⟨_, _, rfl, Nat.le_refl _, Nat.zero_le _, fun _ => rfl⟩
      · rw [hd]; exact .inl ⟨_, _, rfl, hl, hm, fun h => by cases h⟩
    · rename_i sz xs hi
      rcases (h.ok _ _ hi).2 with ⟨e, rfl⟩ | ⟨b, cap, cur, e, hd, hh, hs, hl, hm, _, hc⟩
      · rw [e]; exact .inl ⟨_, _, rfl, Nat.le_refl _, Nat.zero_le _, fun _ => rfl⟩
      · rw [hd]; exact .inl ⟨_, _, rfl, hl, hm, fun h => by cases h⟩
    · rename_i l hi; exact .inl (byc _ _ (h.ok _ _ hi).1)
    · rename_i sz xs hi; exact .inl (sqc _ _ _ (h.ok _ _ hi).1)

/-- A bound of a slice expression: between 0 and a limit. -/
def abound (v : AV) (lim : Nat) : Option Nat :=
  match v with
  | .t (.int _ i) => if 0 ≤ i ∧ i ≤ (lim : Int) then some i.toNat else none
  | _ => none

def cutL {α : Type} (l : List α) (lo hi : Option Nat) : List α :=
  match lo, hi with
  | none, none => l
  | none, some h => l.take h
  | some o, none => l.drop o
  | some o, some h => (l.take h).drop o

/-- The bounds of 'x[lo:hi]' on a slice of n elements. -/
def abounds (s : Slots) (n : Nat) (lo hi : Option Operand) : Option (Option Nat × Option Nat) :=
  match hi with
  | none => match lo with
    | none => some (none, none)
    | some o => match abound (ev s o) n with
      | some o => some (some o, none)
      | none => none
  | some h => match abound (ev s h) n with
    | none => none
    | some h => match lo with
      | none => some (none, some h)
      | some o => match abound (ev s o) h with
        | some o => some (some o, some h)
        | none => none

def aSlice (E : Env) (H : List Blk) (s : Slots) (t : TypeId) (x : Operand) (lo hi : Option Operand) : Option AV :=
  match (E t).ty with
  | .sl e => match alen H (ev s x) with
    | none => none
    | some n => match abounds s n lo hi with
      | none => none
      | some (lo, hi) => match ev s x with
        | .t (.by l) => if (E e).size = 1 then some (.t (.by (cutL l lo hi))) else none
        | .t (.sq sz xs) => if (E e).size = sz then some (.t (.sq sz (cutL xs lo hi))) else none
        | .own i => match lo, hi with
          | none, none => if 0 < (E e).size then some (.own i) else none
          | _, _ => match H[i]? with
            | some (.by _) => if (E e).size = 1 then some (.sub i [] 1 0 (lo.getD 0) (hi.getD n - lo.getD 0)) else none
            | some (.sq sz _) => if (E e).size = sz then some (.sub i [] sz 0 (lo.getD 0) (hi.getD n - lo.getD 0)) else none
            | some (.fz (.by l)) => if (E e).size = 1 then some (.t (.by (cutL l lo hi))) else none
            | some (.fz (.sq sz xs)) => if (E e).size = sz then some (.t (.sq sz (cutL xs lo hi))) else none
            | _ => none
        | .sub i p sz off lo0 _ => if (E e).size = sz ∧ 0 < sz then some (.sub i p sz off (lo0 + lo.getD 0) (hi.getD n - lo.getD 0)) else none
        | _ => none
  | .str => match ev s x with
    | .t (.str l) => match abounds s l.length lo hi with
      | some (lo, hi) => some (.t (.str (cutL l lo hi)))
      | none => none
    | _ => none
  | _ => none

theorem cutL_eq {α : Type} (l : List α) (lo hi : Option Nat) : cutL l lo hi = (l.drop (lo.getD 0)).take (hi.getD l.length - lo.getD 0) := by
  cases lo <;> cases hi <;> simp [cutL]
  · exact (List.take_of_length_le (by simp)).symm
  · rw [List.drop_take]

theorem abound_ok {m : Mem} {P : Program} {w : World} {v : AV} {u : Value} {lim n : Nat} (hv : RelA m v u) (h : abound v lim = some n) :
    n ≤ lim ∧ ∀ y code, lim ≤ y → (Instr.sliceBound u y code).run P w = .ok n w := by
  unfold abound at h
  split at h
  · obtain ⟨rfl, _⟩ := hv.int_inv
    split at h
    · rename_i hc
      cases h
      refine ⟨by omega, fun y code hy => ?_⟩
      have : 0 ≤ (‹Int› : Int) := hc.1
      simp only [Instr.sliceBound, asIntOf, Sem.run_bind, Sem.run_pure, Result.andThen_ok, Sem.run_ite]
      rw [if_pos (by omega)]
    · cases h
  · cases h

theorem abounds_ok {m : Mem} {P : Program} {w : World} {s : Slots} {ρ : Operand → Value} (hs : ∀ x, RelA m (ev s x) (ρ x)) {n cap : Nat} (hn : n ≤ cap)
    {lo hi : Option Operand} {r : Option Nat × Option Nat} (h : abounds s n lo hi = some r) (b : Bool) :
    r.1.getD 0 ≤ r.2.getD n ∧ r.2.getD n ≤ n ∧ (Instr.sliceBounds b n cap (lo.map ρ) (hi.map ρ) none).run P w = .ok (r.1.getD 0, r.2.getD n, cap) w := by
  unfold abounds at h
  cases hi with
  | none =>
    cases lo with
    | none => cases h; simp [Instr.sliceBounds]
    | some o =>
      simp only at h
      split at h
      · rename_i o' ho
        cases h
        obtain ⟨h1, h2⟩ := abound_ok (P := P) (w := w) (hs o) ho
        simp [Instr.sliceBounds, h1, h2 n _ (Nat.le_refl n)]
      · cases h
  | some hi =>
    simp only at h
    split at h
    · cases h
    · rename_i h' hh
      obtain ⟨g1, g2⟩ := abound_ok (P := P) (w := w) (hs hi) hh
      cases lo with
      | none => cases h; simp [Instr.sliceBounds, g1, g2 cap _ hn]
      | some o =>
        simp only at h
        split at h
        · rename_i o' ho
          cases h
          obtain ⟨h1, h2⟩ := abound_ok (P := P) (w := w) (hs o) ho
          simp [Instr.sliceBounds, g1, h1, g2 cap _ hn, h2 h' _ (Nat.le_refl h')]
        · cases h

theorem RelT.cut_by {M : Nat → Option Obj} {l : List UInt8} {a : Option Addr} {n cap : Nat} (h : RelT M (.by l) (.slice a n cap)) {lo hi : Nat} (h1 : lo ≤ hi) (h2 : hi ≤ l.length) :
    RelT M (.by ((l.drop lo).take (hi - lo))) (.slice (if cap = lo then a else a.map (·.add (lo * 1))) (hi - lo) (cap - lo)) := by
  cases h with
  | byn =>
    simp at h2; subst h2
    obtain rfl : lo = 0 := by omega
    exact .byn
  | «by» hM hl hm hc =>
    rename_i b off cur ty fr
    have e : ((l.drop lo).take (hi - lo)).length = hi - lo := by simp; omega
    by_cases hcap : cap = lo
    · rw [if_pos hcap]
      have e0 : hi - lo = 0 := by omega
      have := RelT.by (M := M) (l := []) (b := b) (off := off) (cap := cap - lo) hM (by simp) (by omega) (by simp)
      rw [e0]; simpa using this
    · rw [if_neg hcap]
      have := RelT.by (M := M) (l := (l.drop lo).take (hi - lo)) (b := b) (off := off + lo * 1) (cap := cap - lo) hM (by omega) (by omega) (by
        intro i c hi'
        have hlt := (List.getElem?_eq_some_iff.1 hi').1
        rw [e] at hlt
        rw [List.getElem?_take, if_pos hlt, List.getElem?_drop] at hi'
        have := hc _ _ hi'
        rw [show off + lo * 1 + i = off + (lo + i) by omega]
        exact this)
      rw [e] at this
      simpa [addr_add] using this

theorem RelT.cut_sq {M : Nat → Option Obj} {sz : Nat} {xs : List T} {a : Option Addr} {n cap : Nat} (h : RelT M (.sq sz xs) (.slice a n cap)) {lo hi : Nat} (h1 : lo ≤ hi) (h2 : hi ≤ xs.length) :
    RelT M (.sq sz ((xs.drop lo).take (hi - lo))) (.slice (if cap = lo then a else a.map (·.add (lo * sz))) (hi - lo) (cap - lo)) := by
  cases h with
  | sqn hsz =>
    simp at h2; subst h2
    obtain rfl : lo = 0 := by omega
    exact .sqn hsz
  | sq hM hw hl hm g hc hr =>
    rename_i b off cur ty fr
    obtain ⟨hw1, hw2, hw3, hw4⟩ := (by simpa only [T.wf] using hw : 0 < sz ∧ xs.length ≤ maxLen ∧ (∀ x ∈ xs, x.size = sz) ∧ T.wfL xs)
    have e : ((xs.drop lo).take (hi - lo)).length = hi - lo := by simp; omega
    have hw' : T.wf (.sq sz ((xs.drop lo).take (hi - lo))) := by
      simp only [T.wf]; exact ⟨hw1, by rw [e]; omega, fun x hx => hw3 x (List.mem_of_mem_drop (List.mem_of_mem_take hx)), wfL_stretch hw4 _ _⟩
    by_cases hcap : cap = lo
    · rw [if_pos hcap]
      have e0 : hi - lo = 0 := by omega
      have := RelT.sq (M := M) (sz := sz) (xs := []) (b := b) (off := off) (cap := cap - lo) hM (by simp [T.wf, hw1, T.wfL]) (by simp) (by omega) g (by simp [T.cellsL]) (by simp [T.cellsL])
      rw [e0]; simpa using this
    · rw [if_neg hcap]
      have st := fun i c hi' => cellsL_stretch hw3 hw4 lo (hi - lo) (by omega) i c hi'
      have := RelT.sq (M := M) (sz := sz) (xs := (xs.drop lo).take (hi - lo)) (b := b) (off := off + lo * sz) (cap := cap - lo) hM hw' (by omega) (by omega) (fun i => g (lo * sz + i))
        (by intro i c hi'; rw [show off + lo * sz + i = off + (lo * sz + i) by omega]; exact hc _ _ (st i c hi'))
        (by intro i c hi'; exact hr _ _ (st i c hi'))
      rw [e] at this
      simpa [addr_add] using this

theorem run_sliceAt_sl {P : Program} {E : Env} {t e : TypeId} (ht : P.underlying t = some (.slice e)) (he : TyOk P E e) {w : World} {a : Option Addr} {n cap l h : Nat} {lo hi : Option Value}
    (hb : (Instr.sliceBounds true n cap lo hi none).run P w = .ok (l, h, cap) w) :
    (Instr.sliceAt t (.slice a n cap) lo hi none).run P w = .ok (.slice (if cap = l then a else a.map (·.add (l * (E e).size))) (h - l) (cap - l)) w := by
  simp [Instr.sliceAt, Instr.slice, run_underlying ht, hb, he.sizeOf]

theorem aSlice_ok {P : Program} {E : Env} (hE : EnvOk P E) {c : Ctx} {m : Mem} {w : World} {H : List Blk} (h : Inv c m w H) {s : Slots} {ρ : Operand → Value}
    (hs : ∀ x, RelA m (ev s x) (ρ x)) {t : TypeId} {x : Operand} {lo hi : Option Operand} {v : AV} (hv : aSlice E H s t x lo hi = some v) :
    ∃ val, RelA m v val ∧ (Instr.sliceAt t (ρ x) (lo.map ρ) (hi.map ρ) none).run P w = .ok val w := by
  unfold aSlice at hv
  split at hv
  · rename_i e ht
    obtain ⟨hd, _⟩ := hE.ty ht (by simp)
    simp only [DescOk] at hd
    split at hv
    · cases hv
    · rename_i n hn
      split at hv
      · cases hv
      · rename_i lo' hi' hbd
        have hx := hs x
        rcases alen_ok h hx hn with ⟨a, cap, hu, hncap, hmax, hnil⟩ | ⟨l, hl, _⟩
        · obtain ⟨b1, b2, b3⟩ := abounds_ok (P := P) (w := w) hs hncap hbd true
          simp only at b1 b2 b3
          rw [hu]
          have key : ∀ sz, (E e).size = sz → 0 < sz → (Instr.sliceAt t (.slice a n cap) (lo.map ρ) (hi.map ρ) none).run P w =
              .ok (.slice (if cap = lo'.getD 0 then a else a.map (·.add (lo'.getD 0 * sz))) (hi'.getD n - lo'.getD 0) (cap - lo'.getD 0)) w := by
            intro sz hsz hp
            rw [← hsz]
            exact run_sliceAt_sl hd (hE.size hsz hp) b3
          rw [hu] at hx
          split at hv
          · rename_i l hxv
            split at hv
            · rename_i hsz
              cases hv
              rw [hxv] at hn hx
              simp only [alen, Option.some.injEq] at hn
              subst hn
              refine ⟨_, .t ?_, key 1 hsz (by omega)⟩
              rw [cutL_eq]
              exact RelT.cut_by hx.t_inv b1 b2
            · cases hv
          · rename_i sz xs hxv
            split at hv
            · rename_i hsz
              cases hv
              rw [hxv] at hn hx
              simp only [alen, Option.some.injEq] at hn
              subst hn
              have hw := hx.t_inv.wf
              simp only [T.wf] at hw
              refine ⟨_, .t ?_, key sz hsz hw.1⟩
              rw [cutL_eq]
              exact RelT.cut_sq hx.t_inv b1 b2
            · cases hv
          · rename_i i hxv
            rw [hxv] at hx hn
            obtain ⟨hη, hin⟩ := hx.own_inv
            split at hv
            · split at hv
              · rename_i hpos
                cases hv
                have := key _ rfl hpos
                simp only [Option.getD_none, Nat.zero_mul, Nat.sub_zero] at this
                refine ⟨_, .own hin, ?_⟩
                rw [this, ← hη]
                cases a with
                | none => simp
                | some a => simp [Addr.add]
              · cases hv
            · have subcase : (∀ b, a = some b → b = ⟨b.block, 0, none⟩) → ∀ sz, (E e).size = sz → 0 < sz → ∃ val, RelA m (.sub i [] sz 0 (lo'.getD 0) (hi'.getD n - lo'.getD 0)) val ∧
                  (Instr.sliceAt t (.slice a n cap) (lo.map ρ) (hi.map ρ) none).run P w = .ok val w := by
                intro hz sz hsz hp
                refine ⟨_, ?_, key sz hsz hp⟩
                cases a with
                | none =>
                  have := hnil rfl
                  subst this
                  have e1 : n = 0 := by omega
                  have e2 : lo'.getD 0 = 0 := by omega
                  simp only [e2, Option.map_none, ite_self, Nat.sub_zero]
                  exact .sub hin (by omega) (by omega) (.inl ⟨rfl, rfl, by omega⟩)
                | some a =>
                  have ha := hz a rfl
                  have hb : blk (m.η i) = some a.block := by rw [← hη]; rfl
                  by_cases hcap : cap = lo'.getD 0
                  · rw [if_pos hcap]
                    exact .sub hin (by omega) (by omega) (.inr ⟨a.block, 0, hb, by rw [← ha], fun hne => by omega⟩)
                  · rw [if_neg hcap]
                    refine .sub hin (by omega) (by omega) (.inr ⟨a.block, 0 + lo'.getD 0 * sz, hb, ?_, fun _ => rfl⟩)
                    rw [ha]; simp [addr_add]
              split at hv
              · rename_i l hi'
                split at hv
                · rename_i hsz; cases hv
                  refine subcase (fun b hb => ?_) 1 hsz (by omega)
                  subst hb
                  rcases h.ok _ _ hi' with ⟨e, _⟩ | ⟨b', cap', cur, ty, hd', _⟩
                  · rw [e] at hη; cases hη
                  · rw [hd'] at hη; cases hη; rfl
                · cases hv
              · rename_i sz xs hi'
                split at hv
                · rename_i hsz; cases hv
                  have hw := (h.ok _ _ hi').1
                  simp only [T.wf] at hw
                  refine subcase (fun b hb => ?_) sz hsz hw.1
                  subst hb
                  rcases (h.ok _ _ hi').2 with ⟨e, _⟩ | ⟨b', cap', cur, ty, hd', _⟩
                  · rw [e] at hη; cases hη
                  · rw [hd'] at hη; cases hη; rfl
                · cases hv
              · rename_i l hi'
                split at hv
                · rename_i hsz; cases hv
                  have hr : RelT m.M (.by l) (m.η i) := (h.ok _ _ hi').1
                  rw [← hη] at hr
                  simp only [alen, hi', Option.some.injEq] at hn
                  subst hn
                  exact ⟨_, .t (by rw [cutL_eq]; exact RelT.cut_by hr b1 b2), key 1 hsz (by omega)⟩
                · cases hv
              · rename_i sz xs hi'
                split at hv
                · rename_i hsz; cases hv
                  have hr : RelT m.M (.sq sz xs) (m.η i) := (h.ok _ _ hi').1
                  rw [← hη] at hr
                  simp only [alen, hi', Option.some.injEq] at hn
                  subst hn
                  have hw := hr.wf
                  simp only [T.wf] at hw
                  exact ⟨_, .t (by rw [cutL_eq]; exact RelT.cut_sq hr b1 b2), key sz hsz hw.1⟩
                · cases hv
              · cases hv
          · rename_i i p sz off lo0 len0 hxv
            rw [hxv] at hx hn
            obtain ⟨a', cap', hη, hin, h1, h2, h3⟩ := hx.sub_inv
            cases hη
            split at hv
            · rename_i hsz
              obtain ⟨hsz, hp⟩ := hsz
              cases hv
              refine ⟨_, ?_, key sz hsz hp⟩
              rcases h3 with ⟨rfl, rfl, h0⟩ | ⟨b, o, hb, rfl, ho⟩
              · have e2 : lo'.getD 0 = 0 := by omega
                simp only [e2, Option.map_none, ite_self]
                exact .sub hin (by omega) (by omega) (.inl ⟨rfl, by omega, by omega⟩)
              · by_cases hcap : cap = lo'.getD 0
                · rw [if_pos hcap]
                  exact .sub hin (by omega) (by omega) (.inr ⟨b, o, hb, rfl, fun hne => by omega⟩)
                · rw [if_neg hcap]
                  refine .sub hin (by omega) (by omega) (.inr ⟨b, o + lo'.getD 0 * sz, hb, ?_, fun hne => ?_⟩)
                  · simp [addr_add]
                  · rw [ho (by omega), Nat.add_mul]; omega
            · cases hv
          · cases hv
        · rw [hl] at hv; simp at hv
  · rename_i ht
    obtain ⟨hd, _⟩ := hE.ty ht (by simp)
    simp only [DescOk] at hd
    split at hv
    · rename_i l hxv
      have hx := hs x
      rw [hxv] at hx
      obtain ⟨hu, hm⟩ := hx.str_inv
      rw [hu]
      split at hv
      · rename_i lo' hi' hbd
        cases hv
        obtain ⟨b1, b2, b3⟩ := abounds_ok (P := P) (w := w) hs (Nat.le_refl l.length) hbd false
        simp only at b1 b2 b3
        refine ⟨.string ⟨(cutL l lo' hi').toArray⟩, .t (.str ?_), ?_⟩
        · rw [cutL_eq]; simp; omega
        · rw [cutL_eq]
          have hsz : (⟨l.toArray⟩ : ByteArray).size = l.length := by simp [ByteArray.size]
          simp [Instr.sliceAt, Instr.slice, run_underlying hd, hsz, b3, ByteArray.extract_mk]
      · cases hv
    · cases hv
  · cases hv

end Go.Fw

end
