/- The abstract machine, and the contracts of the code: part 12. -/
import Derived.Test.YtchljppcenckaaaFwJ

section
/- A call as a step: the arguments as trees, rows made read only where a result may share them. -/
namespace Go.Fw
set_option linter.unusedVariables false
set_option linter.unusedSimpArgs false
open Go

def immT (H : List Blk) : AV → Option T
  | .t x => some x
  | .own i => match H[i]? with
    | some (.fz x) => some x
    | _ => none
  | .sub i p sz off lo len => match H[i]? with
    | some (.fz (.by l)) => if p.isEmpty = true ∧ sz = 1 ∧ off = 0 ∧ lo + len ≤ l.length then some (.by ((l.drop lo).take len)) else none
    | some (.fz (.sq sz' xs)) => if p.isEmpty = true ∧ sz = sz' ∧ off = 0 ∧ lo + len ≤ xs.length then some (.sq sz ((xs.drop lo).take len)) else none
    | some (.fb x) => subPart (some (.fb x)) p sz off lo len
    | _ => none
  | .ex x => some x
  | _ => none

theorem fz_sub_by {c : Ctx} {m : Mem} {w : World} {H : List Blk} (h : Inv c m w H) {i : Nat} {l : List UInt8} (hi : H[i]? = some (.fz (.by l))) {lo len : Nat} {u : Value}
    (hv : RelA m (.sub i [] 1 0 lo len) u) (hlen : lo + len ≤ l.length) : RelT m.M (.by ((l.drop lo).take len)) u := by
  obtain ⟨a, cap, rfl, hin, hl, hm, ha⟩ := hv.sub_inv
  have e : ((l.drop lo).take len).length = len := by simp; omega
  obtain ⟨hr, hoff⟩ := h.ok _ _ hi
  rcases ha with ⟨rfl, rfl, rfl⟩ | ⟨b, o, hb, rfl, ho⟩
  · rw [show (l.drop lo).take 0 = [] from rfl]; exact .byn
  · generalize hη : m.η i = hd at hr hoff hb
    cases hr with
    | byn =>
      rename_i a'
      cases a' with
      | none => cases hb
      | some a' =>
        cases hb
        obtain ⟨h0, cur, ty, fr, hc⟩ := hoff _ _ _ rfl
        simp only [List.length_nil] at hlen
        obtain rfl : lo = 0 := by omega
        obtain rfl : len = 0 := by omega
        exact RelT.by (l := []) hc (by simp) hm (by simp)
    | «by» hM hl' hm' hc =>
      rename_i b' off' cap' cur ty fr
      cases hb
      have h0 : off' = 0 := (hoff _ _ _ rfl).1
      subst h0
      have := RelT.by (M := m.M) (l := (l.drop lo).take len) (b := b') (off := o) (cap := cap) hM (by omega) hm (by
        intro j c hj
        have hj' := (List.getElem?_eq_some_iff.1 hj).1
        rw [e] at hj'
        rw [ho (by omega), show 0 + lo * 1 + j = 0 + (lo + j) by omega]
        apply hc
        rw [List.getElem?_take, if_pos hj', List.getElem?_drop] at hj
        exact hj)
      rw [e] at this; exact this

theorem fz_sub_sq {c : Ctx} {m : Mem} {w : World} {H : List Blk} (h : Inv c m w H) {i sz : Nat} {xs : List T} (hi : H[i]? = some (.fz (.sq sz xs))) {lo len : Nat} {u : Value}
    (hv : RelA m (.sub i [] sz 0 lo len) u) (hlen : lo + len ≤ xs.length) : RelT m.M (.sq sz ((xs.drop lo).take len)) u := by
  obtain ⟨a, cap, rfl, hin, hl, hm, ha⟩ := hv.sub_inv
  have e : ((xs.drop lo).take len).length = len := by simp; omega
  obtain ⟨hr, hoff⟩ := h.ok _ _ hi
  have hw := hr.wf
  obtain ⟨hw1, hw2, hw3, hw4⟩ := (by simpa only [T.wf] using hw : 0 < sz ∧ xs.length ≤ maxLen ∧ (∀ x ∈ xs, x.size = sz) ∧ T.wfL xs)
  rcases ha with ⟨rfl, rfl, rfl⟩ | ⟨b, o, hb, rfl, ho⟩
  · rw [show (xs.drop lo).take 0 = [] from rfl]; exact .sqn hw1
  · generalize hη : m.η i = hd at hr hoff hb
    cases hr with
    | sqn =>
      rename_i a' _
      cases a' with
      | none => cases hb
      | some a' =>
        cases hb
        obtain ⟨h0, cur, ty, fr, hc⟩ := hoff _ _ _ rfl
        simp only [List.length_nil] at hlen
        obtain rfl : lo = 0 := by omega
        obtain rfl : len = 0 := by omega
        exact RelT.sq (xs := []) hc (by simp [T.wf, T.wfL]; exact hw1) (by simp) hm (fun _ => undef) (by simp [T.cellsL]) (by simp [T.cellsL])
    | sq hM _ hl' hm' g hc hrr =>
      rename_i off' cap' cur ty fr hw'
      cases hb
      have h0 : off' = 0 := (hoff _ _ _ rfl).1
      subst h0
      have st := fun (j : Nat) (c : T) hj => cellsL_stretch hw3 hw4 lo len hlen j c hj
      have hne : ∀ (j : Nat) (c : T), (T.cellsL ((xs.drop lo).take len))[j]? = some c → len ≠ 0 := by
        intro j c hj h0; subst h0; simp [T.cellsL] at hj
      have := RelT.sq (M := m.M) (sz := sz) (xs := (xs.drop lo).take len) (off := o) (cap := cap) hM
        (by simp only [T.wf]; exact ⟨hw1, by rw [e]; omega, fun x hx => hw3 x (List.mem_of_mem_drop (List.mem_of_mem_take hx)), wfL_stretch hw4 _ _⟩)
        (by omega) hm (fun j => g (lo * sz + j))
        (by intro j c hj; rw [ho (hne j c hj)]; have := hc _ _ (st j c hj); simpa [Nat.add_assoc] using this)
        (by intro j c hj; exact hrr _ _ (st j c hj))
      rw [e] at this; exact this

theorem fb_sub {c : Ctx} {m : Mem} {w : World} {H : List Blk} (h : Inv c m w H) {i : Nat} {y : T} (hi : H[i]? = some (.fb y)) {p : List Nat} {sz off lo len : Nat} {u : Value}
    (hv : RelA m (.sub i p sz off lo len) u) {x : T} (hx : subPart (some (.fb y)) p sz off lo len = some x) : RelT m.M x u := by
  have hr := subPart_ok h hv (x := x) (by rw [hi]; exact hx)
  obtain ⟨a, cap, rfl, hin, hl, hm, ha⟩ := hv.sub_inv
  obtain ⟨hyw, b, cur, e, fr, hd, hM, hcc⟩ := h.ok _ _ hi
  have hh := h.imm _ _ hM
  generalize hu : Value.slice a len cap = u0 at hr
  cases hr with
  | nil => cases hu; exact .nil
  | byn => cases hu; exact .byn
  | sqn h => cases hu; exact .sqn h
  | str h => cases hu
  | «by» hM' hl' hm' hc' =>
    cases hu
    rcases ha with ⟨e0, _⟩ | ⟨b', o', hb', e0, _⟩
    · cases e0
    · rw [hd] at hb'; cases hb'; cases e0
      rw [hh] at hM'; cases hM'
      exact .by hM hl' hm' hc'
  | sq hM' hw' hl' hm' hr' =>
    cases hu
    rcases ha with ⟨e0, _⟩ | ⟨b', o', hb', e0, _⟩
    · cases e0
    · rw [hd] at hb'; cases hb'; cases e0
      rw [hh] at hM'; cases hM'
      rename_i o2 _
      refine .sq hM hw' hl' hm' (fun j => cur.getD (o2 + j) undef) ?_ ?_
      · intro j c hj; obtain ⟨u, hu, _⟩ := hr' j c hj; simp [hu]
      · intro j c hj; obtain ⟨u, hu, hr⟩ := hr' j c hj; rw [show cur.getD (o2 + j) undef = u by simp [hu]]; exact hr

theorem immT_ok {c : Ctx} {m : Mem} {w : World} {H : List Blk} (h : Inv c m w H) {v : AV} {u : Value} {x : T} (hv : RelA m v u) (hx : immT H v = some x) : RelT m.M x u := by
  unfold immT at hx
  split at hx
  · cases hx; exact hv.t_inv
  · obtain ⟨rfl, _⟩ := hv.own_inv
    split at hx
    · rename_i y hi; cases hx; exact (h.ok _ _ hi).1
    · cases hx
  · split at hx
    · rename_i l hi
      split at hx
      · rename_i hc; obtain ⟨hp, rfl, rfl, hlen⟩ := hc; obtain rfl := List.isEmpty_iff.1 hp; cases hx; exact fz_sub_by h hi hv hlen
      · cases hx
    · rename_i sz' xs hi
      split at hx
      · rename_i hc; obtain ⟨hp, rfl, rfl, hlen⟩ := hc; obtain rfl := List.isEmpty_iff.1 hp; cases hx; exact fz_sub_sq h hi hv hlen
      · cases hx
    · rename_i y hi; exact fb_sub h hi hv hx
    · cases hx
  · cases hx; cases hv; assumption
  · cases hx

def immArgs (H : List Blk) : List AV → Option (List T)
  | [] => some []
  | x :: xs => match immT H x with
    | some y => match immArgs H xs with
      | some ys => some (y :: ys)
      | none => none
    | none => none

def snapT (H : List Blk) (v : AV) : Option T :=
  match immT H v with
  | some x => some x
  | none => match rowT H v with
    | some (.by l) => some (.by l)
    | some (.sq sz xs) => some (.sq sz xs)
    | _ => none

def snapArgs (H : List Blk) : List AV → Option (List T)
  | [] => some []
  | x :: xs => match snapT H x with
    | some y => match snapArgs H xs with
      | some ys => some (y :: ys)
      | none => none
    | none => none

theorem snapT_ok {c : Ctx} {m : Mem} {w : World} {H : List Blk} (h : Inv c m w H) {v : AV} {u : Value} {x : T} (hv : RelA m v u) (hx : snapT H v = some x) : RelT (snap w) x u := by
  unfold snapT at hx
  split at hx
  · rename_i y hy; cases hx; exact (immT_ok h hv hy).mono h.snap
  · split at hx
    · rename_i l hl; cases hx; exact rowT_ok h hv hl rfl
    · rename_i sz xs hl; cases hx; exact rowT_ok h hv hl rfl
    · cases hx

theorem immArgs_ok {c : Ctx} {m : Mem} {w : World} {H : List Blk} (h : Inv c m w H) : ∀ (xs : List AV) (us : List Value) (ys : List T), us.length = xs.length →
    (∀ (i : Nat) (x : AV), xs[i]? = some x → ∃ u, us[i]? = some u ∧ RelA m x u) → immArgs H xs = some ys →
    us.length = ys.length ∧ ∀ (i : Nat) (t : T), ys[i]? = some t → ∃ u, us[i]? = some u ∧ RelT m.M t u := by
  intro xs
  induction xs with
  | nil => intro us ys hl hr hx; cases hx; exact ⟨by simpa using hl, fun i t h => by simp at h⟩
  | cons x xs ih =>
    intro us ys hl hr hx
    simp only [immArgs] at hx
    split at hx
    · rename_i y hy
      split at hx
      · rename_i ys' hys
        cases hx
        cases us with
        | nil => simp at hl
        | cons u us =>
          obtain ⟨h1, h2⟩ := ih us ys' (by simpa using hl) (fun i x hi => by simpa using hr (i + 1) x (by simpa using hi)) hys
          refine ⟨by simp [h1], fun i t hi => ?_⟩
          cases i with
          | zero =>
            simp at hi; subst hi
            obtain ⟨u', hu', hr'⟩ := hr 0 x rfl
            simp at hu'; subst hu'
            exact ⟨u, rfl, immT_ok h hr' hy⟩
          | succ i => simpa using h2 i t (by simpa using hi)
      · cases hx
    · cases hx

theorem snapArgs_ok {c : Ctx} {m : Mem} {w : World} {H : List Blk} (h : Inv c m w H) : ∀ (xs : List AV) (us : List Value) (ys : List T), us.length = xs.length →
    (∀ (i : Nat) (x : AV), xs[i]? = some x → ∃ u, us[i]? = some u ∧ RelA m x u) → snapArgs H xs = some ys →
    us.length = ys.length ∧ ∀ (i : Nat) (t : T), ys[i]? = some t → ∃ u, us[i]? = some u ∧ RelT (snap w) t u := by
  intro xs
  induction xs with
  | nil => intro us ys hl hr hx; cases hx; exact ⟨by simpa using hl, fun i t h => by simp at h⟩
  | cons x xs ih =>
    intro us ys hl hr hx
    simp only [snapArgs] at hx
    split at hx
    · rename_i y hy
      split at hx
      · rename_i ys' hys
        cases hx
        cases us with
        | nil => simp at hl
        | cons u us =>
          obtain ⟨h1, h2⟩ := ih us ys' (by simpa using hl) (fun i x hi => by simpa using hr (i + 1) x (by simpa using hi)) hys
          refine ⟨by simp [h1], fun i t hi => ?_⟩
          cases i with
          | zero =>
            simp at hi; subst hi
            obtain ⟨u', hu', hr'⟩ := hr 0 x rfl
            simp at hu'; subst hu'
            exact ⟨u, rfl, snapT_ok h hr' hy⟩
          | succ i => simpa using h2 i t (by simpa using hi)
      · cases hx
    · cases hx

/-- A row becomes read only. -/
def freezeOne (H : List Blk) (i : Nat) : List Blk :=
  match H[i]? with
  | some (.by l) => H.set i (.fz (.by l))
  | some (.sq sz xs) => H.set i (.fz (.sq sz xs))
  | some (.bx (.t x)) => H.set i (.fb x)
  | _ => H

def freezeAll : List Blk → List AV → List Blk
  | H, [] => H
  | H, .own i :: r => freezeAll (freezeOne H i) r
  | H, .sub i _ _ _ _ _ :: r => freezeAll (freezeOne H i) r
  | H, _ :: r => freezeAll H r

/-- The same memory, one block of which is read only from now on. -/
def Mem.frz (m : Mem) (w : World) (i : Nat) : Mem := { m with M := fun b => if blk (m.η i) = some b then w.heap[b]? else m.M b }

theorem Inv.freezeTo {c : Ctx} {m : Mem} {w : World} {H : List Blk} (h : Inv c m w H) {i : Nat} {B : Blk} (hi : H[i]? = some B) (hl : B.live = true) {Z : Blk} (hZ : Z.live = false) (hx : BlkOk (m.frz w i) w Z (m.η i))
    (hext : Ext m (m.frz w i)) : Inv c (m.frz w i) w (H.set i Z) := by
  have hat : ∀ k B b, H[k]? = some B → B.live = true → blk (m.η k) = some b → m.M b = none ∧ b < w.heap.size := fun k B b hk hl hb => (h.ok k B hk).at hl hb
  have hlt := (List.getElem?_eq_some_iff.1 hi).1
  have hget : ∀ k B', (H.set i Z)[k]? = some B' → (k = i ∧ B' = Z) ∨ (k ≠ i ∧ H[k]? = some B') := by
    intro k B' hk
    rw [List.getElem?_set] at hk
    split at hk
    · rename_i e; subst e; (try rw [if_pos hlt] at hk); cases hk; exact .inl ⟨rfl, rfl⟩
    · rename_i e; exact .inr ⟨fun h => e h.symm, hk⟩
  refine ⟨by simp [Mem.frz, h.len], ?_, h.le.trans hext.M, ?_, ?_, ?_, ?_, h.os, h.tape, h.output, h.size, h.frame, h.keep⟩
  · intro b o hb
    simp only [Mem.frz] at hb
    split at hb
    · exact hb
    · exact h.imm b o hb
  · intro b o hb
    simp only [Mem.frz] at hb
    split at hb
    · rename_i he
      exact .inr ⟨h.own i B b hi hl he, (h.ok i B hi).plain hl he hb⟩
    · exact h.new b o hb
  · intro k B' hk
    rcases hget k B' hk with ⟨rfl, rfl⟩ | ⟨hne, hk'⟩
    · exact hx
    · refine (h.ok k B' hk').move hext (fun b hlk hb => ?_) (fun _ _ _ => rfl)
      simp only [Mem.frz]
      rw [if_neg (fun he => hne (h.disj k i B' B b hk' hi hlk hl hb he))]
      exact (hat k B' b hk' hlk hb).1
  · intro k B' b hk hlk hb
    rcases hget k B' hk with ⟨rfl, rfl⟩ | ⟨hne, hk'⟩
    · rw [hZ] at hlk; cases hlk
    · exact h.own k B' b hk' hlk hb
  · intro j k B1 B2 b hj hk hlj hlk hbj hbk
    rcases hget j B1 hj with ⟨rfl, rfl⟩ | ⟨hnj, hj'⟩
    · rw [hZ] at hlj; cases hlj
    · rcases hget k B2 hk with ⟨rfl, rfl⟩ | ⟨hnk, hk'⟩
      · rw [hZ] at hlk; cases hlk
      · exact h.disj j k B1 B2 b hj' hk' hlj hlk hbj hbk

theorem Inv.frz_ext {c : Ctx} {m : Mem} {w : World} {H : List Blk} (h : Inv c m w H) {i : Nat} {B : Blk} (hi : H[i]? = some B) (hl : B.live = true) : Ext m (m.frz w i) := by
  refine ⟨fun b o hb => ?_, Nat.le_refl _, fun _ _ => rfl⟩
  simp only [Mem.frz]
  split
  · rename_i he
    have := ((h.ok i B hi).at hl he).1
    rw [hb] at this; cases this
  · exact hb

theorem freezeOne_ok {c : Ctx} {m : Mem} {w : World} {H : List Blk} (h : Inv c m w H) (i : Nat) : ∃ m', Ext m m' ∧ Inv c m' w (freezeOne H i) := by
  unfold freezeOne
  split
  · rename_i l hi
    have hext := h.frz_ext hi rfl
    refine ⟨m.frz w i, hext, h.freezeTo hi rfl rfl ⟨?_, ?_⟩ hext⟩
    · rcases h.ok _ _ hi with ⟨hd, rfl⟩ | ⟨b, cap, cur, e, hd, hh, hs, hl, hm, hM, hc⟩
      · rw [hd]; exact .byn
      · have hb : (m.frz w i).M b = some (.cells cur e (0, 0)) := by simp only [Mem.frz]; rw [if_pos (by rw [hd]; rfl)]; exact hh
        rw [hd]; exact .by hb hl hm (by simpa using hc)
    · rcases h.ok _ _ hi with ⟨hd, rfl⟩ | ⟨b, cap, cur, e, hd, hh, _⟩
      · intro a n k he; rw [hd] at he; cases he
      · intro a n k he; rw [hd] at he; cases he
        exact ⟨rfl, cur, e, (0, 0), by simp only [Mem.frz]; rw [if_pos (by rw [hd]; rfl)]; exact hh⟩
  · rename_i sz xs hi
    have hext := h.frz_ext hi rfl
    obtain ⟨hw, hok⟩ := h.ok _ _ hi
    refine ⟨m.frz w i, hext, h.freezeTo hi rfl rfl ⟨?_, ?_⟩ hext⟩
    · rcases hok with ⟨hd, rfl⟩ | ⟨b, cap, cur, e, hd, hh, hs, hl, hm, hM, hc⟩
      · rw [hd]; exact .sqn (by simp only [T.wf] at hw; exact hw.1)
      · have hb : (m.frz w i).M b = some (.cells cur e (0, 0)) := by simp only [Mem.frz]; rw [if_pos (by rw [hd]; rfl)]; exact hh
        rw [hd]
        refine .sq hb hw hl hm (fun j => cur.getD j undef) ?_ ?_
        · intro j c hj; obtain ⟨u, hu, _⟩ := hc j c hj; simp [hu]
        · intro j c hj; obtain ⟨u, hu, hr⟩ := hc j c hj; rw [show cur.getD j undef = u by simp [hu]]; exact hr.mono hext.M
    · rcases hok with ⟨hd, rfl⟩ | ⟨b, cap, cur, e, hd, hh, _⟩
      · intro a n k he; rw [hd] at he; cases he
      · intro a n k he; rw [hd] at he; cases he
        exact ⟨rfl, cur, e, (0, 0), by simp only [Mem.frz]; rw [if_pos (by rw [hd]; rfl)]; exact hh⟩
  · rename_i x hi
    have hext := h.frz_ext hi rfl
    obtain ⟨b, cur, e, hd, hh, hM, hw, hcs, hc⟩ := h.ok _ _ hi
    refine ⟨m.frz w i, hext, h.freezeTo hi rfl rfl ⟨by simpa only [AV.wf] using hw, b, cur, e, (0, 0), hd, ?_, ?_⟩ hext⟩
    · simp only [Mem.frz]; rw [if_pos (by rw [hd]; rfl)]; exact hh
    · intro j c' hj
      obtain ⟨u, hu, hr⟩ := hc j (.t c') (by simp [AV.cells, hj])
      exact ⟨u, hu, hr.t_inv.mono hext.M⟩
  · exact ⟨m, .refl m, h⟩

theorem freezeAll_ok {c : Ctx} {w : World} : ∀ (vs : List AV) (m : Mem) (H : List Blk), Inv c m w H → ∃ m', Ext m m' ∧ Inv c m' w (freezeAll H vs)
  | [], m, H, h => ⟨m, .refl m, by simpa only [freezeAll] using h⟩
  | v :: r, m, H, h => by
    have skip : freezeAll H (v :: r) = freezeAll H r → ∃ m', Ext m m' ∧ Inv c m' w (freezeAll H (v :: r)) := fun e => by rw [e]; exact freezeAll_ok r m H h
    cases v with
    | own i =>
      obtain ⟨m1, e1, h1⟩ := freezeOne_ok h i
      obtain ⟨m2, e2, h2⟩ := freezeAll_ok r m1 _ h1
      exact ⟨m2, e1.trans e2, by simpa only [freezeAll] using h2⟩
    | sub i p sz off lo len =>
      obtain ⟨m1, e1, h1⟩ := freezeOne_ok h i
      obtain ⟨m2, e2, h2⟩ := freezeAll_ok r m1 _ h1
      exact ⟨m2, e1.trans e2, by simpa only [freezeAll] using h2⟩
    | _ => exact skip rfl

def joinR (H : List Blk) (x : Option (List Blk × AV)) : Option (AV × List Blk) :=
  match x with
  | some (H1, r) => some (r.shift H.length, H ++ H1.map (Blk.shift H.length))
  | none => none

def callF (F : Fun) (H : List Blk) (args : List AV) : Option (AV × List Blk) :=
  match immArgs H args with
  | some ts => joinR H (F ts)
  | none => match snapArgs H args with
    | none => none
    | some ts => match F ts with
      | none => none
      | some (H1, r) => if (r.clean && cleanBs H1) = true then some (r.shift H.length, H ++ H1.map (Blk.shift H.length))
        else match immArgs (freezeAll H args) args with
          | some ts' => joinR (freezeAll H args) (F ts')
          | none => none

theorem callF_imm {P : Program} {f : FuncId} {F : Fun} (hcon : ACon P f F) {c : Ctx} {m : Mem} {w : World} {H : List Blk} (h : Inv c m w H) {args : List AV} {us : List Value} (hl : us.length = args.length)
    (hr : ∀ (i : Nat) (x : AV), args[i]? = some x → ∃ u, us[i]? = some u ∧ RelA m x u) {ts : List T} (hts : immArgs H args = some ts) {v : AV} {H' : List Blk} (hv : joinR H (F ts) = some (v, H')) :
    Calls P f us.toArray w (fun e w' => ∃ m' u, e = .returned u ∧ Ext m m' ∧ Inv c m' w' H' ∧ RelA m' v u) := by
  unfold joinR at hv
  split at hv
  · rename_i H1 r hF
    cases hv
    obtain ⟨g1, g2⟩ := immArgs_ok h args us ts hl hr hts
    refine (hcon.2 ts H1 r hF m.M w us h.snap g1 g2).mono fun e w' ⟨m1, u, he, h1, hu⟩ => ?_
    have hinv := h.call (M := m1.M) h1 (.inl ⟨.refl _, rfl, .refl _, fun k B b hk hlk hb => ((h.ok k B hk).at hlk hb).1⟩) h.snap (fun b o hb => .inl hb)
    rw [← h.len]
    exact ⟨_, u, he, Ext.join _ _ _ h1.le, hinv, hu.joined (.inl (.refl _))⟩
  · cases hv

theorem callF_ok {P : Program} {f : FuncId} {F : Fun} (hcon : ACon P f F) {c : Ctx} {m : Mem} {w : World} {H : List Blk} (h : Inv c m w H) {args : List AV} {us : List Value} (hl : us.length = args.length)
    (hr : ∀ (i : Nat) (x : AV), args[i]? = some x → ∃ u, us[i]? = some u ∧ RelA m x u) {v : AV} {H' : List Blk} (hv : callF F H args = some (v, H')) :
    Calls P f us.toArray w (fun e w' => ∃ m' u, e = .returned u ∧ Ext m m' ∧ Inv c m' w' H' ∧ RelA m' v u) := by
  unfold callF at hv
  split at hv
  · rename_i ts hts
    exact callF_imm hcon h hl hr hts hv
  · split at hv
    · cases hv
    · rename_i ts hts
      split at hv
      · cases hv
      · rename_i H1 r hF
        split at hv
        · rename_i hc
          simp only [Bool.and_eq_true] at hc
          cases hv
          obtain ⟨g1, g2⟩ := snapArgs_ok h args us ts hl hr hts
          refine (hcon.2 ts H1 r hF (snap w) w us (.refl _) g1 g2).mono fun e w' ⟨m1, u, he, h1, hu⟩ => ?_
          have hinv := h.call (M := m.M) h1 (.inr ⟨rfl, hc.2⟩) (.refl _) (fun b o hb => .inr rfl)
          rw [← h.len]
          exact ⟨_, u, he, Ext.join _ _ _ (.refl _), hinv, hu.joined (.inr hc.1)⟩
        · split at hv
          · rename_i ts' hts'
            obtain ⟨m2, e2, h2⟩ := freezeAll_ok args m H h
            refine (callF_imm hcon h2 hl (fun i x hi => let ⟨u, a, b⟩ := hr i x hi; ⟨u, a, b.mono e2⟩) hts' hv).mono fun e w' ⟨m', u, he, e3, h3, hu⟩ => ⟨m', u, he, e2.trans e3, h3, hu⟩
          · cases hv

end Go.Fw

end
