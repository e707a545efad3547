/- The abstract machine, and the contracts of the code: part 16. -/
import Derived.KernelRfl
import Derived.Test.YtchljppcenckaaaFwM

section
/- The table of a program's types, held against the program. -/
namespace Go.Fw
set_option linter.unusedVariables false
set_option linter.unusedSimpArgs false
open Go

abbrev Tbl := List (Nat × TI)

def envOf (l : Tbl) : Env := fun t => match l with
  | [] => badTI
  | (k, ti) :: r => if t = k then ti else envOf r t

mutual
def T.wfb : T → Bool
  | .int k n => inKb k n
  | .by l => decide (l.length ≤ maxLen)
  | .str l => decide (l.length ≤ maxLen)
  | .op v => v.oneCell'
  | .ba n l => decide (l.length = n)
  | .ar n sz xs => decide (xs.length = n) && T.allSz sz xs && T.wfbL xs
  | .st xs => T.wfbL xs
  | .sq sz xs => decide (0 < sz) && decide (xs.length ≤ maxLen) && T.allSz sz xs && T.wfbL xs
  | _ => true
def T.wfbL : List T → Bool
  | [] => true
  | x :: xs => x.wfb && T.wfbL xs
def T.allSz (sz : Nat) : List T → Bool
  | [] => true
  | x :: xs => decide (x.size = sz) && T.allSz sz xs
end

theorem T.allSz_ok (sz : Nat) : ∀ xs : List T, T.allSz sz xs = true → ∀ x ∈ xs, x.size = sz
  | [], _, x, h => by simp at h
  | y :: ys, h, x, hx => by
    simp only [T.allSz, Bool.and_eq_true, decide_eq_true_eq] at h
    rcases List.mem_cons.1 hx with rfl | hx
    · exact h.1
    · exact T.allSz_ok sz ys h.2 x hx

mutual
theorem T.wfb_ok : ∀ x : T, x.wfb = true → x.wf
  | .int k n, h => (inKb_iff k n).1 h
  | .by l, h => by simpa [T.wfb, T.wf] using h
  | .str l, h => by simpa [T.wfb, T.wf] using h
  | .ba n l, h => by simpa [T.wfb, T.wf] using h
  | .ar n sz xs, h => by
    simp only [T.wfb, Bool.and_eq_true, decide_eq_true_eq] at h
    exact ⟨h.1.1, T.allSz_ok sz xs h.1.2, T.wfbL_ok xs h.2⟩
  | .st xs, h => by simp only [T.wfb] at h; simp only [T.wf]; exact T.wfbL_ok xs h
  | .sq sz xs, h => by
    simp only [T.wfb, Bool.and_eq_true, decide_eq_true_eq] at h
    exact ⟨h.1.1.1, h.1.1.2, T.allSz_ok sz xs h.1.2, T.wfbL_ok xs h.2⟩
  | .bool _, _ => trivial
  | .nilp, _ => trivial
  | .nilf, _ => trivial
  | .nil, _ => trivial
  | .fn _, _ => trivial
  | .op v, h => by simpa [T.wfb, T.wf] using h
theorem T.wfbL_ok : ∀ xs : List T, T.wfbL xs = true → T.wfL xs
  | [], _ => trivial
  | x :: xs, h => by
    simp only [T.wfbL, Bool.and_eq_true] at h
    exact ⟨T.wfb_ok x h.1, T.wfbL_ok xs h.2⟩
end

def leafOk : T → Value → Bool
  | .int k n, .int k' n' => decide (k = k') && decide (n = n') && inKb k n
  | .bool b, .bool b' => b == b'
  | .str [], .string s => s.data.size == 0
  | .nilp, .pointer none => true
  | .nilf, .nilFunc => true
  | .nil, .slice none 0 0 => true
  | _, _ => false

def leafsOk : List T → List Value → Bool
  | [], [] => true
  | x :: xs, v :: vs => leafOk x v && leafsOk xs vs
  | _, _ => false

def zeroOk (x : T) (v : Value) : Bool :=
  match x, v with
  | .st xs, .agg arr => x.wfb && leafsOk (T.cellsL xs) arr.toList
  | .ar n sz xs, .agg arr => x.wfb && leafsOk (T.cellsL xs) arr.toList
  | .ba n l, .agg arr => x.wfb && leafsOk (l.map u8) arr.toList
  | x, v => leafOk x v

theorem leafOk_ok {M : Nat → Option Obj} {x : T} {v : Value} (h : leafOk x v = true) : RelT M x v := by
  unfold leafOk at h
  split at h
  · simp only [Bool.and_eq_true, decide_eq_true_eq] at h
    obtain ⟨⟨rfl, rfl⟩, h3⟩ := h
    exact .int ((inKb_iff _ _).1 h3)
  · simp at h; subst h; exact .bool
  · rename_i s
    have : s = ⟨([] : List UInt8).toArray⟩ := by
      cases s; rename_i d
      simp at h
      simp [h]
    rw [this]; exact .str (by simp)
  · exact .nilp
  · exact .nilf
  · exact .nil
  · cases h

theorem leafsOk_ok {M : Nat → Option Obj} : ∀ (xs : List T) (vs : List Value), leafsOk xs vs = true → xs.length = vs.length ∧ ∀ (i : Nat) (c : T), xs[i]? = some c → ∃ u, vs[i]? = some u ∧ leafOk c u = true
  | [], [], _ => by simp
  | [], _ :: _, h => by simp [leafsOk] at h
  | _ :: _, [], h => by simp [leafsOk] at h
  | x :: xs, v :: vs, h => by
    simp only [leafsOk, Bool.and_eq_true] at h
    obtain ⟨h1, h2⟩ := leafsOk_ok (M := M) xs vs h.2
    refine ⟨by simp [h1], fun i c hi => ?_⟩
    cases i with
    | zero => simp at hi; subst hi; exact ⟨v, rfl, h.1⟩
    | succ i => simpa using h2 i c (by simpa using hi)

theorem zeroOk_ok {M : Nat → Option Obj} {x : T} {v : Value} (h : zeroOk x v = true) : RelT M x v := by
  unfold zeroOk at h
  split at h
  · rename_i xs arr
    simp only [Bool.and_eq_true] at h
    have hw := T.wfb_ok _ h.1
    obtain ⟨h1, h2⟩ := leafsOk_ok (M := M) _ _ h.2
    have hl := T.cells_len _ hw
    simp only [T.cells, T.size] at hl
    refine .st hw (by simp at h1; omega) fun i c hi => ?_
    obtain ⟨u, hu, hr⟩ := h2 i c hi
    have : arr.getD i undef = u := by rw [Array.getD_eq_getD_getElem?]; simp at hu; simp [hu]
    rw [this]; exact leafOk_ok hr
  · rename_i n sz xs arr
    simp only [Bool.and_eq_true] at h
    have hw := T.wfb_ok _ h.1
    obtain ⟨h1, h2⟩ := leafsOk_ok (M := M) _ _ h.2
    have hl := T.cells_len _ hw
    simp only [T.cells, T.size] at hl
    refine .ar hw (by simp at h1; omega) fun i c hi => ?_
    obtain ⟨u, hu, hr⟩ := h2 i c hi
    have : arr.getD i undef = u := by rw [Array.getD_eq_getD_getElem?]; simp at hu; simp [hu]
    rw [this]; exact leafOk_ok hr
  · rename_i n l arr
    simp only [Bool.and_eq_true] at h
    have hw := T.wfb_ok _ h.1
    obtain ⟨h1, h2⟩ := leafsOk_ok (M := M) _ _ h.2
    have e : arr = (l.map vu8).toArray := by
      apply Array.ext'
      apply List.ext_getElem?
      intro i
      rcases Nat.lt_or_ge i l.length with hlt | hge
      · obtain ⟨u, hu, hr⟩ := h2 i (u8 l[i]) (by simp [hlt])
        have := u8_rel (leafOk_ok (M := M) hr)
        subst this
        rw [hu]; simp [hlt]
      · simp only [List.length_map] at h1
        rw [List.getElem?_eq_none (by omega), List.getElem?_eq_none (by simp; omega)]
    rw [e]; exact .ba (by simpa only [T.wf] using hw)
  · exact leafOk_ok h

def descB (P : Program) (t : TypeId) (d : Ty) : Bool :=
  match d, P.underlying t with
  | .int k, some (.int k') => decide (k = k')
  | .bool, some .bool => true
  | .str, some .string => true
  | .sl e, some (.slice e') => decide (e = e')
  | .arr n e, some (.array n' e') => decide (n = n') && decide (e = e')
  | .st fs, some (.struct fields) => decide (fields.toList.map (fun f => (f.offset, f.type)) = fs)
  | .ptr e, some (.pointer e') => decide (e = e')
  | .fn, some (.func _ _ _) => true
  | _, _ => false

theorem descB_ok {P : Program} {t : TypeId} {d : Ty} (h : descB P t d = true) : DescOk P t d := by
  unfold descB at h
  split at h
  all_goals (rename_i heq)
  · simp at h; subst h; exact heq
  · exact heq
  · exact heq
  · simp at h; subst h; exact heq
  · simp at h; obtain ⟨rfl, rfl⟩ := h; exact heq
  · rename_i fields; exact ⟨fields, heq, by simpa using h⟩
  · simp at h; subst h; exact heq
  · exact ⟨_, _, _, heq⟩
  · cases h

def tiB (P : Program) (t : TypeId) (ti : TI) : Bool :=
  descB P t ti.ty && (match P.info? t with
    | some i => decide (i.size = ti.size) && decide (i.bytes = ti.bytes) && (match i.zero with
      | some z => zeroOk ti.zero z && decide (ti.zero.size = ti.size) && decide (0 < ti.size)
      | none => false)
    | none => false)

def tblB (P : Program) : Tbl → Bool
  | [] => true
  | (t, ti) :: r => tiB P t ti && tblB P r

def byteB : Tbl → Bool
  | [] => true
  | (_, ti) :: r => (if ti.ty = .int .u8 then decide (ti.size = 1) && (match ti.zero with | .int .u8 0 => true | _ => false) && decide (ti.bytes = 1) else true) && byteB r

theorem envOf_get (l : Tbl) (t : TypeId) : envOf l t = badTI ∨ (t, envOf l t) ∈ l := by
  induction l with
  | nil => exact .inl rfl
  | cons p r ih =>
    obtain ⟨k, ti⟩ := p
    simp only [envOf]
    split
    · rename_i e; subst e; exact .inr (by simp)
    · rcases ih with h | h
      · exact .inl h
      · exact .inr (by simp [h])

theorem tblB_mem {P : Program} {l : Tbl} (h : tblB P l = true) {t : TypeId} {ti : TI} (hm : (t, ti) ∈ l) : tiB P t ti = true := by
  induction l with
  | nil => simp at hm
  | cons p r ih =>
    obtain ⟨k, tk⟩ := p
    simp only [tblB, Bool.and_eq_true] at h
    rcases List.mem_cons.1 hm with he | hm
    · cases he; exact h.1
    · exact ih h.2 hm

theorem envOf_ok {P : Program} {l : Tbl} (h : tblB P l = true) : EnvOk P (envOf l) := by
  intro t
  rcases envOf_get l t with h1 | h1
  · exact .inl h1
  · right
    have ht := tblB_mem h h1
    generalize hti : envOf l t = ti at *
    simp only [tiB, Bool.and_eq_true] at ht
    obtain ⟨hd, hi⟩ := ht
    refine ⟨by rw [hti]; exact descB_ok hd, ?_⟩
    rw [hti]
    split at hi
    · rename_i i hinfo
      simp only [Bool.and_eq_true, decide_eq_true_eq] at hi
      obtain ⟨⟨g1, g2⟩, g3⟩ := hi
      split at g3
      · rename_i z hz
        simp only [Bool.and_eq_true, decide_eq_true_eq] at g3
        exact ⟨i, z, hinfo, g1, g2, hz, zeroOk_ok g3.1.1, g3.1.2, g3.2⟩
      · cases g3
    · cases hi

theorem byteOk_of {l : Tbl} (h : byteB l = true) : ByteOk (envOf l) := by
  intro e he
  have key : ∀ l : Tbl, byteB l = true → (envOf l e).ty = .int .u8 → (envOf l e).size = 1 ∧ (envOf l e).zero = .int .u8 0 ∧ (envOf l e).bytes = 1 := by
    intro l
    induction l with
    | nil => intro _ h; simp [envOf, badTI] at h
    | cons p r ih =>
      obtain ⟨k, ti⟩ := p
      intro hb he
      simp only [byteB, Bool.and_eq_true] at hb
      simp only [envOf] at he ⊢
      split at he
      · rename_i hk
        simp only [hk, if_true]
        have h1 := hb.1
        rw [if_pos he] at h1
        simp only [Bool.and_eq_true, decide_eq_true_eq] at h1
        obtain ⟨⟨g1, g2⟩, g3⟩ := h1
        refine ⟨g1, ?_, g3⟩
        split at g2
        · assumption
        · cases g2
      · rename_i hk
        simp only [hk, if_false]
        exact ih hb.2 he
  exact key l h he

end Go.Fw

end
