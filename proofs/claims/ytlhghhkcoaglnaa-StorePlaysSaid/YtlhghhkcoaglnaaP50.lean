/- The abstract machine, and the contracts of the code: part 50. -/
import Derived.Test.YtlhghhkcoaglnaaP49

section
/- A store behind crashes: what it had, or what was being saved. Plain laws. -/
namespace Go.Fw
open Go
set_option linter.unusedVariables false
set_option linter.unusedSimpArgs false

/-! ### Runs of writes. -/
theorem rsp_two (l : Int) : ((rsp l false).2.1 = true ∧ (rsp l false).2.2 = false) ∨ ((rsp l false).2.1 = false ∧ (rsp l false).2.2 = true) := by
  unfold rsp
  rw [if_neg (by simp)]
  by_cases h0 : l = 0
  · rw [if_pos h0]; exact .inl ⟨rfl, rfl⟩
  · rw [if_neg h0]
    by_cases h1 : 0 < l
    · rw [if_pos h1]; exact .inr ⟨rfl, rfl⟩
    · rw [if_neg h1]; exact .inr ⟨rfl, rfl⟩
theorem putT_s (t : TP) (i : Int) (b : List UInt8) : (putT t i b).d.s = t.d.s := by
  unfold putT putR
  split
  · dsimp only
    split
    · rfl
    · split <;> rfl
  · rfl
/-- A run of writes: all are done, or the first ones, and the power is gone. -/
def Run (a b : TP) (W : List (Int × List UInt8)) : Prop :=
  (a.e ≠ 0 → b = a) ∧ (a.e = 0 → a.d.off = false → b.d.s = a.d.s ∧ ((b.e = 0 ∧ b.d.off = false ∧ b.d.p = a.d.p ++ W) ∨ (b.e = 7 ∧ b.d.off = true ∧ ∃ j, b.d.p = a.d.p ++ W.take j)))
theorem Run.nil (a : TP) : Run a a [] := ⟨fun _ => rfl, fun he ho => ⟨rfl, .inl ⟨he, ho, by simp⟩⟩⟩
theorem Run.put {t : TP} {i : Int} {b : List UInt8} (h0 : 0 ≤ i) (h1 : i < t.d.s.length) (hb : b.length = 128) : Run t (putT t i b) [(i, b)] := by
  refine ⟨fun he => putT_e _ _ he, fun he ho => ⟨putT_s _ _ _, ?_⟩⟩
  unfold putT putR
  rw [if_pos he, padS_full hb, if_neg (by omega), ho]
  rcases rsp_two t.d.l with ⟨h2, h3⟩ | ⟨h2, h3⟩
  · rw [if_pos h3]
    exact .inr ⟨rfl, h2, 0, by simp⟩
  · rw [if_neg (by rw [h3]; simp)]
    exact .inl ⟨rfl, h2, rfl⟩
theorem Run.trans {a b c : TP} {W V : List (Int × List UInt8)} (h : Run a b W) (k : Run b c V) : Run a c (W ++ V) := by
  refine ⟨fun he => ?_, fun he ho => ?_⟩
  · have := h.1 he; subst this; exact k.1 he
  · obtain ⟨hs, h2⟩ := h.2 he ho
    rcases h2 with ⟨e1, o1, p1⟩ | ⟨e1, o1, j, p1⟩
    · obtain ⟨ks, k2⟩ := k.2 e1 o1
      refine ⟨ks.trans hs, ?_⟩
      rcases k2 with ⟨e2, o2, p2⟩ | ⟨e2, o2, j, p2⟩
      · exact .inl ⟨e2, o2, by rw [p2, p1, List.append_assoc]⟩
      · refine .inr ⟨e2, o2, W.length + j, ?_⟩
        rw [p2, p1, List.append_assoc, List.take_length_add_append]
    · have := k.1 (by rw [e1]; decide)
      subst this
      refine ⟨hs, .inr ⟨e1, o1, min j W.length, ?_⟩⟩
      rw [p1, List.take_append_of_le_length (Nat.min_le_right _ _), List.take_eq_take_min]
def oldW (n : Nat) (was : List UInt8) : Nat → List Nat → List (Int × List UInt8)
  | _, [] => []
  | k, i :: l => (((1 + lstN n + n + k : Nat) : Int), partB was i) :: oldW n was (k + 1) l
def newW (n : Nat) (want : List UInt8) : List Nat → List (Int × List UInt8)
  | [] => []
  | i :: l => (((1 + lstN n + i : Nat) : Int), partB want i) :: newW n want l
def lsW (b : List UInt8) : Nat → Nat → List (Int × List UInt8)
  | 0, _ => []
  | m + 1, i => (((1 + i : Nat) : Int), partB b i) :: lsW b m (i + 1)
theorem oldN_run {n w : Nat} {was : List UInt8} (hl : was.length = n * 128) (hw : 1 + lstN n + 2 * n ≤ w) : ∀ (l : List Nat) (k : Nat) (t : TP), t.d.s.length = w → k + l.length ≤ n → (∀ i ∈ l, i < n) → Run t (oldN n was k l t) (oldW n was k l)
  | [], _, t, _, _, _ => Run.nil t
  | i :: l, k, t, hs, hk, hi => by
    rw [List.length_cons] at hk
    have hil := hi i (by simp)
    have h1 := Run.put (t := t) (i := ((1 + lstN n + n + k : Nat) : Int)) (b := partB was i) (by omega) (by omega) (partB_len (by omega))
    have h2 := oldN_run hl hw l (k + 1) (putT t ((1 + lstN n + n + k : Nat) : Int) (partB was i)) (by rw [putT_s]; exact hs) (by omega) (fun j hj => hi j (by simp [hj]))
    exact h1.trans h2
theorem newN_run {n w : Nat} {want : List UInt8} (hl : want.length = n * 128) (hw : 1 + lstN n + 2 * n ≤ w) : ∀ (l : List Nat) (t : TP), t.d.s.length = w → (∀ i ∈ l, i < n) → Run t (newN n want l t) (newW n want l)
  | [], t, _, _ => Run.nil t
  | i :: l, t, hs, hi => by
    have hil := hi i (by simp)
    have h1 := Run.put (t := t) (i := ((1 + lstN n + i : Nat) : Int)) (b := partB want i) (by omega) (by omega) (partB_len (by omega))
    have h2 := newN_run hl hw l (putT t ((1 + lstN n + i : Nat) : Int) (partB want i)) (by rw [putT_s]; exact hs) (fun j hj => hi j (by simp [hj]))
    exact h1.trans h2
theorem lsN_run {n w : Nat} {b : List UInt8} (hw : 1 + lstN n + 2 * n ≤ w) : ∀ (m i : Nat) (t : TP), t.d.s.length = w → i + m ≤ lstN n → 128 * (i + m) ≤ b.length → Run t (lsN b m i t) (lsW b m i)
  | 0, _, t, _, _, _ => Run.nil t
  | m + 1, i, t, hs, hi, hb => by
    have h1 := Run.put (t := t) (i := ((1 + i : Nat) : Int)) (b := partB b i) (by omega) (by omega) (partB_len (by omega))
    have h2 := lsN_run (b := b) hw m (i + 1) (putT t ((1 + i : Nat) : Int) (partB b i)) (by rw [putT_s]; exact hs) (by omega) (by omega)
    exact h1.trans h2
theorem oldW_mem {n : Nat} {was : List UInt8} {x : Int × List UInt8} : ∀ (l : List Nat) (k : Nat), x ∈ oldW n was k l → ∃ j i, l[j]? = some i ∧ x = (((1 + lstN n + n + (k + j) : Nat) : Int), partB was i)
  | [], _, h => by cases h
  | i :: l, k, h => by
    rcases List.mem_cons.1 h with rfl | h
    · exact ⟨0, i, rfl, rfl⟩
    · obtain ⟨j, i', h1, h2⟩ := oldW_mem l (k + 1) h
      exact ⟨j + 1, i', by simpa using h1, by rw [h2, show k + 1 + j = k + (j + 1) by omega]⟩
theorem oldW_of {n : Nat} {was : List UInt8} : ∀ (l : List Nat) (k j i : Nat), l[j]? = some i → (((1 + lstN n + n + (k + j) : Nat) : Int), partB was i) ∈ oldW n was k l
  | [], _, _, _, h => by simp at h
  | x :: l, k, 0, i, h => by simp at h; subst h; simp [oldW]
  | x :: l, k, j + 1, i, h => by
    have := oldW_of (n := n) (was := was) l (k + 1) j i (by simpa using h)
    rw [show k + (j + 1) = k + 1 + j by omega]
    exact List.mem_cons_of_mem _ this
theorem newW_mem {n : Nat} {want : List UInt8} {x : Int × List UInt8} : ∀ (l : List Nat), x ∈ newW n want l → ∃ i ∈ l, x = (((1 + lstN n + i : Nat) : Int), partB want i)
  | [], h => by cases h
  | i :: l, h => by
    rcases List.mem_cons.1 h with rfl | h
    · exact ⟨i, by simp, rfl⟩
    · obtain ⟨i', h1, h2⟩ := newW_mem l h
      exact ⟨i', by simp [h1], h2⟩
theorem newW_of {n : Nat} {want : List UInt8} {i : Nat} : ∀ (l : List Nat), i ∈ l → (((1 + lstN n + i : Nat) : Int), partB want i) ∈ newW n want l
  | [], h => by cases h
  | x :: l, h => by
    rcases List.mem_cons.1 h with rfl | h
    · simp [newW]
    · exact List.mem_cons_of_mem _ (newW_of l h)
theorem lsW_mem {b : List UInt8} {x : Int × List UInt8} : ∀ (m i : Nat), x ∈ lsW b m i → ∃ j, i ≤ j ∧ j < i + m ∧ x = (((1 + j : Nat) : Int), partB b j)
  | 0, _, h => by cases h
  | m + 1, i, h => by
    rcases List.mem_cons.1 h with rfl | h
    · exact ⟨i, by omega, by omega, rfl⟩
    · obtain ⟨j, h1, h2, h3⟩ := lsW_mem m (i + 1) h
      exact ⟨j, by omega, by omega, h3⟩
theorem lsW_of {b : List UInt8} : ∀ (m i j : Nat), i ≤ j → j < i + m → (((1 + j : Nat) : Int), partB b j) ∈ lsW b m i
  | 0, _, _, _, h => by omega
  | m + 1, i, j, h1, h2 => by
    rcases Nat.eq_or_lt_of_le h1 with rfl | h
    · simp [lsW]
    · exact List.mem_cons_of_mem _ (lsW_of m (i + 1) j (by omega) (by omega))
/-- Where writes say one thing of a place, it stands there. -/
theorem layP_hit {q : Nat} {v : List UInt8} : ∀ (W : List (Int × List UInt8)) (s : List (List UInt8)), q < s.length → (∀ x ∈ W, x.1.toNat = q → x.2 = v) → (s.getD q [] = v ∨ ∃ x ∈ W, x.1.toNat = q) → (layP s W).getD q [] = v
  | [], s, _, _, h => by
    rcases h with h | ⟨x, hx, _⟩
    · exact h
    · cases hx
  | y :: W, s, hq, hv, h => by
    show (layP (s.set y.1.toNat y.2) W).getD q [] = v
    refine layP_hit W _ (by rw [List.length_set]; exact hq) (fun x hx => hv x (by simp [hx])) ?_
    by_cases hy : y.1.toNat = q
    · left
      rw [hy, hv y (by simp) hy]
      simp [List.getD_eq_getElem?_getD, hq]
    · rcases h with h | ⟨x, hx, hxq⟩
      · left; rw [getD_set_ne hy]; exact h
      · rcases List.mem_cons.1 hx with rfl | hx
        · exact (hy hxq).elim
        · exact .inr ⟨x, hx, hxq⟩

/-! ### What a crash leaves. -/
def Cr (d : RD) (ks : List Int) : List (List UInt8) := layK d.s (d.p.zip ks)
theorem Cr_at {d : RD} {ks : List Int} {q : Nat} (h : ∀ x ∈ d.p, x.1.toNat ≠ q) : (Cr d ks).getD q [] = d.s.getD q [] := layK_at _ _ (fun w hw => h w.1 (zip_fst hw))
theorem Cr_nil {d : RD} {ks : List Int} (h : d.p = []) : Cr d ks = d.s := by unfold Cr; rw [h]; rfl
/-- Sectors whose store has these bytes: of themselves, or when what the lists name is given back. -/
def Un (S : List (List UInt8)) (n : Nat) (X : List UInt8) : Prop :=
  ((S.getD 0 []).getD 0 0 = 0 ∧ ∀ i, i < n → S.getD (1 + lstN n + i) [] = partB X i) ∨
  ((S.getD 0 []).getD 0 0 ≠ 0 ∧ ∃ c : List Nat, c.length ≤ n ∧ (∀ i ∈ c, i < n) ∧ (∀ i, i < lstN n → S.getD (1 + i) [] = partB (listB n c) i) ∧ (∀ k i, c[k]? = some i → S.getD (1 + lstN n + n + k) [] = partB X i) ∧ (∀ i, i < n → i ∉ c → S.getD (1 + lstN n + i) [] = partB X i))
/-- What a flag's write and sync leave. -/
theorem flag_two {t : TP} {w m : Nat} (h : t.d.few w m) (hm : m + 1 ≤ 99999) (he : t.e = 0) (ho : t.d.off = false) (hp : t.d.p = []) (hw : 0 < w) (on : UInt8) :
    (t.d.s.set 0 (padS [on]) = (flagT t on).d.s ∧ (flagT t on).e = 0 ∧ (flagT t on).d.off = false ∧ (flagT t on).d.p = []) ∨
    ((flagT t on).e = 7 ∧ (flagT t on).d.off = true ∧ ∀ ks, Cr (flagT t on).d ks = t.d.s ∨ ∃ x : List UInt8, Cr (flagT t on).d ks = t.d.s.set 0 x ∧ x.getD 0 0 = on) := by
  have hpl : (padS [on]).length = 128 := padS_len (by simp)
  have hr := Run.put (t := t) (i := 0) (b := padS [on]) (by omega) (by rw [h.w]; omega) hpl
  have hpp : putT t 0 (padS [on]) = putT t 0 [on] := by unfold putT; rw [padS_full hpl]
  rw [hpp] at hr
  have hf := putT_few h hm (i := 0) (b := [on])
  unfold flagT
  obtain ⟨hs, h2⟩ := hr.2 he ho
  generalize putT t 0 [on] = u at *
  have hn := nowR_lay (good_iff.1 hf.g).1
  rcases h2 with ⟨e1, o1, p1⟩ | ⟨e1, o1, j, p1⟩
  · rw [hp, List.nil_append] at p1
    have hsy : syncT u = ⟨(syncR u.d).1, (syncR u.d).2⟩ := if_pos e1
    rw [hsy]
    unfold syncR
    rw [o1]
    rcases rsp_two u.d.l with ⟨h3, h4⟩ | ⟨h3, h4⟩
    · rw [if_pos h4]
      refine .inr ⟨rfl, h3, fun ks => ?_⟩
      show layK u.d.s (u.d.p.zip ks) = _ ∨ _
      rw [p1, hs]
      cases ks with
      | nil => exact .inl rfl
      | cons k ks =>
        show keep1 t.d.s ((0, padS [on]), k) = _ ∨ ∃ x, keep1 t.d.s ((0, padS [on]), k) = _ ∧ _
        unfold keep1
        dsimp only
        rcases Nat.eq_zero_or_pos (keepN k) with hk | hk
        · left
          rw [hk, List.take_zero, List.drop_zero, List.nil_append]
          exact set_getD_self
        · right
          refine ⟨_, rfl, ?_⟩
          obtain ⟨k', hk'⟩ : ∃ k', keepN k = k' + 1 := ⟨keepN k - 1, by omega⟩
          rw [hk']
          unfold padS
          simp
    · rw [if_neg (by rw [h4]; simp)]
      refine .inl ⟨?_, rfl, h3, rfl⟩
      dsimp only
      rw [hn, p1, hs]
      rfl
  · rw [syncT_e (by rw [e1]; decide)]
    refine .inr ⟨e1, o1, fun ks => ?_⟩
    rw [hp, List.nil_append] at p1
    show layK u.d.s (u.d.p.zip ks) = _ ∨ ∃ x, layK u.d.s (u.d.p.zip ks) = _ ∧ _
    rw [p1, hs]
    cases j with
    | zero => exact .inl rfl
    | succ j =>
      rw [List.take_succ_cons, List.take_nil]
      cases ks with
      | nil => exact .inl rfl
      | cons k ks =>
        show keep1 t.d.s ((0, padS [on]), k) = _ ∨ ∃ x, keep1 t.d.s ((0, padS [on]), k) = _ ∧ _
        unfold keep1
        dsimp only
        rcases Nat.eq_zero_or_pos (keepN k) with hk | hk
        · left
          rw [hk, List.take_zero, List.drop_zero, List.nil_append]
          exact set_getD_self
        · right
          refine ⟨_, rfl, ?_⟩
          obtain ⟨k', hk'⟩ : ∃ k', keepN k = k' + 1 := ⟨keepN k - 1, by omega⟩
          rw [hk']
          unfold padS
          simp
/-- What a sync leaves. -/
theorem sync_two {t : TP} {w m : Nat} (h : t.d.few w m) (he : t.e = 0) (ho : t.d.off = false) :
    ((syncT t).e = 0 ∧ (syncT t).d.off = false ∧ (syncT t).d.s = layP t.d.s t.d.p ∧ (syncT t).d.p = []) ∨ ((syncT t).e = 7 ∧ (syncT t).d.off = true ∧ (syncT t).d.s = t.d.s ∧ (syncT t).d.p = t.d.p) := by
  have hn := nowR_lay (good_iff.1 h.g).1
  have hsy : syncT t = ⟨(syncR t.d).1, (syncR t.d).2⟩ := if_pos he
  rw [hsy]
  unfold syncR
  rw [ho]
  rcases rsp_two t.d.l with ⟨h3, h4⟩ | ⟨h3, h4⟩
  · rw [if_pos h4]
    exact .inr ⟨rfl, h3, rfl, rfl⟩
  · rw [if_neg (by rw [h4]; simp)]
    exact .inl ⟨rfl, h3, hn, rfl⟩
theorem flagT_e {t : TP} (h : t.e ≠ 0) (on : UInt8) : flagT t on = t := by unfold flagT; rw [putT_e _ _ h, syncT_e h]

/-! ### A save, cut off or not. -/
structure Ok (t : TP) (n : Nat) (want : List UInt8) : Prop where
  e : t.e = 0
  o : t.d.off = false
  p : t.d.p = []
  f : (t.d.s.getD 0 []).getD 0 0 = 0
  s : ∀ i, i < n → t.d.s.getD (1 + lstN n + i) [] = partB want i
structure Cut (t : TP) (n : Nat) (was want : List UInt8) : Prop where
  e : t.e = 7
  o : t.d.off = true
  c : ∀ ks, Un (Cr t.d ks) n was ∨ Un (Cr t.d ks) n want
theorem Cut.ne {t : TP} {n : Nat} {was want : List UInt8} (h : Cut t n was want) : t.e ≠ 0 := by rw [h.e]; decide
theorem set0_get {S : List (List UInt8)} {x : List UInt8} {q : Nat} (hq : 0 < q) : (S.set 0 x).getD q [] = S.getD q [] := getD_set_ne (by omega)
theorem set0_0 {S : List (List UInt8)} {x : List UInt8} (h : 0 < S.length) : (S.set 0 x).getD 0 [] = x := by simp [List.getD_eq_getElem?_getD, h]
theorem Un.set0 {S : List (List UInt8)} {n : Nat} {X x : List UInt8} (hS : 0 < S.length) (hx : x.getD 0 0 = 0) (h : ∀ i, i < n → S.getD (1 + lstN n + i) [] = partB X i) : Un (S.set 0 x) n X :=
  .inl ⟨by rw [set0_0 hS]; exact hx, fun i hi => by rw [set0_get (by omega)]; exact h i hi⟩
theorem Un.set1 {S : List (List UInt8)} {n : Nat} {X x : List UInt8} {c : List Nat} (hS : 0 < S.length) (hx : x.getD 0 0 ≠ 0) (h1 : c.length ≤ n) (h2 : ∀ i ∈ c, i < n) (h3 : ∀ i, i < lstN n → S.getD (1 + i) [] = partB (listB n c) i)
    (h4 : ∀ k i, c[k]? = some i → S.getD (1 + lstN n + n + k) [] = partB X i) (h5 : ∀ i, i < n → i ∉ c → S.getD (1 + lstN n + i) [] = partB X i) : Un (S.set 0 x) n X :=
  .inr ⟨by rw [set0_0 hS]; exact hx, c, h1, h2, fun i hi => by rw [set0_get (by omega)]; exact h3 i hi, fun k i hk => by rw [set0_get (by omega)]; exact h4 k i hk, fun i hi hc => by rw [set0_get (by omega)]; exact h5 i hi hc⟩

/-- The last flag: the lists, and what slots had, still stand; the slots have what is saved. -/
theorem last_two {t : TP} {w m n : Nat} {was want : List UInt8} {c : List Nat} (h : t.d.few w m) (hm : m + 1 ≤ 99999) (he : t.e = 0) (ho : t.d.off = false) (hp : t.d.p = []) (hw : 0 < w)
    (hf : (t.d.s.getD 0 []).getD 0 0 ≠ 0) (h1 : c.length ≤ n) (h2 : ∀ i ∈ c, i < n) (h3 : ∀ i, i < lstN n → t.d.s.getD (1 + i) [] = partB (listB n c) i)
    (h4 : ∀ k i, c[k]? = some i → t.d.s.getD (1 + lstN n + n + k) [] = partB was i) (h5 : ∀ i, i < n → i ∉ c → t.d.s.getD (1 + lstN n + i) [] = partB was i)
    (hv : ∀ i, i < n → t.d.s.getD (1 + lstN n + i) [] = partB want i) : Ok (flagT t 0) n want ∨ Cut (flagT t 0) n was want := by
  have hS : 0 < t.d.s.length := by rw [h.w]; exact hw
  rcases flag_two h hm he ho hp hw 0 with ⟨a1, a2, a3, a4⟩ | ⟨a1, a2, a3⟩
  · refine .inl ⟨a2, a3, a4, ?_, fun i hi => ?_⟩
    · rw [← a1, set0_0 hS]; rfl
    · rw [← a1, set0_get (by omega)]; exact hv i hi
  · refine .inr ⟨a1, a2, fun ks => ?_⟩
    rcases a3 ks with h6 | ⟨x, h6, h7⟩
    · rw [h6]
      exact .inl (.inr ⟨hf, c, h1, h2, h3, h4, h5⟩)
    · rw [h6]
      exact .inr (Un.set0 hS h7 hv)
set_option maxHeartbeats 1000000 in
theorem turn_two {d : RD} {w m n : Nat} {was want : List UInt8} (h : d.few w m) (hm : m + 2 * n + lstN n + 2 ≤ 99999) (ho : d.off = false) (hp : d.p = []) (hn : 0 < n) (hw : 1 + lstN n + 2 * n ≤ w) (hl1 : was.length = n * 128) (hl2 : want.length = n * 128)
    (hf : (d.s.getD 0 []).getD 0 0 = 0) (hs : ∀ i, i < n → d.s.getD (1 + lstN n + i) [] = partB was i) : Ok (turnT n was want ⟨d, 0⟩) n want ∨ Cut (turnT n was want ⟨d, 0⟩) n was want := by
  have hcl := chgN_le was want n
  have hcm : ∀ i ∈ chgN was want n, i < n := fun i hi => chgN_lt hi
  have hsame : ∀ i, i < n → i ∉ chgN was want n → partB was i = partB want i := fun i hi hn => by
    by_cases he : partB was i = partB want i
    · exact he
    · exact (hn (by unfold chgN; rw [List.mem_filter, List.mem_range]; exact ⟨hi, by rw [bne_iff_ne]; exact he⟩)).elim
  unfold turnT
  dsimp only
  by_cases hc : chgN was want n = []
  · rw [if_pos hc]
    exact .inl ⟨rfl, ho, hp, hf, fun i hi => by rw [hs i hi]; exact hsame i hi (by rw [hc]; simp)⟩
  rw [if_neg hc]
  have hbl := listB_len hcl
  generalize chgN was want n = c at *
  have hlp : 0 < lstN n := by unfold lstN; omega
  have hlen := h.w
  -- lists, and what slots had
  have r1 := oldN_run hl1 hw c 0 ⟨d, 0⟩ hlen (by omega) hcm
  have f1 := oldN_few (n := n) (was := was) c 0 m ⟨d, 0⟩ h (by omega)
  have s1 : (oldN n was 0 c ⟨d, 0⟩).d.s.length = w := f1.w
  have r2 := r1.trans (lsN_run (b := listB n c) hw (lstN n) 0 _ s1 (by omega) (by omega))
  have f2 := lsN_few (b := listB n c) (lstN n) 0 _ _ f1 (by omega)
  generalize lsN (listB n c) (lstN n) 0 (oldN n was 0 c ⟨d, 0⟩) = t1 at *
  generalize hW : oldW n was 0 c ++ lsW (listB n c) (lstN n) 0 = W at *
  have hWm : ∀ x ∈ W, (∃ j i, c[j]? = some i ∧ x = (((1 + lstN n + n + (0 + j) : Nat) : Int), partB was i)) ∨ (∃ j, 0 ≤ j ∧ j < 0 + lstN n ∧ x = (((1 + j : Nat) : Int), partB (listB n c) j)) := by
    intro x hx
    rw [← hW] at hx
    rcases List.mem_append.1 hx with hx | hx
    · exact .inl (oldW_mem _ _ hx)
    · exact .inr (lsW_mem _ _ hx)
  have hjl : ∀ {j i : Nat}, c[j]? = some i → j < n := fun {j i} hj => by
    have := (List.getElem?_eq_some_iff.1 hj).1; omega
  have hW0 : ∀ x ∈ W, x.1.toNat ≠ 0 := fun x hx => by
    rcases hWm x hx with ⟨j, i, h1, rfl⟩ | ⟨j, h1, h2, rfl⟩ <;> (dsimp only; omega)
  have hWs : ∀ i, i < n → ∀ x ∈ W, x.1.toNat ≠ 1 + lstN n + i := fun i hi x hx => by
    rcases hWm x hx with ⟨j, i, h1, rfl⟩ | ⟨j, h1, h2, rfl⟩ <;> (dsimp only; omega)
  obtain ⟨b1, b2⟩ := r2.2 rfl ho
  dsimp only at b1 b2
  have eold : ∀ (t : TP), t.d.s = d.s → (∀ x ∈ t.d.p, x ∈ W) → ∀ ks, Un (Cr t.d ks) n was := fun t ht hq ks =>
    .inl ⟨by rw [Cr_at (fun x hx => hW0 x (hq x hx)), ht]; exact hf, fun i hi => by rw [Cr_at (fun x hx => hWs i hi x (hq x hx)), ht]; exact hs i hi⟩
  rcases b2 with ⟨e1, o1, p1⟩ | ⟨e1, o1, j, p1⟩
  rotate_left
  · have hne : t1.e ≠ 0 := by rw [e1]; decide
    have hst : ∀ l : List Nat, newN n want l t1 = t1 := fun l => by
      induction l with
      | nil => rfl
      | cons x l ih => rw [newN, putT_e _ _ hne, ih]
    rw [syncT_e hne, flagT_e hne, hst, syncT_e hne, flagT_e hne]
    refine .inr ⟨e1, o1, fun ks => .inl (eold t1 b1 (fun x hx => ?_) ks)⟩
    rw [p1, hp, List.nil_append] at hx
    exact List.mem_of_mem_take hx
  rw [hp, List.nil_append] at p1
  have f3 := syncT_few f2
  rcases sync_two f2 e1 o1 with ⟨e2, o2, s2, p2⟩ | ⟨e2, o2, s2, p2⟩
  rotate_left
  · generalize syncT t1 = t2 at *
    have hne : t2.e ≠ 0 := by rw [e2]; decide
    have hst : ∀ l : List Nat, newN n want l t2 = t2 := fun l => by
      induction l with
      | nil => rfl
      | cons x l ih => rw [newN, putT_e _ _ hne, ih]
    rw [flagT_e hne, hst, syncT_e hne, flagT_e hne]
    refine .inr ⟨e2, o2, fun ks => .inl (eold t2 (s2.trans b1) (fun x hx => ?_) ks)⟩
    rw [p2, p1] at hx
    exact hx
  generalize syncT t1 = t2 at *
  rw [b1, p1] at s2
  -- the lists stand
  have g0 : (t2.d.s.getD 0 []).getD 0 0 = 0 := by rw [s2, layP_at _ _ hW0]; exact hf
  have gs : ∀ i, i < n → t2.d.s.getD (1 + lstN n + i) [] = partB was i := fun i hi => by rw [s2, layP_at _ _ (hWs i hi)]; exact hs i hi
  have gl : ∀ i, i < lstN n → t2.d.s.getD (1 + i) [] = partB (listB n c) i := fun i hi => by
    rw [s2]
    refine layP_hit _ _ (by omega) (fun x hx hq => ?_) (.inr ⟨(((1 + i : Nat) : Int), partB (listB n c) i), ?_, by dsimp only; omega⟩)
    · rcases hWm x hx with ⟨j, i', h1, rfl⟩ | ⟨j, h1, h2, rfl⟩
      · dsimp only at hq; omega
      · dsimp only at hq ⊢
        rw [show j = i by omega]
    · rw [← hW]
      exact List.mem_append_right _ (lsW_of _ _ _ (by omega) (by omega))
  have gb : ∀ k i, c[k]? = some i → t2.d.s.getD (1 + lstN n + n + k) [] = partB was i := fun k i hk => by
    rw [s2]
    have hkn := hjl hk
    refine layP_hit _ _ (by omega) (fun x hx hq => ?_) (.inr ⟨(((1 + lstN n + n + (0 + k) : Nat) : Int), partB was i), ?_, by dsimp only; omega⟩)
    · rcases hWm x hx with ⟨j, i', h1, rfl⟩ | ⟨j, h1, h2, rfl⟩
      · dsimp only at hq ⊢
        have hjk : j = k := by omega
        subst hjk
        rw [h1] at hk
        cases hk; rfl
      · dsimp only at hq; omega
    · rw [← hW]
      exact List.mem_append_left _ (oldW_of _ _ _ _ hk)
  have hS2 : 0 < t2.d.s.length := by rw [f3.w]; omega
  have f4 := flagT_few f3 (on := 1) (by omega)
  have one : (1 : UInt8) ≠ 0 := by decide
  rcases flag_two f3 (by omega) e2 o2 p2 (by omega) 1 with ⟨s4, e4, o4, p4⟩ | ⟨e4, o4, k4⟩
  rotate_left
  · generalize flagT t2 1 = t4 at *
    have hne : t4.e ≠ 0 := by rw [e4]; decide
    have hst : ∀ l : List Nat, newN n want l t4 = t4 := fun l => by
      induction l with
      | nil => rfl
      | cons x l ih => rw [newN, putT_e _ _ hne, ih]
    rw [hst, syncT_e hne, flagT_e hne]
    refine .inr ⟨e4, o4, fun ks => .inl ?_⟩
    rcases k4 ks with h6 | ⟨x, h6, h7⟩
    · rw [h6]; exact .inl ⟨g0, gs⟩
    · rw [h6]; exact Un.set1 hS2 (by rw [h7]; exact one) hcl hcm gl gb (fun i hi _ => gs i hi)
  generalize flagT t2 1 = t4 at *
  have k0 : (t4.d.s.getD 0 []).getD 0 0 ≠ 0 := by rw [← s4, set0_0 hS2]; exact one
  have ks' : ∀ i, i < n → t4.d.s.getD (1 + lstN n + i) [] = partB was i := fun i hi => by rw [← s4, set0_get (by omega)]; exact gs i hi
  have kl : ∀ i, i < lstN n → t4.d.s.getD (1 + i) [] = partB (listB n c) i := fun i hi => by rw [← s4, set0_get (by omega)]; exact gl i hi
  have kb : ∀ k i, c[k]? = some i → t4.d.s.getD (1 + lstN n + n + k) [] = partB was i := fun k i hk => by rw [← s4, set0_get (by omega)]; exact gb k i hk
  have l4 : t4.d.s.length = w := f4.w
  clear s4 g0 gs gl gb
  -- the slots
  have r5 := newN_run hl2 hw c t4 l4 hcm
  have f5 := newN_few (n := n) (want := want) c _ t4 f4 (by omega)
  generalize newN n want c t4 = t5 at *
  obtain ⟨b5, b6⟩ := r5.2 e4 o4
  have hVm : ∀ x ∈ newW n want c, ∃ i ∈ c, x = (((1 + lstN n + i : Nat) : Int), partB want i) := fun x hx => newW_mem _ hx
  have enew : ∀ (t : TP), t.d.s = t4.d.s → (∀ x ∈ t.d.p, x ∈ newW n want c) → ∀ ks, Un (Cr t.d ks) n was := fun t ht hq ks => by
    refine .inr ⟨?_, c, hcl, hcm, fun i hi => ?_, fun k i hk => ?_, fun i hi hic => ?_⟩
    · rw [Cr_at (fun x hx => ?_), ht]
      · exact k0
      · obtain ⟨i, h1, rfl⟩ := hVm x (hq x hx); dsimp only; omega
    · rw [Cr_at (fun x hx => ?_), ht]
      · exact kl i hi
      · obtain ⟨i, h1, rfl⟩ := hVm x (hq x hx); dsimp only; omega
    · rw [Cr_at (fun x hx => ?_), ht]
      · exact kb k i hk
      · obtain ⟨i, h1, rfl⟩ := hVm x (hq x hx)
        have := hcm i h1
        dsimp only; omega
    · rw [Cr_at (fun x hx => ?_), ht]
      · exact ks' i hi
      · obtain ⟨i', h1, rfl⟩ := hVm x (hq x hx)
        have : i' ≠ i := fun h => hic (h ▸ h1)
        dsimp only; omega
  rcases b6 with ⟨e5, o5, p5⟩ | ⟨e5, o5, j, p5⟩
  rotate_left
  · have hne : t5.e ≠ 0 := by rw [e5]; decide
    rw [syncT_e hne, flagT_e hne]
    refine .inr ⟨e5, o5, fun ks => .inl (enew t5 b5 (fun x hx => ?_) ks)⟩
    rw [p5, p4, List.nil_append] at hx
    exact List.mem_of_mem_take hx
  rw [p4, List.nil_append] at p5
  have f6 := syncT_few f5
  rcases sync_two f5 e5 o5 with ⟨e6, o6, s6, p6⟩ | ⟨e6, o6, s6, p6⟩
  rotate_left
  · generalize syncT t5 = t6 at *
    have hne : t6.e ≠ 0 := by rw [e6]; decide
    rw [flagT_e hne]
    refine .inr ⟨e6, o6, fun ks => .inl (enew t6 (s6.trans b5) (fun x hx => ?_) ks)⟩
    rw [p6, p5] at hx
    exact hx
  generalize syncT t5 = t6 at *
  rw [b5, p5] at s6
  refine last_two f6 (by omega) e6 o6 p6 (by omega) (c := c) ?_ hcl hcm (fun i hi => ?_) (fun k i hk => ?_) (fun i hi hic => ?_) (fun i hi => ?_)
  · rw [s6, layP_at _ _ (fun x hx => ?_)]
    · exact k0
    · obtain ⟨i, h1, rfl⟩ := hVm x hx; dsimp only; omega
  · rw [s6, layP_at _ _ (fun x hx => ?_)]
    · exact kl i hi
    · obtain ⟨i, h1, rfl⟩ := hVm x hx; dsimp only; omega
  · rw [s6, layP_at _ _ (fun x hx => ?_)]
    · exact kb k i hk
    · obtain ⟨i, h1, rfl⟩ := hVm x hx
      have := hcm i h1
      dsimp only; omega
  · rw [s6, layP_at _ _ (fun x hx => ?_)]
    · exact ks' i hi
    · obtain ⟨i', h1, rfl⟩ := hVm x hx
      have : i' ≠ i := fun h => hic (h ▸ h1)
      dsimp only; omega
  · rw [s6]
    refine layP_hit _ _ (by omega) (fun x hx hq => ?_) ?_
    · obtain ⟨i', h1, rfl⟩ := hVm x hx
      dsimp only at hq ⊢
      rw [show i' = i by omega]
    · by_cases hic : i ∈ c
      · exact .inr ⟨(((1 + lstN n + i : Nat) : Int), partB want i), newW_of _ hic, by dsimp only; omega⟩
      · exact .inl (by rw [ks' i hi]; exact hsame i hi hic)

end Go.Fw

end
