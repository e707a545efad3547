/- The abstract machine, and the contracts of the code: part 52. -/
import Derived.Test.YticnacaeibpicaaP51

section
/- block: roots, weights, places. -/
namespace Go.Fw
open Go Go.Proofs
set_option linter.unusedVariables false
set_option linter.unusedSimpArgs false

theorem namx_t (t : TTx) : F29 [txT t] = some ([], .t (.ba 32 (namO t))) := by simp only [F29, inv_of txT_inj]
theorem rnamx_t (t : TTx) : F49 [txT t] = some ([], .t (.ba 32 (namO t))) := by simp only [F49, inv_of txT_inj]
theorem weix_t (t : TTx) : F51 [txT t] = some ([], .t (.int .i64 (weiO t))) := by simp only [F51, inv_of txT_inj]
theorem rweix_t (t : TTx) : F52 [txT t] = some ([], .t (.int .i64 (weiO t))) := by simp only [F52, inv_of txT_inj]
theorem txs_wf {l : List TTx} (h : (txsT l).wf) : l.length ≤ maxLen := by
  simp only [txsT, T.wf] at h
  simpa using h.2.1

/-- What transactions weigh. -/
def weiL (l : List TTx) : Int := (l.map weiO).sum
theorem weiO_le (t : TTx) : 0 ≤ weiO t ∧ weiO t ≤ 48000 := by
  unfold weiO
  split
  · rename_i h
    simp only [fitsB, Bool.and_eq_true, decide_eq_true_eq] at h
    have : (bareB t).length ≤ (wholeB t).length := by unfold wholeB; simp
    omega
  · omega
theorem weiL_take (l : List TTx) (k : Nat) (h : k < l.length) : weiL (l.take (k + 1)) = weiL (l.take k) + weiO (l.getD k dTx) := by
  unfold weiL; rw [take_getDx dTx l k h]; simp

noncomputable def F25 : Fun
  | [y] => match inv txsT y with
    | some l => if l.length ≤ 1000000 then some ([], .t (.int .i64 (weiL l))) else none
    | none => none
  | _ => none

theorem ct25 : CT [(51, ⟨[false], treeG F51⟩)] [0, 2, 3, 5, 6, 7, 8, 9] [] := ⟨(.cons c51.g (.nil _))⟩

noncomputable def F26 : Fun
  | [y] => match inv txsT y with
    | some l => if l.length ≤ 1000000 then some ([], .t (.int .i64 (weiL l))) else none
    | none => none
  | _ => none

theorem ct26 : CT [(52, ⟨[false], treeG F52⟩)] [0, 2, 3, 4, 8] [] := ⟨(.cons c52.g (.nil _))⟩

theorem c25 : ACon Try.prog 25 F25 := by
  refine aconc E_ok (rs := [.tmp 2 3]) Try.func25 rfl Try.ntmps25 (by kernel_rfl) rfl (by decide) F25 (np := 1) ?_ ?_
  · intro ts h; unfold F25; split <;> first | rfl | (simp at h; done)
  intro ts H r hF hwf
  unfold F25 at hF
  split at hF <;> try (cases hF; done)
  split at hF <;> try (cases hF; done)
  rename_i l hl
  split at hF
  case isFalse => cases hF
  rename_i hb
  cases hF
  obtain rfl := inv_inv hl
  obtain ⟨W0, hW⟩ : ∃ w, weiL l = w := ⟨_, rfl⟩
  rw [hW]
  dsimp only [txsT]
  repeat refine St trivial ct25 ?_
  refine AWP.loop (G := { i : Nat // i ≤ l.length ∧ 0 ≤ weiL (l.take i) ∧ weiL (l.take i) ≤ i * 48000 }) (fun i => ⟨[(3, .t (.int .i64 (weiL (l.take i.1)))), (6, .t (.sq 4 (l.map txT))), (7, .t (.int .i64 (l.length : Int))), (8, .t (.int .i64 (i.1 : Int)))], []⟩) (fun i => l.length - i.1) ⟨0, by omega, Int.le_refl _, Int.le_refl _⟩ (Wt (And.intro @weiL.eq_def <| And.intro @List.take_zero.{0} <| And.intro @List.map_nil.{0, 0} <| @List.sum_nil.{0}) [3, 6, 7, 8] []) ?_
  intro ⟨i, hi, h0, h1⟩
  dsimp only
  by_cases hlt : (i : Int) < (l.length : Int)
  · have hlt' : i < l.length := by omega
    have hget := tx_getD l i hlt'
    have hwt := weiL_take l i hlt'
    generalize l.getD i dTx = x at *
    have q1 := weix_t x
    have q2 := weiO_le x
    have hw : IntKind.i64.wrap (weiL (l.take i) + weiO x) = weiL (l.take (i + 1)) := by rw [hwt, wrap_i64 (by omega) (by omega)]
    rw [txT_st] at q1 hget
    generalize weiO x = z at *
    repeat refine St (And.intro hlt <| And.intro hlt' <| And.intro hget <| And.intro q1 <| hw) ct25 ?_
    exact ⟨⟨i + 1, by omega, by omega, by rw [hwt]; omega⟩, (Wt trivial [3, 6, 7, 8] []), by simp only; omega⟩
  obtain rfl : i = l.length := by omega
  have hTL : l.take l.length = l := List.take_length
  repeat refine St (And.intro hlt <| And.intro hTL <| hW) ct25 ?_
  exact AWP.ret (Fin trivial [] [])

theorem c26 : ACon Try.prog 26 F26 := by
  refine aconc E_ok (rs := [.tmp 2 3]) Try.func26 rfl Try.ntmps26 (by kernel_rfl) rfl (by decide) F26 (np := 1) ?_ ?_
  · intro ts h; unfold F26; split <;> first | rfl | (simp at h; done)
  intro ts H r hF hwf
  unfold F26 at hF
  split at hF <;> try (cases hF; done)
  split at hF <;> try (cases hF; done)
  rename_i l hl
  split at hF
  case isFalse => cases hF
  rename_i hb
  cases hF
  obtain rfl := inv_inv hl
  obtain ⟨W0, hW⟩ : ∃ w, weiL l = w := ⟨_, rfl⟩
  rw [hW]
  dsimp only [txsT]
  repeat refine St trivial ct26 ?_
  refine AWP.loop (G := { i : Nat // i ≤ l.length ∧ 0 ≤ weiL (l.take i) ∧ weiL (l.take i) ≤ i * 48000 }) (fun i => ⟨[(0, .t (.sq 4 (l.map txT))), (3, .t (.int .i64 (weiL (l.take i.1)))), (4, .t (.int .i64 (i.1 : Int)))], []⟩) (fun i => l.length - i.1) ⟨0, by omega, Int.le_refl _, Int.le_refl _⟩ (Wt (And.intro @weiL.eq_def <| And.intro @List.take_zero.{0} <| And.intro @List.map_nil.{0, 0} <| @List.sum_nil.{0}) [0, 3, 4] []) ?_
  intro ⟨i, hi, h0, h1⟩
  dsimp only
  by_cases hlt : (i : Int) < (l.length : Int)
  · have hlt' : i < l.length := by omega
    have hget := tx_getD l i hlt'
    have hwt := weiL_take l i hlt'
    generalize l.getD i dTx = x at *
    have q1 := rweix_t x
    have q2 := weiO_le x
    have hw : IntKind.i64.wrap (weiL (l.take i) + weiO x) = weiL (l.take (i + 1)) := by rw [hwt, wrap_i64 (by omega) (by omega)]
    rw [txT_st] at q1 hget
    generalize weiO x = z at *
    repeat refine St (And.intro hlt <| And.intro hlt' <| And.intro hget <| And.intro q1 <| hw) ct26 ?_
    exact ⟨⟨i + 1, by omega, by omega, by rw [hwt]; omega⟩, (Wt trivial [0, 3, 4] []), by simp only; omega⟩
  obtain rfl : i = l.length := by omega
  have hTL : l.take l.length = l := List.take_length
  repeat refine St (And.intro hlt <| And.intro hTL <| hW) ct26 ?_
  exact AWP.ret (Fin trivial [] [])

theorem wei_b {l : List TTx} (h : l.length ≤ 1000000) : F25 [.sq 4 (l.map txT)] = some ([], .t (.int .i64 (weiL l))) := by
  have : F25 [txsT l] = some ([], .t (.int .i64 (weiL l))) := by simp only [F25, inv_of txsT_inj]; exact if_pos h
  exact this
theorem rwei_b {l : List TTx} (h : l.length ≤ 1000000) : F26 [.sq 4 (l.map txT)] = some ([], .t (.int .i64 (weiL l))) := by
  have : F26 [txsT l] = some ([], .t (.int .i64 (weiL l))) := by simp only [F26, inv_of txsT_inj]; exact if_pos h
  exact this

/-- The root of transactions. -/
noncomputable def rotL (l : List TTx) : Hs × Bool := rootW pairS (l.map namO) false
theorem root32 : ∀ (n : Nat) (l : List Hs) (d : Bool), l.length ≤ n → (∀ x ∈ l, x.length = 32) → (rootW pairS l d).1.length = 32
  | 0, l, d, h, _ => by rw [rootW_none pairS d (by omega)]; rfl
  | n + 1, l, d, h, hx => by
    by_cases h1 : 1 < l.length
    · rw [rootW_up pairS d h1]
      exact root32 n _ _ (by rw [liftS_len]; omega) liftS_32
    by_cases h2 : l.length = 1
    · rw [rootW_end pairS d h2]
      exact hx _ (by
        have : l.getD 0 [] = l[0] := by simp [h2]
        rw [this]; exact List.getElem_mem _)
    · rw [rootW_none pairS d (by omega)]; rfl
theorem rotL_len (l : List TTx) : (rotL l).1.length = 32 := root32 _ _ _ (Nat.le_refl _) fun x hx => by
  obtain ⟨t, _, rfl⟩ := List.mem_map.1 hx
  exact namO_len t
noncomputable def F23 : Fun
  | [y] => match inv txsT y with
    | some l => if l.length ≤ 1000000 then some ([], .tup [.t (.ba 32 (rotL l).1), .t (.bool (rotL l).2)]) else none
    | none => none
  | _ => none

theorem ct23 : CT [(29, ⟨[false], treeG F29⟩), (48, ⟨[false], treeG F48⟩)] [0, 2, 3, 4, 6, 10, 11, 12, 13] [] := ⟨(.cons c29.g (.cons c48.g (.nil _)))⟩

noncomputable def F24 : Fun
  | [y] => match inv txsT y with
    | some l => if l.length ≤ 1000000 then some ([], .tup [.t (.ba 32 (rotL l).1), .t (.bool (rotL l).2)]) else none
    | none => none
  | _ => none

theorem ct24 : CT [(49, ⟨[false], treeG F49⟩), (50, ⟨[false], treeG F50⟩)] [0, 2, 3, 4, 5, 10] [] := ⟨(.cons c49.g (.cons c50.g (.nil _)))⟩

set_option maxHeartbeats 1000000 in
theorem c23 : ACon Try.prog 23 F23 := by
  refine aconc E_ok (rs := [.cell 2 25, .tmp 3 4]) Try.func23 rfl Try.ntmps23 (by kernel_rfl) rfl (by decide) F23 (np := 1) ?_ ?_
  · intro ts h; unfold F23; split <;> first | rfl | (simp at h; done)
  intro ts H r hF hwf
  unfold F23 at hF
  split at hF <;> try (cases hF; done)
  split at hF <;> try (cases hF; done)
  rename_i l hl
  split at hF
  case isFalse => cases hF
  rename_i hb
  cases hF
  obtain rfl := inv_inv hl
  have h1 := root_mc (l := l.map namO) (by simp; omega)
  have l1 := rotL_len l
  have hro : rootW pairS (l.map namO) false = rotL l := rfl
  rw [hro] at h1
  generalize rotL l = R at *
  dsimp only [txsT]
  repeat refine St trivial ct23 ?_
  refine AWP.loop (G := { i : Nat // i ≤ l.length }) (fun i => ⟨[(2, .ptr 0 0 []), (4, .own 1), (10, .t (.sq 4 (l.map txT))), (11, .t (.int .i64 (l.length : Int))), (12, .t (.int .i64 (i.1 : Int)))], [.bx (.t (.ba 32 (zby 32))), .sq 32 (((l.take i.1).map namO).map hT)]⟩) (fun i => l.length - i.1) ⟨0, by omega⟩ (Wt (And.intro @List.take_zero.{0} <| @List.map_nil.{0, 0}) [2, 4, 10, 11, 12] [0, 1]) ?_
  intro ⟨i, hi⟩
  dsimp only
  by_cases hlt : (i : Int) < (l.length : Int)
  · have hlt' : i < l.length := by omega
    have hget := tx_getD l i hlt'
    have htk := take_getDx dTx l i hlt'
    generalize l.getD i dTx = x at *
    have q1 := namx_t x
    have q2 := namO_len x
    have hmm : ((l.take (i + 1)).map namO).map hT = ((l.take i).map namO).map hT ++ [.ba 32 (namO x)] := by rw [htk, List.map_append, List.map_append]; rfl
    have hal : (((l.take i).map namO).map hT).length ≤ 1000000 := by simp; omega
    rw [txT_st] at q1 hget
    generalize namO x = z at *
    repeat refine St (And.intro hlt <| And.intro hlt' <| And.intro hget <| And.intro q1 <| And.intro q2 <| hal) ct23 ?_
    exact ⟨⟨i + 1, by omega⟩, (Wt hmm [2, 4, 10, 11, 12] [0, 4]), by simp only; omega⟩
  obtain rfl : i = l.length := by omega
  have hTL : l.take l.length = l := List.take_length
  repeat refine St (And.intro hlt <| And.intro hTL <| And.intro h1 <| l1) ct23 ?_
  exact AWP.ret (Fin trivial [] [])

set_option maxHeartbeats 1000000 in
theorem c24 : ACon Try.prog 24 F24 := by
  refine aconc E_ok (rs := [.cell 2 25, .tmp 3 4]) Try.func24 rfl Try.ntmps24 (by kernel_rfl) rfl (by decide) F24 (np := 1) ?_ ?_
  · intro ts h; unfold F24; split <;> first | rfl | (simp at h; done)
  intro ts H r hF hwf
  unfold F24 at hF
  split at hF <;> try (cases hF; done)
  split at hF <;> try (cases hF; done)
  rename_i l hl
  split at hF
  case isFalse => cases hF
  rename_i hb
  cases hF
  obtain rfl := inv_inv hl
  have h1 := root_rc (l := l.map namO) (by simp; omega)
  have l1 := rotL_len l
  have hro : rootW pairS (l.map namO) false = rotL l := rfl
  rw [hro] at h1
  generalize rotL l = R at *
  dsimp only [txsT]
  repeat refine St trivial ct24 ?_
  refine AWP.loop (G := { i : Nat // i ≤ l.length }) (fun i => ⟨[(0, .t (.sq 4 (l.map txT))), (2, .ptr 0 0 []), (4, .own 1), (5, .t (.int .i64 (i.1 : Int)))], [.bx (.t (.ba 32 (zby 32))), .sq 32 (((l.take i.1).map namO).map hT)]⟩) (fun i => l.length - i.1) ⟨0, by omega⟩ (Wt (And.intro @List.take_zero.{0} <| @List.map_nil.{0, 0}) [0, 2, 4, 5] [0, 1]) ?_
  intro ⟨i, hi⟩
  dsimp only
  by_cases hlt : (i : Int) < (l.length : Int)
  · have hlt' : i < l.length := by omega
    have hget := tx_getD l i hlt'
    have htk := take_getDx dTx l i hlt'
    generalize l.getD i dTx = x at *
    have q1 := rnamx_t x
    have q2 := namO_len x
    have hmm : ((l.take (i + 1)).map namO).map hT = ((l.take i).map namO).map hT ++ [.ba 32 (namO x)] := by rw [htk, List.map_append, List.map_append]; rfl
    have hal : (((l.take i).map namO).map hT).length ≤ 1000000 := by simp; omega
    rw [txT_st] at q1 hget
    generalize namO x = z at *
    repeat refine St (And.intro hlt <| And.intro hlt' <| And.intro hget <| And.intro q1 <| And.intro q2 <| hal) ct24 ?_
    exact ⟨⟨i + 1, by omega⟩, (Wt hmm [0, 2, 4, 5] [0, 3]), by simp only; omega⟩
  obtain rfl : i = l.length := by omega
  have hTL : l.take l.length = l := List.take_length
  repeat refine St (And.intro hlt <| And.intro hTL <| And.intro h1 <| l1) ct24 ?_
  exact AWP.ret (Fin trivial [] [])

theorem rot_b {l : List TTx} (h : l.length ≤ 1000000) : F23 [.sq 4 (l.map txT)] = some ([], .tup [.t (.ba 32 (rotL l).1), .t (.bool (rotL l).2)]) := by
  have : F23 [txsT l] = some ([], .tup [.t (.ba 32 (rotL l).1), .t (.bool (rotL l).2)]) := by simp only [F23, inv_of txsT_inj]; exact if_pos h
  exact this
theorem rrot_b {l : List TTx} (h : l.length ≤ 1000000) : F24 [.sq 4 (l.map txT)] = some ([], .tup [.t (.ba 32 (rotL l).1), .t (.bool (rotL l).2)]) := by
  have : F24 [txsT l] = some ([], .tup [.t (.ba 32 (rotL l).1), .t (.bool (rotL l).2)]) := by simp only [F24, inv_of txsT_inj]; exact if_pos h
  exact this

/-- Where a name stands. -/
noncomputable def isN (n : List UInt8) (t : TTx) : Bool := namO t == n
noncomputable def G54 : GFun
  | [.bx (.t (.ba 32 n))], [.t y, .ptr 0 0 []] => match inv txT y with
    | some t => if n.length = 32 then some ([.bx (.t (.ba 32 n))], .t (.bool (isN n t))) else none
    | none => none
  | _, _ => none

theorem ct54 : CT [(29, ⟨[false], treeG F29⟩)] [0, 1, 2, 3] [(1, [⟨1, [2], [], []⟩, ⟨1, [4], [0], []⟩, ⟨1, [1], [], []⟩, ⟨0, [5, 6], [0, 1, 2], []⟩, ⟨0, [7], [0, 1, 2], []⟩])] := ⟨(.cons c29.g (.nil _))⟩

theorem g54 : GCon Try.prog 54 G54 := by
  refine gconc E_ok (rs := [.tmp 3 4]) Try.func54 rfl Try.ntmps54 (by kernel_rfl) rfl (by decide) G54 (np := 2) ?_ ?_
  · intro HB xs h; unfold G54; split <;> first | rfl | (simp at h; done)
  intro HB xs H r hG hwf hex
  unfold G54 at hG
  split at hG <;> try (cases hG; done)
  rename_i n y
  split at hG <;> try (cases hG; done)
  rename_i t ht
  split at hG
  case isFalse => cases hG
  rename_i hn
  cases hG
  obtain rfl := inv_inv ht
  have h1 := namx_t t
  have h2 := namO_len t
  unfold isN
  rw [txT_st] at h1 ⊢
  generalize namO t = z at *
  repeat refine St (And.intro h1 <| And.intro h2 <| hn) ct54 ?_
  exact AWP.ret (Fin trivial [] [0])

theorem find1_c {n : List UInt8} (hn : n.length = 32) (t : TTx) : G54 [.bx (.t (.ba 32 n))] [.t (txT t), .ptr 0 0 []] = some ([.bx (.t (.ba 32 n))], .t (.bool (isN n t))) := by
  simp only [G54, inv_of txT_inj]; exact if_pos hn

noncomputable def G53 : GFun
  | [.bx (.t (.ba 32 n))], [.t y, .clo f [.ptr 0 0 []]] => match inv txsT y with
    | some l => if f = 54 ∧ n.length = 32 then some ([.bx (.t (.ba 32 n))], .t (.int .i64 (fstI (isN n) l 0))) else none
    | none => none
  | _, _ => none

theorem ct53 : CT [(54, ⟨[false, true], G54⟩)] [0, 1, 4, 5, 7, 8, 9, 16] [] := ⟨(.cons g54 (.nil _))⟩

theorem g53 : GCon Try.prog 53 G53 := by
  refine gconc E_ok (rs := [.tmp 4 3]) Try.func53 rfl Try.ntmps53 (by kernel_rfl) rfl (by decide) G53 (np := 2) ?_ ?_
  · intro HB xs h; unfold G53; split <;> first | rfl | (simp at h; done)
  intro HB xs H r hG hwf hex
  unfold G53 at hG
  split at hG <;> try (cases hG; done)
  rename_i n y f
  split at hG <;> try (cases hG; done)
  rename_i l hl
  split at hG
  case isFalse => cases hG
  rename_i hc
  obtain ⟨rfl, hn⟩ := hc
  cases hG
  obtain rfl := inv_inv hl
  have hg : l.length ≤ maxLen := txs_wf (by
    have := hwf (.t (txsT l)) (by simp)
    simpa only [AV.wf] using this)
  unfold maxLen at hg
  obtain ⟨R, hR⟩ : ∃ R, fstI (isN n) l 0 = R := ⟨_, rfl⟩
  rw [hR]
  dsimp only [txsT]
  repeat refine St (And.intro @gentry.eq_1 <| @gentry.eq_2) ct53 ?_
  refine AWP.loop (G := { i : Nat // i ≤ l.length ∧ fstI (isN n) (l.drop i) i = R }) (fun i => ⟨[(0, .t (.sq 4 (l.map txT))), (1, .clo 54 [.ptr 0 0 []]), (7, .t (.int .i64 (l.length : Int))), (8, .t (.int .i64 (i.1 : Int)))], [.bx (.t (.ba 32 n))]⟩) (fun i => l.length - i.1) ⟨0, by omega, by simpa using hR⟩ (Wt trivial [0, 1, 7, 8] [0]) ?_
  intro ⟨i, hi, hRi⟩
  dsimp only
  by_cases hlt : (i : Int) < (l.length : Int)
  · have hlt' : i < l.length := by omega
    have hget := tx_getD l i hlt'
    have hl1 := find1_c hn (l.getD i dTx)
    by_cases hb : isN n (l.getD i dTx) = true
    · rw [fstI_yes (isN n) dTx l i hlt' hb] at hRi
      rw [hb] at hl1
      generalize l.getD i dTx = x at *
      rw [txT_st] at hl1 hget
      repeat refine St (And.intro hlt <| And.intro hlt' <| And.intro hget <| hl1) ct53 ?_
      exact AWP.ret (Fin hRi [] [0])
    · have hb' : isN n (l.getD i dTx) = false := by simpa using hb
      rw [fstI_no (isN n) dTx l i hlt' hb'] at hRi
      rw [hb'] at hl1
      generalize l.getD i dTx = x at *
      rw [txT_st] at hl1 hget
      repeat refine St (And.intro hlt <| And.intro hlt' <| And.intro hget <| hl1) ct53 ?_
      exact ⟨⟨i + 1, by omega, hRi⟩, (Wt trivial [0, 1, 7, 8] [0]), by simp only; omega⟩
  obtain rfl : i = l.length := by omega
  rw [fstI_end] at hRi
  repeat refine St hlt ct53 ?_
  exact AWP.ret (Fin hRi [] [0])

noncomputable def F27 : Fun
  | [y, .ba 32 n] => match inv txsT y with
    | some l => some ([], .t (.int .i64 (fstI (isN n) l 0)))
    | none => none
  | _ => none

theorem ct27 : CT [(53, ⟨[false, true], G53⟩)] [0, 1, 3, 4] [] := ⟨(.cons g53 (.nil _))⟩

noncomputable def F28 : Fun
  | [y, .ba 32 n] => match inv txsT y with
    | some l => some ([], .t (.int .i64 (fstI (isN n) l 0)))
    | none => none
  | _ => none

theorem ct28 : CT [(49, ⟨[false], treeG F49⟩)] [0, 1, 3, 4, 5, 9, 18] [(4, [⟨0, [0], [], []⟩, ⟨0, [5], [], []⟩, ⟨1, [12, 13], [], []⟩, ⟨1, [14], [2], []⟩, ⟨1, [15], [2, 3], []⟩, ⟨1, [3], [], []⟩, ⟨0, [16, 17], [2, 3, 4, 5], []⟩])] := ⟨(.cons c49.g (.nil _))⟩

theorem c27 : ACon Try.prog 27 F27 := by
  refine aconc E_ok (rs := [.tmp 4 3]) Try.func27 rfl Try.ntmps27 (by kernel_rfl) rfl (by decide) F27 (np := 2) ?_ ?_
  · intro ts h; unfold F27; split <;> first | rfl | (simp at h; done)
  intro ts H r hF hwf
  unfold F27 at hF
  split at hF <;> try (cases hF; done)
  rename_i y n
  split at hF <;> try (cases hF; done)
  rename_i l hl
  cases hF
  obtain rfl := inv_inv hl
  have hn : n.length = 32 := hwf (.ba 32 n) (by simp)
  have h1 : G53 [.bx (.t (.ba 32 n))] [.t (txsT l), .clo 54 [.ptr 0 0 []]] = some ([.bx (.t (.ba 32 n))], .t (.int .i64 (fstI (isN n) l 0))) := by
    simp only [G53, inv_of txsT_inj]
    rw [if_pos]
    simp only [hn, and_self]
  dsimp only [txsT] at h1 ⊢
  generalize fstI (isN n) l 0 = R at *
  repeat refine St (And.intro h1 <| hn) ct27 ?_
  exact AWP.ret (Fin trivial [] [])

set_option maxHeartbeats 1000000 in
theorem c28 : ACon Try.prog 28 F28 := by
  refine aconc E_ok (rs := [.tmp 4 3]) Try.func28 rfl Try.ntmps28 (by kernel_rfl) rfl (by decide) F28 (np := 2) ?_ ?_
  · intro ts h; unfold F28; split <;> first | rfl | (simp at h; done)
  intro ts H r hF hwf
  unfold F28 at hF
  split at hF <;> try (cases hF; done)
  rename_i y n
  split at hF <;> try (cases hF; done)
  rename_i l hl
  cases hF
  have hn : n.length = 32 := hwf (.ba 32 n) (by simp)
  obtain rfl := inv_inv hl
  have hg : l.length ≤ maxLen := txs_wf (hwf (txsT l) (by simp))
  unfold maxLen at hg
  obtain ⟨R, hR⟩ : ∃ R, fstI (isN n) l 0 = R := ⟨_, rfl⟩
  rw [hR]
  dsimp only [txsT]
  repeat refine St hn ct28 ?_
  refine AWP.loop (G := { i : Nat // i ≤ l.length ∧ fstI (isN n) (l.drop i) i = R }) (fun i => ⟨[(0, .t (.sq 4 (l.map txT))), (3, .ptr 0 0 []), (5, .t (.int .i64 (i.1 : Int)))], [.bx (.t (.ba 32 n))]⟩) (fun i => l.length - i.1) ⟨0, by omega, by simpa using hR⟩ (Wt trivial [0, 3, 5] [0]) ?_
  intro ⟨i, hi, hRi⟩
  dsimp only
  by_cases hlt : (i : Int) < (l.length : Int)
  · have hlt' : i < l.length := by omega
    have hget := tx_getD l i hlt'
    have q1 := rnamx_t (l.getD i dTx)
    have q2 := namO_len (l.getD i dTx)
    by_cases hb : isN n (l.getD i dTx) = true
    · rw [fstI_yes (isN n) dTx l i hlt' hb] at hRi
      have hb2 : (namO (l.getD i dTx) == n) = true := hb
      generalize l.getD i dTx = x at *
      rw [txT_st] at q1 hget
      generalize namO x = z at *
      repeat refine St (And.intro hlt <| And.intro hlt' <| And.intro hget <| And.intro q1 <| And.intro q2 <| And.intro hn <| hb2) ct28 ?_
      exact AWP.ret (Fin hRi [] [])
    · have hb' : isN n (l.getD i dTx) = false := by simpa using hb
      rw [fstI_no (isN n) dTx l i hlt' hb'] at hRi
      have hb2 : (namO (l.getD i dTx) == n) = false := hb'
      generalize l.getD i dTx = x at *
      rw [txT_st] at q1 hget
      generalize namO x = z at *
      repeat refine St (And.intro hlt <| And.intro hlt' <| And.intro hget <| And.intro q1 <| And.intro q2 <| And.intro hn <| hb2) ct28 ?_
      exact ⟨⟨i + 1, by omega, hRi⟩, (Wt trivial [0, 3, 5] [0]), by simp only; omega⟩
  obtain rfl : i = l.length := by omega
  rw [fstI_end] at hRi
  repeat refine St hlt ct28 ?_
  exact AWP.ret (Fin hRi [] [])

theorem find_b (l : List TTx) (n : List UInt8) : F27 [.sq 4 (l.map txT), .ba 32 n] = some ([], .t (.int .i64 (fstI (isN n) l 0))) := by
  have : F27 [txsT l, .ba 32 n] = some ([], .t (.int .i64 (fstI (isN n) l 0))) := by simp only [F27, inv_of txsT_inj]
  exact this
theorem rfind_b (l : List TTx) (n : List UInt8) : F28 [.sq 4 (l.map txT), .ba 32 n] = some ([], .t (.int .i64 (fstI (isN n) l 0))) := by
  have : F28 [txsT l, .ba 32 n] = some ([], .t (.int .i64 (fstI (isN n) l 0))) := by simp only [F28, inv_of txsT_inj]
  exact this

end Go.Fw

end
