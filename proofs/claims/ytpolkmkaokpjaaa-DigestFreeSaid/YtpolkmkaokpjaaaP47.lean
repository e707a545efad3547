/- The abstract machine, and the contracts of the code: part 47. -/
import Derived.Test.YtpolkmkaokpjaaaP46

section
/- tx's answer: the forms, whether it fits, names, weights. -/
namespace Go.Fw
open Go Go.Proofs
set_option linter.unusedVariables false
set_option linter.unusedSimpArgs false

noncomputable def F42 : Fun
  | [y] => match inv txT y with
    | some t => some ([], .t (.bool (countsB t)))
    | none => none
  | _ => none

theorem ct42 : CT [] [0, 1, 2, 3, 4, 5, 15, 20, 30, 35, 45, 54, 67] [] := ⟨GClOk.nil _⟩

set_option maxHeartbeats 1000000 in
theorem c42 : ACon Try.prog 42 F42 := by
  refine aconc E_ok (rs := [.tmp 2 4]) Try.func42 rfl Try.ntmps42 (by kernel_rfl) rfl (by decide) F42 (np := 1) ?_ ?_
  · intro ts h; unfold F42; split <;> first | rfl | (simp at h; done)
  intro ts H r hF hwf
  unfold F42 at hF
  split at hF <;> try (cases hF; done)
  split at hF <;> try (cases hF; done)
  rename_i t ht
  cases hF
  obtain rfl := inv_inv ht
  have hcb := countsB_eq t
  obtain ⟨c, hc⟩ : ∃ c, countsB t = c := ⟨_, rfl⟩
  rw [hc] at hcb
  rw [hc]
  obtain ⟨v, is, os, k⟩ := t
  dsimp only at hcb
  have hyu : txT ⟨v, is, os, k⟩ = .st [.int .u32 (v.toNat : Int), .sq 35 (is.map inT), .sq 2 (os.map outT), .int .u32 (k.toNat : Int)] := rfl
  rw [hyu]
  by_cases h1 : 20 < (is.length : Int)
  · have e : c = false := by rw [hcb]; have : ¬ is.length ≤ 20 := by omega
                             simp [this]
    subst e
    repeat refine St h1 ct42 ?_
    exact AWP.ret (Fin trivial [] [])
  by_cases h2 : 20 < (os.length : Int)
  · have e : c = false := by rw [hcb]; have : ¬ os.length ≤ 20 := by omega
                             simp [this]
    subst e
    repeat refine St (And.intro h1 <| h2) ct42 ?_
    exact AWP.ret (Fin trivial [] [])
  have hcb' : c = (os.all scrOk && is.all witOk) := by
    rw [hcb]
    have e1 : is.length ≤ 20 := by omega
    have e2 : os.length ≤ 20 := by omega
    simp [e1, e2]
  repeat refine St (And.intro h1 <| h2) ct42 ?_
  refine AWP.loop (G := { i : Nat // i ≤ os.length ∧ (os.take i).all scrOk = true }) (fun i => ⟨[(1, .ptr 0 0 []), (3, .t (.int .i64 (i.1 : Int)))], [.bx (.t (.st [.int .u32 (v.toNat : Int), .sq 35 (is.map inT), .sq 2 (os.map outT), .int .u32 (k.toNat : Int)]))]⟩) (fun i => os.length - i.1) ⟨0, by omega, rfl⟩ (Wt trivial [1, 3] [0]) ?_
  intro ⟨i, hi, ha⟩
  dsimp only
  by_cases hlt : (i : Int) < (os.length : Int)
  · have hlt' : i < os.length := by omega
    have hget := out_getD os i hlt'
    have hal := all_take scrOk dOut os i hlt'
    have hbad := all_getD scrOk dOut os i hlt'
    generalize os.getD i dOut = x at *
    by_cases hb : 1000 < (x.scr.length : Int)
    · have hx : scrOk x = false := decide_eq_false (by omega)
      have e : c = false := by rw [hcb', hbad hx]; rfl
      subst e
      repeat refine St (And.intro hlt <| And.intro hlt' <| And.intro hget <| And.intro @outT.eq_def <| hb) ct42 ?_
      exact AWP.ret (Fin trivial [] [])
    · have hx : scrOk x = true := decide_eq_true (by omega)
      rw [ha, hx] at hal
      repeat refine St (And.intro hlt <| And.intro hlt' <| And.intro hget <| And.intro @outT.eq_def <| hb) ct42 ?_
      exact ⟨⟨i + 1, by omega, by rw [hal]; rfl⟩, (Wt trivial [1, 3] [0]), by simp only; omega⟩
  obtain rfl : i = os.length := by omega
  rw [List.take_length] at ha
  rw [ha, Bool.true_and] at hcb'
  repeat refine St hlt ct42 ?_
  refine AWP.loop (G := { i : Nat // i ≤ is.length ∧ (is.take i).all witOk = true }) (fun i => ⟨[(1, .ptr 0 0 []), (4, .t (.int .i64 (i.1 : Int)))], [.bx (.t (.st [.int .u32 (v.toNat : Int), .sq 35 (is.map inT), .sq 2 (os.map outT), .int .u32 (k.toNat : Int)]))]⟩) (fun i => is.length - i.1) ⟨0, by omega, rfl⟩ (Wt trivial [1, 4] [0]) ?_
  intro ⟨i, hi, hai⟩
  dsimp only
  by_cases hlti : (i : Int) < (is.length : Int)
  · have hlt' : i < is.length := by omega
    have hget := in_getD is i hlt'
    have hal := all_take witOk dIn is i hlt'
    have hbad := all_getD witOk dIn is i hlt'
    generalize is.getD i dIn = x at *
    have hxe : witOk x = (decide (x.wit.length ≤ 30) && x.wit.all fun y => decide (y.length ≤ 1000)) := rfl
    by_cases h30 : 30 < (x.wit.length : Int)
    · have e : c = false := by rw [hcb', hbad (by rw [hxe]; have : ¬ x.wit.length ≤ 30 := by omega
                                                  simp [this])]
      subst e
      repeat refine St (And.intro hlti <| And.intro hlt' <| And.intro hget <| And.intro @inT.eq_def <| And.intro @refT.eq_def <| h30) ct42 ?_
      exact AWP.ret (Fin trivial [] [])
    have h30' : decide (x.wit.length ≤ 30) = true := decide_eq_true (by omega)
    rw [h30', Bool.true_and] at hxe
    repeat refine St (And.intro hlti <| And.intro hlt' <| And.intro hget <| And.intro @inT.eq_def <| And.intro @refT.eq_def <| h30) ct42 ?_
    refine AWP.loop (G := { j : Nat // j ≤ x.wit.length ∧ (x.wit.take j).all (fun y => decide (y.length ≤ 1000)) = true }) (fun j => ⟨[(1, .ptr 0 0 []), (4, .t (.int .i64 (i : Int))), (5, .t (.int .i64 (j.1 : Int)))], [.bx (.t (.st [.int .u32 (v.toNat : Int), .sq 35 (is.map inT), .sq 2 (os.map outT), .int .u32 (k.toNat : Int)]))]⟩) (fun j => x.wit.length - j.1) ⟨0, by omega, rfl⟩ (Wt trivial [1, 4, 5] [0]) ?_
    intro ⟨j, hj, haj⟩
    dsimp only
    by_cases hltj : (j : Int) < (x.wit.length : Int)
    · have hltj' : j < x.wit.length := by omega
      have hgetj := map_getD x.wit j hltj'
      have halj := all_take (fun y : List UInt8 => decide (y.length ≤ 1000)) [] x.wit j hltj'
      have hbadj := all_getD (fun y : List UInt8 => decide (y.length ≤ 1000)) [] x.wit j hltj'
      generalize x.wit.getD j [] = y at *
      by_cases hb : 1000 < (y.length : Int)
      · have hx : decide (y.length ≤ 1000) = false := decide_eq_false (by omega)
        have e : c = false := by rw [hcb', hbad (by rw [hxe]; exact hbadj hx)]
        subst e
        repeat refine St (And.intro hlti <| And.intro hlt' <| And.intro hget <| And.intro @inT.eq_def <| And.intro @refT.eq_def <| And.intro hltj <| And.intro hltj' <| And.intro hgetj <| hb) ct42 ?_
        exact AWP.ret (Fin trivial [] [])
      · have hx : decide (y.length ≤ 1000) = true := decide_eq_true (by omega)
        rw [haj, hx] at halj
        repeat refine St (And.intro hlti <| And.intro hlt' <| And.intro hget <| And.intro @inT.eq_def <| And.intro @refT.eq_def <| And.intro hltj <| And.intro hltj' <| And.intro hgetj <| hb) ct42 ?_
        exact ⟨⟨j + 1, by omega, by rw [halj]; rfl⟩, (Wt trivial [1, 4, 5] [0]), by simp only; omega⟩
    obtain rfl : j = x.wit.length := by omega
    rw [List.take_length] at haj
    rw [haj] at hxe
    rw [hai, hxe] at hal
    repeat refine St (And.intro hlti <| And.intro hlt' <| And.intro hget <| And.intro @inT.eq_def <| And.intro @refT.eq_def <| hltj) ct42 ?_
    exact ⟨⟨i + 1, by omega, by rw [hal]; rfl⟩, (Wt trivial [1, 4] [0]), by simp only; omega⟩
  obtain rfl : i = is.length := by omega
  rw [List.take_length] at hai
  rw [hai] at hcb'
  subst hcb'
  repeat refine St hlti ct42 ?_
  exact AWP.ret (Fin trivial [] [])

theorem rcounts_c (t : TTx) : F42 [txT t] = some ([], .t (.bool (countsB t))) := by
  simp only [F42, inv_of txT_inj]

noncomputable def F12 : Fun
  | [y] => match inv txT y with
    | some t => some ([], .t (.bool (smallT t)))
    | none => none
  | _ => none

theorem ct12 : CT [] [0, 1, 2, 3, 4, 5, 15, 20, 30, 35, 45, 54, 67] [] := ⟨GClOk.nil _⟩

set_option maxHeartbeats 1000000 in
theorem c12 : ACon Try.prog 12 F12 := by
  refine aconc E_ok (rs := [.tmp 2 4]) Try.func12 rfl Try.ntmps12 (by kernel_rfl) rfl (by decide) F12 (np := 1) ?_ ?_
  · intro ts h; unfold F12; split <;> first | rfl | (simp at h; done)
  intro ts H r hF hwf
  unfold F12 at hF
  split at hF <;> try (cases hF; done)
  split at hF <;> try (cases hF; done)
  rename_i t ht
  cases hF
  obtain rfl := inv_inv ht
  have hcb := smallT_eq t
  obtain ⟨c, hc⟩ : ∃ c, smallT t = c := ⟨_, rfl⟩
  rw [hc] at hcb
  rw [hc]
  obtain ⟨v, is, os, k⟩ := t
  dsimp only at hcb
  have hyu : txT ⟨v, is, os, k⟩ = .st [.int .u32 (v.toNat : Int), .sq 35 (is.map inT), .sq 2 (os.map outT), .int .u32 (k.toNat : Int)] := rfl
  rw [hyu]
  by_cases h1 : 6 < (is.length : Int)
  · have e : c = false := by rw [hcb]; have : ¬ is.length ≤ 6 := by omega
                             simp [this]
    subst e
    repeat refine St h1 ct12 ?_
    exact AWP.ret (Fin trivial [] [])
  by_cases h2 : 6 < (os.length : Int)
  · have e : c = false := by rw [hcb]; have : ¬ os.length ≤ 6 := by omega
                             simp [this]
    subst e
    repeat refine St (And.intro h1 <| h2) ct12 ?_
    exact AWP.ret (Fin trivial [] [])
  have hcb' : c = (os.all scrS && is.all witS) := by
    rw [hcb]
    have e1 : is.length ≤ 6 := by omega
    have e2 : os.length ≤ 6 := by omega
    simp [e1, e2]
  repeat refine St (And.intro h1 <| h2) ct12 ?_
  refine AWP.loop (G := { i : Nat // i ≤ os.length ∧ (os.take i).all scrS = true }) (fun i => ⟨[(1, .ptr 0 0 []), (3, .t (.int .i64 (i.1 : Int)))], [.bx (.t (.st [.int .u32 (v.toNat : Int), .sq 35 (is.map inT), .sq 2 (os.map outT), .int .u32 (k.toNat : Int)]))]⟩) (fun i => os.length - i.1) ⟨0, by omega, rfl⟩ (Wt trivial [1, 3] [0]) ?_
  intro ⟨i, hi, ha⟩
  dsimp only
  by_cases hlt : (i : Int) < (os.length : Int)
  · have hlt' : i < os.length := by omega
    have hget := out_getD os i hlt'
    have hal := all_take scrS dOut os i hlt'
    have hbad := all_getD scrS dOut os i hlt'
    generalize os.getD i dOut = x at *
    by_cases hb : 600 < (x.scr.length : Int)
    · have hx : scrS x = false := decide_eq_false (by omega)
      have e : c = false := by rw [hcb', hbad hx]; rfl
      subst e
      repeat refine St (And.intro hlt <| And.intro hlt' <| And.intro hget <| And.intro @outT.eq_def <| hb) ct12 ?_
      exact AWP.ret (Fin trivial [] [])
    · have hx : scrS x = true := decide_eq_true (by omega)
      rw [ha, hx] at hal
      repeat refine St (And.intro hlt <| And.intro hlt' <| And.intro hget <| And.intro @outT.eq_def <| hb) ct12 ?_
      exact ⟨⟨i + 1, by omega, by rw [hal]; rfl⟩, (Wt trivial [1, 3] [0]), by simp only; omega⟩
  obtain rfl : i = os.length := by omega
  rw [List.take_length] at ha
  rw [ha, Bool.true_and] at hcb'
  repeat refine St hlt ct12 ?_
  refine AWP.loop (G := { i : Nat // i ≤ is.length ∧ (is.take i).all witS = true }) (fun i => ⟨[(1, .ptr 0 0 []), (4, .t (.int .i64 (i.1 : Int)))], [.bx (.t (.st [.int .u32 (v.toNat : Int), .sq 35 (is.map inT), .sq 2 (os.map outT), .int .u32 (k.toNat : Int)]))]⟩) (fun i => is.length - i.1) ⟨0, by omega, rfl⟩ (Wt trivial [1, 4] [0]) ?_
  intro ⟨i, hi, hai⟩
  dsimp only
  by_cases hlti : (i : Int) < (is.length : Int)
  · have hlt' : i < is.length := by omega
    have hget := in_getD is i hlt'
    have hal := all_take witS dIn is i hlt'
    have hbad := all_getD witS dIn is i hlt'
    generalize is.getD i dIn = x at *
    have hxe : witS x = (decide (x.wit.length ≤ 6) && x.wit.all fun y => decide (y.length ≤ 600)) := rfl
    by_cases h30 : 6 < (x.wit.length : Int)
    · have e : c = false := by rw [hcb', hbad (by rw [hxe]; have : ¬ x.wit.length ≤ 6 := by omega
                                                  simp [this])]
      subst e
      repeat refine St (And.intro hlti <| And.intro hlt' <| And.intro hget <| And.intro @inT.eq_def <| And.intro @refT.eq_def <| h30) ct12 ?_
      exact AWP.ret (Fin trivial [] [])
    have h30' : decide (x.wit.length ≤ 6) = true := decide_eq_true (by omega)
    rw [h30', Bool.true_and] at hxe
    repeat refine St (And.intro hlti <| And.intro hlt' <| And.intro hget <| And.intro @inT.eq_def <| And.intro @refT.eq_def <| h30) ct12 ?_
    refine AWP.loop (G := { j : Nat // j ≤ x.wit.length ∧ (x.wit.take j).all (fun y => decide (y.length ≤ 600)) = true }) (fun j => ⟨[(1, .ptr 0 0 []), (4, .t (.int .i64 (i : Int))), (5, .t (.int .i64 (j.1 : Int)))], [.bx (.t (.st [.int .u32 (v.toNat : Int), .sq 35 (is.map inT), .sq 2 (os.map outT), .int .u32 (k.toNat : Int)]))]⟩) (fun j => x.wit.length - j.1) ⟨0, by omega, rfl⟩ (Wt trivial [1, 4, 5] [0]) ?_
    intro ⟨j, hj, haj⟩
    dsimp only
    by_cases hltj : (j : Int) < (x.wit.length : Int)
    · have hltj' : j < x.wit.length := by omega
      have hgetj := map_getD x.wit j hltj'
      have halj := all_take (fun y : List UInt8 => decide (y.length ≤ 600)) [] x.wit j hltj'
      have hbadj := all_getD (fun y : List UInt8 => decide (y.length ≤ 600)) [] x.wit j hltj'
      generalize x.wit.getD j [] = y at *
      by_cases hb : 600 < (y.length : Int)
      · have hx : decide (y.length ≤ 600) = false := decide_eq_false (by omega)
        have e : c = false := by rw [hcb', hbad (by rw [hxe]; exact hbadj hx)]
        subst e
        repeat refine St (And.intro hlti <| And.intro hlt' <| And.intro hget <| And.intro @inT.eq_def <| And.intro @refT.eq_def <| And.intro hltj <| And.intro hltj' <| And.intro hgetj <| hb) ct12 ?_
        exact AWP.ret (Fin trivial [] [])
      · have hx : decide (y.length ≤ 600) = true := decide_eq_true (by omega)
        rw [haj, hx] at halj
        repeat refine St (And.intro hlti <| And.intro hlt' <| And.intro hget <| And.intro @inT.eq_def <| And.intro @refT.eq_def <| And.intro hltj <| And.intro hltj' <| And.intro hgetj <| hb) ct12 ?_
        exact ⟨⟨j + 1, by omega, by rw [halj]; rfl⟩, (Wt trivial [1, 4, 5] [0]), by simp only; omega⟩
    obtain rfl : j = x.wit.length := by omega
    rw [List.take_length] at haj
    rw [haj] at hxe
    rw [hai, hxe] at hal
    repeat refine St (And.intro hlti <| And.intro hlt' <| And.intro hget <| And.intro @inT.eq_def <| And.intro @refT.eq_def <| hltj) ct12 ?_
    exact ⟨⟨i + 1, by omega, by rw [hal]; rfl⟩, (Wt trivial [1, 4] [0]), by simp only; omega⟩
  obtain rfl : i = is.length := by omega
  rw [List.take_length] at hai
  rw [hai] at hcb'
  subst hcb'
  repeat refine St hlti ct12 ?_
  exact AWP.ret (Fin trivial [] [])

theorem rSmall_c (t : TTx) : F12 [txT t] = some ([], .t (.bool (smallT t))) := by
  simp only [F12, inv_of txT_inj]

noncomputable def F56 : Fun
  | [y] => match inv txT y with
    | some t => @ite _ (countsB t = true) (Classical.propDecidable _) (some ([.by (bareB t)], .own 0)) none
    | none => none
  | _ => none

theorem ct56 : CT [(31, ⟨[false, false, false], treeG F31⟩), (34, ⟨[false, false], treeG F34⟩), (53, ⟨[false, false], treeG F53⟩)] [0, 1, 2, 3, 4, 5, 20, 61] [] := ⟨(.cons c31.g (.cons c34.g (.cons c53.g (.nil _))))⟩

theorem rput4 (b : List UInt8) (n : UInt32) (h : b.length ≤ 549755812000) : F31 [.by b, .int .u64 (n.toNat : Int), .int .i64 4] = some ([.by (b ++ le 4 (n.toNat : Int))], .own 0) := put_c (n.toNat : Int) 4 (by omega) (by omega) (by omega)
theorem rput8 (b : List UInt8) (n : UInt64) (h : b.length ≤ 549755812000) : F31 [.by b, .int .u64 (n.toNat : Int), .int .i64 8] = some ([.by (b ++ le 8 (n.toNat : Int))], .own 0) := put_c (n.toNat : Int) 8 (by omega) (by omega) (by omega)
theorem rputsize (b : List UInt8) (n : Int) (h : b.length ≤ 549755812000) : F53 [.by b, .int .u64 n] = some ([.by (b ++ sizeB n)], .own 0) := if_pos h
theorem rputbytes (b x : List UInt8) (h : b.length + x.length ≤ 549755800000) : F34 [.by b, .by x] = some ([.by (b ++ sizeB x.length ++ x)], .own 0) := if_pos h
theorem rputlist (b : List UInt8) (l : List (List UInt8)) (h : b.length + (flat l).length ≤ 549755700000) : F57 [.by b, .sq 1 (l.map .by)] = some ([.by (b ++ sizeB l.length ++ flat l)], .own 0) := by
  simp only [F57, asBys_map]; exact if_pos h
theorem u32u64 (n : UInt32) : IntKind.u64.wrap (n.toNat : Int) = (n.toNat : Int) := by have := n.toNat_lt; exact wrap_u64 (by omega) (by omega)

set_option maxHeartbeats 2000000 in
theorem c56 : ACon Try.prog 56 F56 := by
  refine aconc E_ok (rs := [.tmp 2 24]) Try.func56 rfl Try.ntmps56 (by kernel_rfl) rfl (by decide) F56 (np := 1) ?_ ?_
  · intro ts h; unfold F56; split <;> first | rfl | (simp at h; done)
  intro ts H r hF hwf
  unfold F56 at hF
  split at hF <;> try (cases hF; done)
  split at hF <;> try (cases hF; done)
  rename_i t ht
  split at hF
  case isFalse => cases hF
  rename_i hc
  have hc := hc
  cases hF
  obtain rfl := inv_inv ht
  obtain ⟨c1, c2, c3, c4⟩ := countsB_ok hc
  obtain ⟨v, is, os, k⟩ := t
  dsimp only at c1 c2 c3 c4
  have hp := rput4 [] v (by simp)
  have hs := rputsize (le 4 (v.toNat : Int)) is.length (by simp [le_len])
  simp only [List.nil_append] at hp
  have hw : IntKind.u64.wrap (is.length : Int) = (is.length : Int) := wrap_u64 (by omega) (by omega)
  have hw2 : IntKind.u64.wrap (os.length : Int) = (os.length : Int) := wrap_u64 (by omega) (by omega)
  have hsl := sizeB_len (is.length : Int)
  have hsl2 := sizeB_len (os.length : Int)
  have hyu : txT ⟨v, is, os, k⟩ = .st [.int .u32 (v.toNat : Int), .sq 35 (is.map inT), .sq 2 (os.map outT), .int .u32 (k.toNat : Int)] := rfl
  rw [hyu]
  repeat refine St (And.intro hp <| And.intro hs <| And.intro hw <| @u32u64) ct56 ?_
  refine AWP.loop (G := { i : Nat // i ≤ is.length }) (fun i => ⟨[(1, .ptr 0 0 []), (3, .own 1), (4, .t (.int .i64 (i.1 : Int)))], [.bx (.t (.st [.int .u32 (v.toNat : Int), .sq 35 (is.map inT), .sq 2 (os.map outT), .int .u32 (k.toNat : Int)])), .by (le 4 (v.toNat : Int) ++ sizeB is.length ++ cat tInB (is.take i.1))]⟩) (fun i => is.length - i.1) ⟨0, by omega⟩ (Wt (And.intro @cat_nil <| @List.take_zero.{0}) [1, 3, 4] [0, 2]) ?_
  intro ⟨i, hi⟩
  dsimp only
  have hcl := cat_in_len (is.take i)
  have hil : (is.take i).length = i := by simp; omega
  have h4 := le_len 4 (v.toNat : Int)
  by_cases hlt : (i : Int) < (is.length : Int)
  · have hlt' : i < is.length := by omega
    have hget := in_getD is i hlt'
    have hcat := cat_take tInB dIn is i hlt'
    generalize is.getD i dIn = x at *
    have hbl : (le 4 (v.toNat : Int) ++ sizeB is.length ++ cat tInB (is.take i)).length ≤ 2000 := by simp only [List.length_append]; omega
    have p1 := rput4 (le 4 (v.toNat : Int) ++ sizeB is.length ++ cat tInB (is.take i) ++ x.prev.1) x.idx (by rw [List.length_append, x.prev.2]; omega)
    have p2 := rput4 (le 4 (v.toNat : Int) ++ sizeB is.length ++ cat tInB (is.take i) ++ x.prev.1 ++ le 4 (x.idx.toNat : Int)) x.seq (by rw [List.length_append, List.length_append, x.prev.2, le_len]; omega)
    have h32 := x.prev.2
    have htk := take32 x.prev
    have hin : tInB x = x.prev.1 ++ le 4 (x.idx.toNat : Int) ++ le 4 (x.seq.toNat : Int) := rfl
    repeat refine St (And.intro hlt <| And.intro hlt' <| And.intro hget <| And.intro @inT.eq_def <| And.intro @refT.eq_def <| And.intro h32 <| And.intro htk <| And.intro hbl <| And.intro p1 <| And.intro p2 <| @u32u64) ct56 ?_
    exact ⟨⟨i + 1, by omega⟩, (Wt (And.intro hcat <| And.intro hin <| @List.append_assoc.{0}) [1, 3, 4] [0, 4]), by simp only; omega⟩
  obtain rfl : i = is.length := by omega
  rw [List.take_length]
  rw [List.take_length] at hcl
  obtain ⟨A, hA⟩ : ∃ A, le 4 (v.toNat : Int) ++ sizeB is.length ++ cat tInB is = A := ⟨_, rfl⟩
  have hAl : A.length ≤ 2000 := by rw [← hA]; simp only [List.length_append]; omega
  rw [hA]
  have hps := rputsize A os.length (by omega)
  repeat refine St (And.intro hlt <| And.intro hps <| hw2) ct56 ?_
  refine AWP.loop (G := { i : Nat // i ≤ os.length }) (fun i => ⟨[(1, .ptr 0 0 []), (3, .own 1), (5, .t (.int .i64 (i.1 : Int)))], [.bx (.t (.st [.int .u32 (v.toNat : Int), .sq 35 (is.map inT), .sq 2 (os.map outT), .int .u32 (k.toNat : Int)])), .by (A ++ sizeB os.length ++ cat tOutB (os.take i.1))]⟩) (fun i => os.length - i.1) ⟨0, by omega⟩ (Wt (And.intro @cat_nil <| @List.take_zero.{0}) [1, 3, 5] [0, 2]) ?_
  intro ⟨i, hi⟩
  dsimp only
  have hcl2 := scr_cat os i c3 c2
  by_cases hlt : (i : Int) < (os.length : Int)
  · have hlt' : i < os.length := by omega
    have hget := out_getD os i hlt'
    have hcat := cat_take tOutB dOut os i hlt'
    have hscr : (os.getD i dOut).scr.length ≤ 1000 := c3 _ (by simp [hlt'])
    generalize os.getD i dOut = x at *
    have p1 := rput8 (A ++ sizeB os.length ++ cat tOutB (os.take i)) x.val (by simp only [List.length_append]; omega)
    have p2 := rputbytes (A ++ sizeB os.length ++ cat tOutB (os.take i) ++ le 8 (x.val.toNat : Int)) x.scr (by simp only [List.length_append, le_len]; omega)
    have hin : tOutB x = le 8 (x.val.toNat : Int) ++ (sizeB x.scr.length ++ x.scr) := rfl
    repeat refine St (And.intro hlt <| And.intro hlt' <| And.intro hget <| And.intro @outT.eq_def <| And.intro p1 <| p2) ct56 ?_
    exact ⟨⟨i + 1, by omega⟩, (Wt (And.intro hcat <| And.intro hin <| @List.append_assoc.{0}) [1, 3, 5] [0, 3]), by simp only; omega⟩
  obtain rfl : i = os.length := by omega
  rw [List.take_length]
  rw [List.take_length] at hcl2
  have p1 := rput4 (A ++ sizeB os.length ++ cat tOutB os) k (by simp only [List.length_append]; omega)
  have hb : bareB ⟨v, is, os, k⟩ = A ++ sizeB os.length ++ cat tOutB os ++ le 4 (k.toNat : Int) := by unfold bareB; rw [← hA]
  repeat refine St (And.intro hlt <| And.intro p1 <| @u32u64) ct56 ?_
  exact AWP.ret (Fin hb [] [2])

theorem rbare_c {t : TTx} (h : countsB t = true) : F56 [txT t] = some ([.by (bareB t)], .own 0) := by
  simp only [F56, inv_of txT_inj]; exact if_pos h

noncomputable def F43 : Fun
  | [y] => match inv txT y with
    | some t => @ite _ (countsB t = true) (Classical.propDecidable _) (some ([.by (wholeB t)], .own 0)) none
    | none => none
  | _ => none

theorem ct43 : CT [(56, ⟨[false], treeG F56⟩), (57, ⟨[false, false], treeG F57⟩)] [0, 1, 2, 3, 4, 11] [] := ⟨(.cons c56.g (.cons c57.g (.nil _)))⟩

set_option maxHeartbeats 1000000 in
theorem c43 : ACon Try.prog 43 F43 := by
  refine aconc E_ok (rs := [.tmp 2 24]) Try.func43 rfl Try.ntmps43 (by kernel_rfl) rfl (by decide) F43 (np := 1) ?_ ?_
  · intro ts h; unfold F43; split <;> first | rfl | (simp at h; done)
  intro ts H r hF hwf
  unfold F43 at hF
  split at hF <;> try (cases hF; done)
  split at hF <;> try (cases hF; done)
  rename_i t ht
  split at hF
  case isFalse => cases hF
  rename_i hc
  have hc := hc
  cases hF
  obtain rfl := inv_inv ht
  have hb := rbare_c hc
  obtain ⟨hbl, hwl⟩ := counts_len hc
  have hcw : ∀ i, (cat witB (t.ins.take i)).length ≤ (wholeB t).length := fun i => by
    have := cat_take_le witB t.ins i
    unfold wholeB; rw [List.length_append]; omega
  have hwh : wholeB t = bareB t ++ cat witB t.ins := rfl
  obtain ⟨c1, c2, c3, c4⟩ := countsB_ok hc
  generalize bareB t = B at *
  generalize wholeB t = W0 at *
  obtain ⟨v, is, os, k⟩ := t
  dsimp only at c1 c2 c3 c4 hcw hwh
  have hyu : txT ⟨v, is, os, k⟩ = .st [.int .u32 (v.toNat : Int), .sq 35 (is.map inT), .sq 2 (os.map outT), .int .u32 (k.toNat : Int)] := rfl
  rw [hyu] at hb
  rw [hyu]
  repeat refine St hb ct43 ?_
  refine AWP.loop (G := { i : Nat // i ≤ is.length }) (fun i => ⟨[(1, .ptr 0 0 []), (3, .own 1), (4, .t (.int .i64 (i.1 : Int)))], [.bx (.t (.st [.int .u32 (v.toNat : Int), .sq 35 (is.map inT), .sq 2 (os.map outT), .int .u32 (k.toNat : Int)])), .by (B ++ cat witB (is.take i.1))]⟩) (fun i => is.length - i.1) ⟨0, by omega⟩ (Wt (And.intro @cat_nil <| @List.take_zero.{0}) [1, 3, 4] [0, 1]) ?_
  intro ⟨i, hi⟩
  dsimp only
  have hci := hcw i
  by_cases hlt : (i : Int) < (is.length : Int)
  · have hlt' : i < is.length := by omega
    have hget := in_getD is i hlt'
    have hcat := cat_take witB dIn is i hlt'
    have hwx := c4 (is.getD i dIn) (by simp [hlt'])
    generalize is.getD i dIn = x at *
    have hfx := flat_le 1000 x.wit hwx.2
    have hfx2 : (flat x.wit).length ≤ 30 * 1009 := Nat.le_trans hfx (Nat.mul_le_mul_right _ hwx.1)
    have p1 := rputlist (B ++ cat witB (is.take i)) x.wit (by simp only [List.length_append]; omega)
    have hin : witB x = sizeB x.wit.length ++ flat x.wit := rfl
    repeat refine St (And.intro hlt <| And.intro hlt' <| And.intro hget <| And.intro @inT.eq_def <| And.intro @refT.eq_def <| p1) ct43 ?_
    exact ⟨⟨i + 1, by omega⟩, (Wt (And.intro hcat <| And.intro hin <| @List.append_assoc.{0}) [1, 3, 4] [0, 2]), by simp only; omega⟩
  obtain rfl : i = is.length := by omega
  rw [List.take_length]
  repeat refine St hlt ct43 ?_
  exact AWP.ret (Fin hwh [] [1])

theorem rwhole_c {t : TTx} (h : countsB t = true) : F43 [txT t] = some ([.by (wholeB t)], .own 0) := by
  simp only [F43, inv_of txT_inj]; exact if_pos h

noncomputable def F22 : Fun
  | [y] => match inv txT y with
    | some t => some ([], .t (.int .i64 (chkE t)))
    | none => none
  | _ => none

theorem ct22 : CT [(42, ⟨[false], treeG F42⟩), (43, ⟨[false], treeG F43⟩)] [0, 1, 2, 5, 9] [] := ⟨(.cons c42.g (.cons c43.g (.nil _)))⟩

theorem c22 : ACon Try.prog 22 F22 := by
  refine aconc E_ok (rs := [.tmp 2 36]) Try.func22 rfl Try.ntmps22 (by kernel_rfl) rfl (by decide) F22 (np := 1) ?_ ?_
  · intro ts h; unfold F22; split <;> first | rfl | (simp at h; done)
  intro ts H r hF hwf
  unfold F22 at hF
  split at hF <;> try (cases hF; done)
  split at hF <;> try (cases hF; done)
  rename_i t ht
  cases hF
  obtain rfl := inv_inv ht
  have h1 := rcounts_c t
  rcases chk_cases t with ⟨e1, e2⟩ | ⟨e1, e2, e3⟩ | ⟨e1, e2, e3⟩
  · rw [e1] at h1
    rw [txT_st] at h1 ⊢
    repeat refine St h1 ct22 ?_
    exact AWP.ret (Fin e2 [] [])
  · have h2 := rwhole_c e1
    rw [e1] at h1
    rw [txT_st] at h1 h2 ⊢
    generalize wholeB t = w0 at *
    have h3 : 12000 < (w0.length : Int) := by omega
    repeat refine St (And.intro h1 <| And.intro h2 <| h3) ct22 ?_
    exact AWP.ret (Fin e3 [] [])
  · have h2 := rwhole_c e1
    rw [e1] at h1
    rw [txT_st] at h1 h2 ⊢
    generalize wholeB t = w0 at *
    have h3 : ¬ 12000 < (w0.length : Int) := by omega
    repeat refine St (And.intro h1 <| And.intro h2 <| h3) ct22 ?_
    exact AWP.ret (Fin e3 [] [])

theorem rcheck_c (t : TTx) : F22 [txT t] = some ([], .t (.int .i64 (chkE t))) := by
  simp only [F22, inv_of txT_inj]


end Go.Fw

end

section
/- digest's answer: the parts, whether a spending may be, templates. -/
namespace Go.Fw
open Go Go.Proofs
set_option linter.unusedVariables false
set_option linter.unusedSimpArgs false

theorem take32h (h : H32) : h.1.take 32 = h.1 := List.take_of_length_le (by have := h.2; omega)

noncomputable def F16 : Fun
  | [y] => match inv txT y with
    | some t => if t.ins.length ≤ 1000000 ∧ (cat tOutB t.outs).length ≤ 100000000 then some ([], .t (partT t)) else none
    | none => none
  | _ => none

theorem ct16 : CT [(31, ⟨[false, false, false], treeG F31⟩), (32, ⟨[false], treeG F32⟩), (34, ⟨[false, false], treeG F34⟩)] [0, 1, 2, 3, 4, 5, 6, 7, 15, 50] [] := ⟨(.cons c31.g (.cons c32.g (.cons c34.g (.nil _))))⟩

set_option maxHeartbeats 2000000 in
theorem c16 : ACon Try.prog 16 F16 := by
  refine aconc E_ok (rs := [.cell 2 39]) Try.func16 rfl Try.ntmps16 (by kernel_rfl) rfl (by decide) F16 (np := 1) ?_ ?_
  · intro ts h; unfold F16; split <;> first | rfl | (simp at h; done)
  intro ts H r hF hwf
  unfold F16 at hF
  split at hF <;> try (cases hF; done)
  split at hF <;> try (cases hF; done)
  rename_i t ht
  split at hF
  case isFalse => cases hF
  rename_i hb
  cases hF
  obtain rfl := inv_inv ht
  have hol : t.outs.length ≤ maxLen := by
    have h1 : (txT t).wf := hwf (txT t) (by simp)
    simp only [txT_st, T.wf, T.wfL] at h1
    simpa using h1.2.2.1.2.1
  unfold maxLen at hol
  obtain ⟨hb1, hb2⟩ := hb
  rw [partT_eq, txT_st]
  unfold refsL seqsL outsL
  obtain ⟨v, is, os, k⟩ := t
  dsimp only at hb1 hb2 hol ⊢
  have hlr := cat_lenE refB9 36 refB9_len
  have hls := cat_lenE seqB9 4 seqB9_len
  repeat refine St trivial ct16 ?_
  refine AWP.loop (G := { i : Nat // i ≤ is.length }) (fun i => ⟨[(1, .ptr 0 0 []), (2, .ptr 1 0 []), (3, .own 2), (4, .own 3), (5, .own 4), (6, .t (.int .i64 (i.1 : Int)))], [.bx (.t (.st [.int .u32 (v.toNat : Int), .sq 35 (is.map inT), .sq 2 (os.map outT), .int .u32 (k.toNat : Int)])), .bx (.t (.ar 3 32 [.ba 32 (zby 32), .ba 32 (zby 32), .ba 32 (zby 32)])), .by (cat refB9 (is.take i.1)), .by (cat seqB9 (is.take i.1)), .by []]⟩) (fun i => is.length - i.1) ⟨0, by omega⟩ (Wt (And.intro @cat_nil <| @List.take_zero.{0}) [1, 2, 3, 4, 5, 6] [0, 1, 2, 3, 4]) ?_
  intro ⟨i, hi⟩
  dsimp only
  by_cases hlt : (i : Int) < (is.length : Int)
  · have hlt' : i < is.length := by omega
    have hget := in_getD is i hlt'
    have hcr := cat_take refB9 dIn is i hlt'
    have hcs := cat_take seqB9 dIn is i hlt'
    have hR := hlr (is.take i)
    have hS := hls (is.take i)
    rw [List.length_take, Nat.min_eq_left (by omega)] at hR hS
    generalize is.getD i dIn = x at *
    generalize cat refB9 (is.take i) = A at *
    generalize cat seqB9 (is.take i) = B at *
    have p1 := rput4 (A ++ x.prev.1) x.idx (by rw [List.length_append, x.prev.2]; omega)
    have p2 := rput4 B x.seq (by omega)
    have h32 := x.prev.2
    have htk := take32h x.prev
    have hAl : A.length ≤ 100000000 := by omega
    have e1 : A ++ x.prev.1 ++ le 4 (x.idx.toNat : Int) = cat refB9 (is.take (i + 1)) := by rw [hcr]; simp only [refB9, List.append_assoc]
    have e2 : B ++ le 4 (x.seq.toNat : Int) = cat seqB9 (is.take (i + 1)) := by rw [hcs]; rfl
    repeat refine St (And.intro hlt <| And.intro hlt' <| And.intro hget <| And.intro @inT.eq_def <| And.intro @refT.eq_def <| And.intro h32 <| And.intro htk <| And.intro hAl <| And.intro p1 <| And.intro p2 <| @u32u64) ct16 ?_
    exact ⟨⟨i + 1, by omega⟩, (Wt (And.intro e1 <| e2) [1, 2, 3, 4, 5, 6] [0, 1, 6, 7, 4]), by simp only; omega⟩
  obtain rfl : i = is.length := by omega
  rw [List.take_length]
  have hR := hlr is
  have hS := hls is
  generalize cat refB9 is = A at *
  generalize cat seqB9 is = B at *
  repeat refine St hlt ct16 ?_
  refine AWP.loop (G := { i : Nat // i ≤ os.length }) (fun i => ⟨[(1, .ptr 0 0 []), (2, .ptr 1 0 []), (3, .own 2), (4, .own 3), (5, .own 4), (7, .t (.int .i64 (i.1 : Int)))], [.bx (.t (.st [.int .u32 (v.toNat : Int), .sq 35 (is.map inT), .sq 2 (os.map outT), .int .u32 (k.toNat : Int)])), .bx (.t (.ar 3 32 [.ba 32 (zby 32), .ba 32 (zby 32), .ba 32 (zby 32)])), .by A, .by B, .by (cat tOutB (os.take i.1))]⟩) (fun i => os.length - i.1) ⟨0, by omega⟩ (Wt (And.intro @cat_nil <| @List.take_zero.{0}) [1, 2, 3, 4, 5, 7] [0, 1, 2, 3, 4]) ?_
  clear hlt
  intro ⟨i, hi⟩
  dsimp only
  by_cases hlt : (i : Int) < (os.length : Int)
  · have hlt' : i < os.length := by omega
    have hget := out_getD os i hlt'
    have hct := cat_take tOutB dOut os i hlt'
    have hM := cat_take_le tOutB os i
    have hx := at_cat tOutB dOut os i hlt'
    generalize os.getD i dOut = x at *
    generalize cat tOutB (os.take i) = M at *
    have hxs : x.scr.length ≤ (tOutB x).length := by simp [tOutB]; omega
    have p1 := rput8 M x.val (by omega)
    have p2 := rputbytes (M ++ le 8 (x.val.toNat : Int)) x.scr (by rw [List.length_append, le_len]; omega)
    have e1 : M ++ le 8 (x.val.toNat : Int) ++ sizeB x.scr.length ++ x.scr = cat tOutB (os.take (i + 1)) := by rw [hct]; simp only [tOutB, List.append_assoc]
    repeat refine St (And.intro hlt <| And.intro hlt' <| And.intro hget <| And.intro @outT.eq_def <| And.intro p1 <| p2) ct16 ?_
    exact ⟨⟨i + 1, by omega⟩, (Wt e1 [1, 2, 3, 4, 5, 7] [0, 1, 2, 3, 6]), by simp only; omega⟩
  obtain rfl : i = os.length := by omega
  rw [List.take_length]
  generalize cat tOutB os = M at *
  have g1 := refsum_c (b := A) (by omega)
  have g2 := refsum_c (b := B) (by omega)
  have g3 := refsum_c (b := M) (by omega)
  have l1 := shaL_len A
  have l2 := shaL_len B
  have l3 := shaL_len M
  generalize shaL A = x1 at *
  generalize shaL B = x2 at *
  generalize shaL M = x3 at *
  repeat refine St (And.intro hlt <| And.intro g1 <| And.intro g2 <| And.intro g3 <| And.intro l1 <| And.intro l2 <| l3) ct16 ?_
  exact AWP.ret (Fin trivial [] [])

theorem rparts_d {t : TTx} (h1 : t.ins.length ≤ 1000000) (h2 : (cat tOutB t.outs).length ≤ 100000000) : F16 [txT t] = some ([], .t (partT t)) := by
  simp only [F16, inv_of txT_inj]; exact if_pos ⟨h1, h2⟩

noncomputable def F21 : Fun
  | [y] => match inv spT y with
    | some s => some ([], .t (.int .i64 (chkS s)))
    | none => none
  | _ => none

theorem ct21 : CT [(22, ⟨[false], treeG F22⟩)] [0, 1, 2, 3, 31, 36, 46] [] := ⟨(.cons c22.g (.nil _))⟩

set_option maxHeartbeats 1000000 in
theorem c21 : ACon Try.prog 21 F21 := by
  refine aconc E_ok (rs := [.tmp 2 36]) Try.func21 rfl Try.ntmps21 (by kernel_rfl) rfl (by decide) F21 (np := 1) ?_ ?_
  · intro ts h; unfold F21; split <;> first | rfl | (simp at h; done)
  intro ts H r hF hwf
  unfold F21 at hF
  split at hF <;> try (cases hF; done)
  split at hF <;> try (cases hF; done)
  rename_i s hs
  cases hF
  obtain rfl := inv_inv hs
  obtain ⟨t, i, sp⟩ := s
  have h1 := rcheck_c t
  have hno := chkS_no (s := ⟨t, i, sp⟩)
  have hyes := okS_of (s := ⟨t, i, sp⟩)
  rw [spT_st]
  dsimp only at hno hyes ⊢
  rw [txT_st] at h1
  rcases chk_two t with ⟨e1, e2, e3⟩ | ⟨e1, e2⟩
  case inr =>
    rw [e1] at h1
    rw [hno (fun hh => by rw [e2] at hh; cases hh.1)]
    repeat refine St h1 ct21 ?_
    exact AWP.ret (Fin trivial [] [])
  rw [e1] at h1
  have hf := fit_of e2 e3
  by_cases hl : sp.length = t.ins.length
  case neg =>
    have hl' : ((sp.length : Int) != (t.ins.length : Int)) = true := by rw [bne_iff_ne]; omega
    rw [hno (fun hh => hl hh.2.1)]
    repeat refine St (And.intro h1 <| hl') ct21 ?_
    exact AWP.ret (Fin trivial [] [])
  have hl' : ((sp.length : Int) != (t.ins.length : Int)) = false := by rw [bne_eq_false_iff_eq]; omega
  by_cases hi : i < 0
  · rw [hno (fun hh => by omega)]
    repeat refine St (And.intro h1 <| And.intro hl' <| hi) ct21 ?_
    exact AWP.ret (Fin trivial [] [])
  by_cases hi2 : (t.ins.length : Int) ≤ i
  · rw [hno (fun hh => by omega)]
    repeat refine St (And.intro h1 <| And.intro hl' <| And.intro hi <| hi2) ct21 ?_
    exact AWP.ret (Fin trivial [] [])
  obtain ⟨c, hc⟩ : ∃ c, chkS ⟨t, i, sp⟩ = c := ⟨_, rfl⟩
  rw [hc] at hno hyes ⊢
  have hsl := (fits_cat hf).1
  repeat refine St (And.intro h1 <| And.intro hl' <| And.intro hi <| hi2) ct21 ?_
  refine AWP.loop (G := { j : Nat // j ≤ sp.length ∧ (sp.take j).all scrOk = true }) (fun j => ⟨[(1, .ptr 0 0 []), (3, .t (.int .i64 (j.1 : Int)))], [.bx (.t (.st [.st [.int .u32 (t.ver.toNat : Int), .sq 35 (t.ins.map inT), .sq 2 (t.outs.map outT), .int .u32 (t.lock.toNat : Int)], .int .i64 i, .sq 2 (sp.map outT)]))]⟩) (fun j => sp.length - j.1) ⟨0, by omega, rfl⟩ (Wt trivial [1, 3] [0]) ?_
  intro ⟨j, hj, ha⟩
  dsimp only
  by_cases hlt : (j : Int) < (sp.length : Int)
  · have hlt' : j < sp.length := by omega
    have hget := out_getD sp j hlt'
    have hal := all_take scrOk dOut sp j hlt'
    have hbad := all_getD scrOk dOut sp j hlt'
    generalize sp.getD j dOut = x at *
    by_cases hb : 1000 < (x.scr.length : Int)
    · have hx : scrOk x = false := decide_eq_false (by omega)
      have e : c = 1 := hno (fun hh => by rw [hbad hx] at hh; cases hh.2.2.2.2)
      subst e
      repeat refine St (And.intro hlt <| And.intro hlt' <| And.intro hget <| And.intro @outT.eq_def <| hb) ct21 ?_
      exact AWP.ret (Fin trivial [] [])
    · have hx : scrOk x = true := decide_eq_true (by omega)
      rw [ha, hx] at hal
      repeat refine St (And.intro hlt <| And.intro hlt' <| And.intro hget <| And.intro @outT.eq_def <| hb) ct21 ?_
      exact ⟨⟨j + 1, by omega, by rw [hal]; rfl⟩, (Wt trivial [1, 3] [0]), by simp only; omega⟩
  obtain rfl : j = sp.length := by omega
  rw [List.take_length] at ha
  have e : c = 0 := hyes hf hl (by omega) (by omega) ha
  subst e
  repeat refine St hlt ct21 ?_
  exact AWP.ret (Fin trivial [] [])

theorem rchecks_d (s : TSp) : F21 [spT s] = some ([], .t (.int .i64 (chkS s))) := by simp only [F21, inv_of spT_inj]

noncomputable def F17 : Fun
  | [y] => match inv spT y with
    | some s => some ([], .t (.bool (smallS s)))
    | none => none
  | _ => none

theorem ct17 : CT [(12, ⟨[false], treeG F12⟩)] [0, 1, 2, 3, 13, 18, 28] [] := ⟨(.cons c12.g (.nil _))⟩

set_option maxHeartbeats 1000000 in
theorem c17 : ACon Try.prog 17 F17 := by
  refine aconc E_ok (rs := [.tmp 2 4]) Try.func17 rfl Try.ntmps17 (by kernel_rfl) rfl (by decide) F17 (np := 1) ?_ ?_
  · intro ts h; unfold F17; split <;> first | rfl | (simp at h; done)
  intro ts H r hF hwf
  unfold F17 at hF
  split at hF <;> try (cases hF; done)
  split at hF <;> try (cases hF; done)
  rename_i s hs
  cases hF
  obtain rfl := inv_inv hs
  obtain ⟨t, i, sp⟩ := s
  have h1 : F12 [txT t] = some ([], .t (.bool (smallT t))) := by simp only [F12, inv_of txT_inj]
  have hsm : smallS ⟨t, i, sp⟩ = (smallT t && decide (sp.length ≤ 8) && sp.all fun x => decide (x.scr.length ≤ 1100)) := rfl
  obtain ⟨c, hc⟩ : ∃ c, smallS ⟨t, i, sp⟩ = c := ⟨_, rfl⟩
  rw [hc] at hsm ⊢
  rw [spT_st]
  dsimp only
  rw [txT_st] at h1
  cases hst : smallT t with
  | false =>
    rw [hst] at h1 hsm
    have e : c = false := hsm
    subst e
    repeat refine St h1 ct17 ?_
    exact AWP.ret (Fin trivial [] [])
  | true =>
  rw [hst] at h1 hsm
  by_cases h8 : 8 < (sp.length : Int)
  · have e : c = false := by rw [hsm, decide_eq_false (by omega)]; rfl
    subst e
    repeat refine St (And.intro h1 <| h8) ct17 ?_
    exact AWP.ret (Fin trivial [] [])
  have hsm' : c = sp.all fun x => decide (x.scr.length ≤ 1100) := by rw [hsm, decide_eq_true (by omega)]; rfl
  repeat refine St (And.intro h1 <| h8) ct17 ?_
  refine AWP.loop (G := { j : Nat // j ≤ sp.length ∧ (sp.take j).all (fun x => decide (x.scr.length ≤ 1100)) = true }) (fun j => ⟨[(1, .ptr 0 0 []), (3, .t (.int .i64 (j.1 : Int)))], [.bx (.t (.st [.st [.int .u32 (t.ver.toNat : Int), .sq 35 (t.ins.map inT), .sq 2 (t.outs.map outT), .int .u32 (t.lock.toNat : Int)], .int .i64 i, .sq 2 (sp.map outT)]))]⟩) (fun j => sp.length - j.1) ⟨0, by omega, rfl⟩ (Wt trivial [1, 3] [0]) ?_
  intro ⟨j, hj, ha⟩
  dsimp only
  by_cases hlt : (j : Int) < (sp.length : Int)
  · have hlt' : j < sp.length := by omega
    have hget := out_getD sp j hlt'
    have hal := all_take (fun x : TOut => decide (x.scr.length ≤ 1100)) dOut sp j hlt'
    have hbad := all_getD (fun x : TOut => decide (x.scr.length ≤ 1100)) dOut sp j hlt'
    generalize sp.getD j dOut = x at *
    by_cases hb : 1100 < (x.scr.length : Int)
    · have hx : decide (x.scr.length ≤ 1100) = false := decide_eq_false (by omega)
      have e : c = false := by rw [hsm']; exact hbad hx
      subst e
      repeat refine St (And.intro hlt <| And.intro hlt' <| And.intro hget <| And.intro @outT.eq_def <| hb) ct17 ?_
      exact AWP.ret (Fin trivial [] [])
    · have hx : decide (x.scr.length ≤ 1100) = true := decide_eq_true (by omega)
      rw [ha, hx] at hal
      repeat refine St (And.intro hlt <| And.intro hlt' <| And.intro hget <| And.intro @outT.eq_def <| hb) ct17 ?_
      exact ⟨⟨j + 1, by omega, by rw [hal]; rfl⟩, (Wt trivial [1, 3] [0]), by simp only; omega⟩
  obtain rfl : j = sp.length := by omega
  rw [List.take_length] at ha
  have e : c = true := by rw [hsm']; exact ha
  subst e
  repeat refine St hlt ct17 ?_
  exact AWP.ret (Fin trivial [] [])

theorem rsmalls_d (s : TSp) : F17 [spT s] = some ([], .t (.bool (smallS s))) := by simp only [F17, inv_of spT_inj]

noncomputable def F14 : Fun
  | [y, .int .i64 i] => match inv txT y with
    | some t => some ([], .tup [.t (.ba 32 (tplL t i)), .t (.int .i64 (tplE t i))])
    | none => none
  | _ => none

theorem ct14 : CT [(16, ⟨[false], treeG F16⟩), (22, ⟨[false], treeG F22⟩), (31, ⟨[false, false, false], treeG F31⟩), (32, ⟨[false], treeG F32⟩)] [0, 1, 2, 4, 5, 6, 7, 21] [] := ⟨(.cons c16.g (.cons c22.g (.cons c31.g (.cons c32.g (.nil _)))))⟩

set_option maxHeartbeats 2000000 in
theorem c14 : ACon Try.prog 14 F14 := by
  refine aconc E_ok (rs := [.cell 4 35, .tmp 5 36]) Try.func14 rfl Try.ntmps14 (by kernel_rfl) rfl (by decide) F14 (np := 2) ?_ ?_
  · intro ts h; unfold F14; split <;> first | rfl | (simp at h; done)
  intro ts H r hF hwf
  unfold F14 at hF
  split at hF <;> try (cases hF; done)
  rename_i y i
  split at hF <;> try (cases hF; done)
  rename_i t ht
  cases hF
  obtain rfl := inv_inv ht
  have h1 := rcheck_c t
  rcases chk_two t with ⟨e1, e2, e3⟩ | ⟨e1, e2⟩
  case inr =>
    have hno : okTp t i = false := okTp_no (fun hh => by rw [e2] at hh; cases hh.1)
    rw [show tplL t i = zby 32 from if_neg (by rw [hno]; simp), show tplE t i = 1 from if_neg (by rw [hno]; simp)]
    rw [e1] at h1
    rw [txT_st] at h1 ⊢
    repeat refine St h1 ct14 ?_
    exact AWP.ret (Fin trivial [] [])
  rw [e1] at h1
  have hf := fit_of e2 e3
  by_cases hi : i < 0
  · have hno : okTp t i = false := okTp_no (fun hh => by omega)
    rw [show tplL t i = zby 32 from if_neg (by rw [hno]; simp), show tplE t i = 1 from if_neg (by rw [hno]; simp)]
    rw [txT_st] at h1 ⊢
    repeat refine St (And.intro h1 <| hi) ct14 ?_
    exact AWP.ret (Fin trivial [] [])
  by_cases hi2 : (t.ins.length : Int) ≤ i
  · have hno : okTp t i = false := okTp_no (fun hh => by omega)
    rw [show tplL t i = zby 32 from if_neg (by rw [hno]; simp), show tplE t i = 1 from if_neg (by rw [hno]; simp)]
    rw [txT_st] at h1 ⊢
    repeat refine St (And.intro h1 <| And.intro hi <| hi2) ct14 ?_
    exact AWP.ret (Fin trivial [] [])
  have hyes : okTp t i = true := okTp_of hf (by omega) (by omega)
  rw [show tplL t i = shaL (tplB t i) from if_pos hyes, show tplE t i = 0 from if_pos hyes]
  obtain ⟨b1, b2, b3⟩ := fits_cat hf
  have h2 := rparts_d (t := t) (by omega) (by omega)
  have l0 := refsL_len t.ins
  have l1 := seqsL_len t.ins
  have l2 := outsL_len t.outs
  unfold tplB
  rw [partT_eq] at h2
  rw [txT_st] at h1 h2 ⊢
  generalize refsL t.ins = rf at *
  generalize seqsL t.ins = sq at *
  generalize outsL t.outs = ou at *
  obtain ⟨v, is, os, k⟩ := t
  dsimp only at h1 h2 l0 l1 l2 b1 b2 b3 hi2 ⊢
  clear hyes hf e1 e2 e3 ht
  have ll : ∀ n : Int, (le 4 n).length = 4 := fun n => le_len 4 n
  have k1 : sq.take 32 = sq := List.take_of_length_le (by omega)
  have k2 : ou.take 32 = ou := List.take_of_length_le (by omega)
  have u1 : IntKind.u64.wrap (is.length : Int) = (is.length : Int) := wrap_u64 (by omega) (by omega)
  have u2 : IntKind.u64.wrap (os.length : Int) = (os.length : Int) := wrap_u64 (by omega) (by omega)
  have u3 : IntKind.u64.wrap i = i := wrap_u64 (by omega) (by omega)
  have m1 := ll (v.toNat : Int)
  have m2 := ll (k.toNat : Int)
  have m3 := ll (is.length : Int)
  have m4 := ll (os.length : Int)
  have m5 := ll i
  have p1 : F31 [.by [], .int .u64 (v.toNat : Int), .int .i64 4] = some ([.by (le 4 (v.toNat : Int))], .own 0) := rput4 [] v (by simp)
  have p2 := rput4 (le 4 (v.toNat : Int)) k (by omega)
  have p3 : F31 [.by (le 4 (v.toNat : Int) ++ le 4 (k.toNat : Int)), .int .u64 (is.length : Int), .int .i64 4] = some ([.by (le 4 (v.toNat : Int) ++ le 4 (k.toNat : Int) ++ le 4 (is.length : Int))], .own 0) := put_c _ 4 (by simp; omega) (by omega) (by omega)
  have p4 : F31 [.by (le 4 (v.toNat : Int) ++ le 4 (k.toNat : Int) ++ le 4 (is.length : Int) ++ sq), .int .u64 (os.length : Int), .int .i64 4] = some ([.by (le 4 (v.toNat : Int) ++ le 4 (k.toNat : Int) ++ le 4 (is.length : Int) ++ sq ++ le 4 (os.length : Int))], .own 0) := put_c _ 4 (by simp; omega) (by omega) (by omega)
  have p5 : F31 [.by (le 4 (v.toNat : Int) ++ le 4 (k.toNat : Int) ++ le 4 (is.length : Int) ++ sq ++ le 4 (os.length : Int) ++ ou), .int .u64 i, .int .i64 4] = some ([.by (le 4 (v.toNat : Int) ++ le 4 (k.toNat : Int) ++ le 4 (is.length : Int) ++ sq ++ le 4 (os.length : Int) ++ ou ++ le 4 i)], .own 0) := put_c _ 4 (by simp; omega) (by omega) (by omega)
  have q1 := refsum_c (b := le 4 (v.toNat : Int) ++ le 4 (k.toNat : Int) ++ le 4 (is.length : Int) ++ sq ++ le 4 (os.length : Int) ++ ou ++ le 4 i) (by simp; omega)
  generalize le 4 (v.toNat : Int) = x1 at *
  generalize le 4 (k.toNat : Int) = x2 at *
  generalize le 4 (is.length : Int) = x3 at *
  generalize le 4 (os.length : Int) = x4 at *
  generalize le 4 i = x5 at *
  have n1 : (x1 ++ x2 ++ x3).length ≤ 100 := by simp; omega
  have n2 : (x1 ++ x2 ++ x3 ++ sq ++ x4).length ≤ 100 := by simp; omega
  repeat refine St (And.intro h1 <| And.intro h2 <| And.intro hi <| And.intro hi2 <| And.intro l0 <| And.intro l1 <| And.intro l2 <| And.intro k1 <| And.intro k2 <| And.intro u1 <| And.intro u2 <| And.intro u3 <| And.intro p1 <| And.intro p2 <| And.intro p3 <| And.intro p4 <| And.intro p5 <| And.intro q1 <| And.intro n1 <| And.intro n2 <| @u32u64) ct14 ?_
  exact AWP.ret (Fin trivial [] [])

theorem rtpl_d (t : TTx) (i : Int) : F14 [txT t, .int .i64 i] = some ([], .tup [.t (.ba 32 (tplL t i)), .t (.int .i64 (tplE t i))]) := by simp only [F14, inv_of txT_inj]

end Go.Fw

end

section
/- digest: messages, annexes. -/
namespace Go.Fw
open Go Go.Proofs
set_option linter.unusedVariables false
set_option linter.unusedSimpArgs false

def F23 : Fun
  | [.by b] => if b.length ≤ 549755813000 then some ([], .t (.by b)) else none
  | _ => none

theorem ct23 : CT [] [0, 2, 4] [] := ⟨GClOk.nil _⟩

theorem c23 : ACon Try.prog 23 F23 := by
  refine aconc E_ok (rs := [.tmp 2 24]) Try.func23 rfl Try.ntmps23 (by kernel_rfl) rfl (by decide) F23 (np := 1) ?_ ?_
  · intro ts h; unfold F23; split <;> first | rfl | (simp at h; done)
  intro ts H r hF hwf
  unfold F23 at hF
  split at hF <;> try (cases hF; done)
  rename_i b
  split at hF
  case isFalse => cases hF
  rename_i hc
  have hb := hc
  cases hF
  iterate 3 (refine St trivial ct23 ?_)
  refine AWP.seq ?_
  refine AWP.nK (l := [_]) trivial ct23 (fun r hr => ?_)
  show AWP _ _ _ _ _ _
  cases r
  · repeat refine St trivial ct23 ?_
    exact AWP.ret (Fin trivial [1] [])
  · obtain rfl := hr rfl
    repeat refine St trivial ct23 ?_
    exact AWP.ret (Fin trivial [] [])

theorem sclone_c {b : List UInt8} (h : b.length ≤ 549755813000) : F23 [.by b] = some ([], .t (.by b)) := if_pos h

def lastW (l : List (List UInt8)) : List UInt8 := l.getD (l.length - 1) []
def isAnn (l : List (List UInt8)) : Bool := decide (2 ≤ l.length) && decide (0 < (lastW l).length) && ((lastW l).getD 0 0 == 80)
def annA (l : List (List UInt8)) : List UInt8 := if isAnn l = true then lastW l else []
def annR (l : List (List UInt8)) : List (List UInt8) := if isAnn l = true then l.take (l.length - 1) else l
theorem isAnn_cases (l : List (List UInt8)) : (l.length < 2 ∧ isAnn l = false) ∨ (2 ≤ l.length ∧ (lastW l).length = 0 ∧ isAnn l = false) ∨ (2 ≤ l.length ∧ 0 < (lastW l).length ∧ (lastW l).getD 0 0 ≠ 80 ∧ isAnn l = false) ∨ (2 ≤ l.length ∧ 0 < (lastW l).length ∧ (lastW l).getD 0 0 = 80 ∧ isAnn l = true) := by
  unfold isAnn
  by_cases h1 : 2 ≤ l.length
  · by_cases h2 : 0 < (lastW l).length
    · by_cases h3 : (lastW l).getD 0 0 = 80
      · exact .inr (.inr (.inr ⟨h1, h2, h3, by rw [decide_eq_true h1, decide_eq_true h2, h3]; rfl⟩))
      · exact .inr (.inr (.inl ⟨h1, h2, h3, by rw [beq_eq_false_iff_ne.2 h3, Bool.and_false]⟩))
    · exact .inr (.inl ⟨h1, by omega, by simp [h2]⟩)
  · exact .inl ⟨by omega, by simp [h1]⟩
def annOk (l : List (List UInt8)) : Bool := l.all fun x => decide (x.length ≤ 100000000)
theorem annOk_at {l : List (List UInt8)} (h : annOk l = true) (i : Nat) : (l.getD i []).length ≤ 100000000 := by
  by_cases hi : i < l.length
  · have := List.all_eq_true.1 h (l.getD i []) (by simp [hi])
    simpa using this
  · simp [show l.length ≤ i by omega]
theorem annR_take {l : List (List UInt8)} : annR l = l.take (if isAnn l = true then l.length - 1 else l.length) := by
  unfold annR; split
  · rfl
  · simp

def F9 : Fun
  | [.sq 1 xs] => match asBys xs with
    | some l => if l.length ≤ 100000000 ∧ annOk l = true then some ([], .tup [.t (.sq 1 ((annR l).map .by)), .t (.by (annA l))]) else none
    | none => none
  | _ => none

theorem ct9 : CT [(23, ⟨[false], treeG F23⟩)] [0, 2, 3, 4, 5, 6, 7, 9, 33, 44, 45, 46, 47] [(4, [⟨0, [0], [], []⟩, ⟨0, [6], [], []⟩, ⟨0, [35], [], []⟩, ⟨1, [34, 36], [], []⟩, ⟨0, [0], [], []⟩, ⟨0, [6], [], []⟩, ⟨0, [39], [], []⟩, ⟨1, [38, 40], [], []⟩, ⟨1, [41], [7], []⟩, ⟨1, [42], [7, 8], []⟩, ⟨0, [37], [3, 7, 8, 9], []⟩, ⟨0, [43], [3, 7, 8, 9], []⟩])] := ⟨(.cons c23.g (.nil _))⟩

set_option maxHeartbeats 4000000 in
theorem c9 : ACon Try.prog 9 F9 := by
  refine aconc E_ok (rs := [.tmp 2 22, .tmp 3 24]) Try.func9 rfl Try.ntmps9 (by kernel_rfl) rfl (by decide) F9 (np := 1) ?_ ?_
  · intro ts h; unfold F9; split <;> first | rfl | (simp at h; done)
  intro ts H r hF hwf
  unfold F9 at hF
  split at hF <;> try (cases hF; done)
  rename_i xs
  split at hF <;> try (cases hF; done)
  rename_i l hl
  split at hF
  case isFalse => cases hF
  rename_i hb
  cases hF
  obtain rfl := asBys_inv hl
  obtain ⟨hb1, hb2⟩ := hb
  have hcl : ∀ x : List UInt8, x.length ≤ 100000000 → F23 [.by x] = some ([], .t (.by x)) := fun x h => sclone_c (by omega)
  have hlast := annOk_at hb2 (l.length - 1)
  have hat := annOk_at hb2
  have hget := map_getD l (l.length - 1)
  have hcw := hcl (lastW l) hlast
  have hc := isAnn_cases l
  have hA : annA l = if isAnn l = true then lastW l else [] := rfl
  have hR : annR l = if isAnn l = true then l.take (l.length - 1) else l := rfl
  have hlw : lastW l = l.getD (l.length - 1) [] := rfl
  rw [← hlw] at hget hlast
  generalize isAnn l = an at *
  generalize lastW l = w at *
  generalize annA l = A at *
  generalize annR l = R at *
  clear hlw
  have hw : ∀ _ : 2 ≤ l.length, IntKind.i64.wrap ((l.length : Int) - 1) = ((l.length - 1 : Nat) : Int) := fun h => by rw [wrap_i64 (by omega) (by omega)]; omega
  obtain ⟨n1, hn1⟩ : ∃ n1, l.length - 1 = n1 := ⟨_, rfl⟩
  rw [hn1] at hw hget hR
  rcases hc with ⟨h1, rfl⟩ | ⟨h1, h2, rfl⟩ | ⟨h1, h2, h3, rfl⟩ | ⟨h1, h2, h3, rfl⟩
  · have hR' : R = l := by rw [hR]; exact if_neg (by simp)
    have hA' : A = [] := by rw [hA]; exact if_neg (by simp)
    subst hR'
    subst hA'
    have hRb := hat
    have k1 : ¬ 2 ≤ (R.length : Int) := by omega
    repeat refine St k1 ct9 ?_
    refine AWP.weak (Wo 7 (.sq 1 [])) ?_
    refine AWP.loop (G := { i : Nat // i ≤ R.length }) (fun i => ⟨[(5, .t .nil), (7, .own 0), (44, .t (.sq 1 (R.map .by))), (45, .t (.int .i64 (R.length : Int))), (46, .t (.int .i64 (i.1 : Int)))], [.sq 1 ((R.take i.1).map .by)]⟩) (fun i => R.length - i.1) ⟨0, by omega⟩ (Wt (And.intro @List.take_zero.{0} <| @List.map_nil.{0, 0}) [5, 7, 44, 45, 46] [0]) ?_
    intro ⟨i, hi⟩
    dsimp only
    by_cases hlt : (i : Int) < (R.length : Int)
    · have hlt' : i < R.length := by omega
      have hg := map_getD R i hlt'
      have htk := take_getDx [] R i hlt'
      have hsc := hcl (R.getD i []) (hRb i)
      generalize R.getD i [] = x at *
      have hmm : ((R.take (i + 1)).map T.by) = (R.take i).map T.by ++ [.by x] := by rw [htk, List.map_append]; rfl
      have hal : ((R.take i).map T.by).length ≤ 100000000 := by simp; omega
      repeat refine St (And.intro hlt <| And.intro hlt' <| And.intro hg <| And.intro hsc <| hal) ct9 ?_
      exact ⟨⟨i + 1, by omega⟩, (Wt hmm [5, 7, 44, 45, 46] [2]), by simp only; omega⟩
    obtain rfl : i = R.length := by omega
    repeat refine St hlt ct9 ?_
    exact AWP.ret (Fin (@List.take_length.{0}) [0] [])
  · have hR' : R = l := by rw [hR]; exact if_neg (by simp)
    have hA' : A = [] := by rw [hA]; exact if_neg (by simp)
    subst hR'
    subst hA'
    have hRb := hat
    have k2 : 2 ≤ (R.length : Int) := by omega
    have k3 : n1 < R.length := by omega
    have k4 : (n1 : Int) < (R.length : Int) := by omega
    have k5 := hget k3
    have k6 := hw h1
    have k7 : ¬ 0 < (w.length : Int) := by omega
    repeat refine St (And.intro k2 <| And.intro k3 <| And.intro k4 <| And.intro k5 <| And.intro k6 <| k7) ct9 ?_
    refine AWP.weak (Wo 7 (.sq 1 [])) ?_
    refine AWP.loop (G := { i : Nat // i ≤ R.length }) (fun i => ⟨[(5, .t .nil), (7, .own 0), (44, .t (.sq 1 (R.map .by))), (45, .t (.int .i64 (R.length : Int))), (46, .t (.int .i64 (i.1 : Int)))], [.sq 1 ((R.take i.1).map .by)]⟩) (fun i => R.length - i.1) ⟨0, by omega⟩ (Wt (And.intro @List.take_zero.{0} <| @List.map_nil.{0, 0}) [5, 7, 44, 45, 46] [0]) ?_
    intro ⟨i, hi⟩
    dsimp only
    by_cases hlt : (i : Int) < (R.length : Int)
    · have hlt' : i < R.length := by omega
      have hg := map_getD R i hlt'
      have htk := take_getDx [] R i hlt'
      have hsc := hcl (R.getD i []) (hRb i)
      generalize R.getD i [] = x at *
      have hmm : ((R.take (i + 1)).map T.by) = (R.take i).map T.by ++ [.by x] := by rw [htk, List.map_append]; rfl
      have hal : ((R.take i).map T.by).length ≤ 100000000 := by simp; omega
      repeat refine St (And.intro hlt <| And.intro hlt' <| And.intro hg <| And.intro hsc <| hal) ct9 ?_
      exact ⟨⟨i + 1, by omega⟩, (Wt hmm [5, 7, 44, 45, 46] [2]), by simp only; omega⟩
    obtain rfl : i = R.length := by omega
    repeat refine St hlt ct9 ?_
    exact AWP.ret (Fin (@List.take_length.{0}) [0] [])
  · have hR' : R = l := by rw [hR]; exact if_neg (by simp)
    have hA' : A = [] := by rw [hA]; exact if_neg (by simp)
    subst hR'
    subst hA'
    have hRb := hat
    have k2 : 2 ≤ (R.length : Int) := by omega
    have k3 : n1 < R.length := by omega
    have k4 : (n1 : Int) < (R.length : Int) := by omega
    have k5 := hget k3
    have k6 := hw h1
    have k7 : 0 < (w.length : Int) := by omega
    have k8 : (((w.getD 0 0).toNat : Int) == 80) = false := by
      rw [beq_eq_false_iff_ne]
      intro hh
      exact h3 (UInt8.toNat_inj.1 (by show (w.getD 0 0).toNat = 80; omega))
    repeat refine St (And.intro k2 <| And.intro k3 <| And.intro k4 <| And.intro k5 <| And.intro k6 <| And.intro k7 <| And.intro k8 <| h2) ct9 ?_
    refine AWP.weak (Wo 7 (.sq 1 [])) ?_
    refine AWP.loop (G := { i : Nat // i ≤ R.length }) (fun i => ⟨[(5, .t .nil), (7, .own 0), (44, .t (.sq 1 (R.map .by))), (45, .t (.int .i64 (R.length : Int))), (46, .t (.int .i64 (i.1 : Int)))], [.sq 1 ((R.take i.1).map .by)]⟩) (fun i => R.length - i.1) ⟨0, by omega⟩ (Wt (And.intro @List.take_zero.{0} <| @List.map_nil.{0, 0}) [5, 7, 44, 45, 46] [0]) ?_
    intro ⟨i, hi⟩
    dsimp only
    by_cases hlt : (i : Int) < (R.length : Int)
    · have hlt' : i < R.length := by omega
      have hg := map_getD R i hlt'
      have htk := take_getDx [] R i hlt'
      have hsc := hcl (R.getD i []) (hRb i)
      generalize R.getD i [] = x at *
      have hmm : ((R.take (i + 1)).map T.by) = (R.take i).map T.by ++ [.by x] := by rw [htk, List.map_append]; rfl
      have hal : ((R.take i).map T.by).length ≤ 100000000 := by simp; omega
      repeat refine St (And.intro hlt <| And.intro hlt' <| And.intro hg <| And.intro hsc <| hal) ct9 ?_
      exact ⟨⟨i + 1, by omega⟩, (Wt hmm [5, 7, 44, 45, 46] [2]), by simp only; omega⟩
    obtain rfl : i = R.length := by omega
    repeat refine St hlt ct9 ?_
    exact AWP.ret (Fin (@List.take_length.{0}) [0] [])
  · have hR' : R = l.take n1 := by rw [hR]; exact if_pos rfl
    have hA' : A = w := by rw [hA]; exact if_pos rfl
    subst hA'
    have k2 : 2 ≤ (l.length : Int) := by omega
    have k3 : n1 < l.length := by omega
    have k4 : (n1 : Int) < (l.length : Int) := by omega
    have k5 := hget k3
    have k6 := hw h1
    have k7 : 0 < (A.length : Int) := by omega
    have k8 : (((A.getD 0 0).toNat : Int) == 80) = true := by rw [h3]; rfl
    have k9 : (l.map T.by).take n1 = R.map T.by := by rw [hR', List.map_take]
    have k10 : n1 ≤ l.length := by omega
    have hRl : R.length = n1 := by rw [hR', List.length_take]; omega
    have hRb : ∀ i, (R.getD i []).length ≤ 100000000 := fun i => by
      by_cases hi : i < R.length
      · have e : R.getD i [] = l.getD i [] := by
          rw [hR']; simp [List.getD_eq_getElem?_getD, List.getElem?_take, show i < n1 by omega]
        rw [e]; exact hat i
      · rw [List.getD_eq_getElem?_getD, List.getElem?_eq_none (by omega)]; simp
    repeat refine St (And.intro k2 <| And.intro k3 <| And.intro k4 <| And.intro k5 <| And.intro k6 <| And.intro k7 <| And.intro k8 <| And.intro k9 <| And.intro k10 <| And.intro h2 <| hcw) ct9 ?_
    refine AWP.weak (Wo 7 (.sq 1 [])) ?_
    refine AWP.loop (G := { i : Nat // i ≤ R.length }) (fun i => ⟨[(5, .t (.by A)), (7, .own 0), (44, .t (.sq 1 (R.map .by))), (45, .t (.int .i64 (R.length : Int))), (46, .t (.int .i64 (i.1 : Int)))], [.sq 1 ((R.take i.1).map .by)]⟩) (fun i => R.length - i.1) ⟨0, by omega⟩ (Wt (And.intro @List.take_zero.{0} <| @List.map_nil.{0, 0}) [5, 7, 44, 45, 46] [0]) ?_
    intro ⟨i, hi⟩
    dsimp only
    by_cases hlt : (i : Int) < (R.length : Int)
    · have hlt' : i < R.length := by omega
      have hg := map_getD R i hlt'
      have htk := take_getDx [] R i hlt'
      have hsc := hcl (R.getD i []) (hRb i)
      generalize R.getD i [] = x at *
      have hmm : ((R.take (i + 1)).map T.by) = (R.take i).map T.by ++ [.by x] := by rw [htk, List.map_append]; rfl
      have hal : ((R.take i).map T.by).length ≤ 100000000 := by simp; omega
      repeat refine St (And.intro hlt <| And.intro hlt' <| And.intro hg <| And.intro hsc <| hal) ct9 ?_
      exact ⟨⟨i + 1, by omega⟩, (Wt hmm [5, 7, 44, 45, 46] [2]), by simp only; omega⟩
    obtain rfl : i = R.length := by omega
    repeat refine St hlt ct9 ?_
    exact AWP.ret (Fin (@List.take_length.{0}) [0] [])

theorem annex_c {l : List (List UInt8)} (h1 : l.length ≤ 100000000) (h2 : annOk l = true) : F9 [.sq 1 (l.map .by)] = some ([], .tup [.t (.sq 1 ((annR l).map .by)), .t (.by (annA l))]) := by
  simp only [F9, asBys_map]; exact if_pos ⟨h1, h2⟩

end Go.Fw

end

section
/- A region in two parts. -/
namespace Go.Fw
open Go Go.Proofs
set_option linter.unusedVariables false

theorem AWP.sK {gl : GCalls} {keep : List Nat} {ds : List (Nat × List Info)} {kp N id : Nat} {l1 l2 : List Oper} {Q : Exit → AS → Prop} {S S1 S2 S3 : AS} {F : Prop} (hF : F) (ct : CT gl keep ds)
    (hw : Weak kp N S1 S2) (hQ : Q .normal ⟨prune keep S3.s, S3.H⟩)
    (h1 : F → gops E eqq gl N (l1 ++ l2) l1 S = some S1 := by (intro hF; simp only [W, eqq, ↓reduceIte, Nat.reduceEqDiff, Nat.reduceLT, Nat.reduceLeDiff, Nat.reduceAdd, Nat.reduceMul, Nat.reduceSub, Nat.reduceBEq, Int.reduceLE, Int.reduceLT, Int.reduceNeg, Int.reduceToNat, Int.reduceEq, Int.reduceBEq, Int.reduceBNe, Nat.reduceBNe, bne_self_eq_false, reduceCtorEq, gt_iff_lt, ge_iff_le, hF]; with_reducible rfl))
    (h2 : F → gops E eqq gl N (l1 ++ l2) l2 S2 = some S3 := by (intro hF; simp only [W, eqq, ↓reduceIte, Nat.reduceEqDiff, Nat.reduceLT, Nat.reduceLeDiff, Nat.reduceAdd, Nat.reduceMul, Nat.reduceSub, Nat.reduceBEq, Int.reduceLE, Int.reduceLT, Int.reduceNeg, Int.reduceToNat, Int.reduceEq, Int.reduceBEq, Int.reduceBNe, Nat.reduceBNe, bne_self_eq_false, reduceCtorEq, gt_iff_lt, ge_iff_le, hF]; with_reducible rfl)) : AWP kp Try.prog N (.region id (l1 ++ l2).toArray false) Q S :=
  AWP.gsplit X_ok ct.cl keep (h1 hF) hw (h2 hF) hQ

end Go.Fw

end

section
/- Chapter 17: the live question, DigestTemplate: their code walked. -/
namespace Go.Fw
open Go Go.Proofs
set_option linter.unusedVariables false
set_option linter.unusedSimpArgs false

def one17 : TTx := ⟨0, [⟨zH, 0, 0, []⟩], [], 0⟩
theorem one17_fits : fitsB one17 = true := by decide +kernel
theorem one17_ok : okTp one17 0 = true := by decide +kernel
theorem one17_ne : (shaL (tplB one17 0) == zby 32) = false := by decide +kernel
theorem dtx_no : okTp dTx 0 = false := by decide +kernel

def F8 : Fun
  | [] => some ([], .t (.bool true))
  | _ => none

theorem ct8 : CT [(9, ⟨[false], treeG F9⟩), (13, ⟨[false, false], treeG F13⟩)] [0, 1, 2, 4, 5, 6] [] := ⟨(.cons c9.g (.cons c13.g (.nil _)))⟩

set_option maxHeartbeats 2000000 in
theorem c8 : ACon Try.prog 8 F8 := by
  refine aconc E_ok (rs := [.tmp 0 4]) Try.func8 rfl Try.ntmps8 (by kernel_rfl) rfl (by decide) F8 (np := 0) ?_ ?_
  · intro ts h; unfold F8; split <;> first | rfl | (simp at h; done)
  intro ts H r hF hwf
  unfold F8 at hF
  split at hF <;> try (cases hF; done)
  cases hF
  have h1 : F9 [.sq 1 [.by [UInt8.ofNat 1], .by [UInt8.ofNat 80]]] = some ([], .tup [.t (.sq 1 [.by [UInt8.ofNat 1]]), .t (.by [UInt8.ofNat 80])]) := annex_c (l := [[1], [80]]) (by simp) (by decide)
  have h2 := tpl_d dTx 0
  rw [show tplL dTx 0 = zby 32 from if_neg (by rw [dtx_no]; simp), show tplE dTx 0 = 1 from if_neg (by rw [dtx_no]; simp), show txT dTx = .st [.int .u32 0, .sq 35 [], .sq 2 [], .int .u32 0] from rfl] at h2
  have h3 := tpl_d one17 0
  rw [show tplL one17 0 = shaL (tplB one17 0) from if_pos one17_ok, show tplE one17 0 = 0 from if_pos one17_ok] at h3
  have h3' : F13 [.st [.int .u32 0, .sq 35 [.st [.st [.ba 32 (zby 32), .int .u32 0], .int .u32 0, .sq 1 []]], .sq 2 [], .int .u32 0], .int .i64 0] = some ([], .tup [.t (.ba 32 (shaL (tplB one17 0))), .t (.int .i64 0)]) := h3
  have hl := shaL_len (tplB one17 0)
  have hne := one17_ne
  have h80 : (((UInt8.ofNat 80).toNat : Int) == 80) = true := rfl
  clear h3
  generalize shaL (tplB one17 0) = x at *
  iterate 8 (try refine St (And.intro h1 <| h2) ct8 ?_)
  refine AWP.sK (l1 := [_, _, _]) (And.intro h1 <| And.intro h3' <| And.intro hl hne) ct8 (Weak.trans (Weak.freeze 4) (Weak.thawS (y := .st [.int .u32 0, .sq 35 [.st [.st [.ba 32 (zby 32), .int .u32 0], .int .u32 0, .sq 1 []]], .nil, .int .u32 0]) 22 rfl)) ?_
  show AWP _ _ _ _ _ _
  repeat refine St (And.intro h1 <| And.intro h2 <| And.intro h3' <| And.intro hl <| And.intro hne <| h80) ct8 ?_
  exact AWP.ret (Fin trivial [] [])

noncomputable def F4 : Fun
  | [y, .int .i64 i] => match inv txT y with
    | some t => some ([], .t (.bool true))
    | none => none
  | _ => none

theorem ct4 : CT [(8, ⟨[], treeG F8⟩), (12, ⟨[false], treeG F12⟩), (13, ⟨[false, false], treeG F13⟩), (14, ⟨[false, false], treeG F14⟩), (15, ⟨[false], treeG F15⟩), (16, ⟨[false], treeG F16⟩)] [0, 1, 2, 4, 5, 6, 7, 8, 11] [(5, [⟨1, [], [], []⟩, ⟨0, [25], [0], []⟩, ⟨1, [5], [0], []⟩, ⟨1, [7], [0], []⟩, ⟨0, [27, 28], [0, 2, 3], []⟩, ⟨0, [26, 29], [0, 2, 3], []⟩, ⟨0, [30], [0, 2, 3], []⟩, ⟨0, [6], [0, 2, 3], []⟩, ⟨0, [8], [0, 2, 3], []⟩, ⟨0, [32, 33], [0, 2, 3], []⟩, ⟨0, [31, 34], [0, 2, 3], []⟩, ⟨0, [35], [0, 2, 3], []⟩, ⟨1, [2], [0, 2, 3], []⟩, ⟨1, [37], [0, 2, 3, 12], []⟩, ⟨1, [2], [0, 2, 3], []⟩, ⟨1, [39], [0, 2, 3, 12, 13, 14], []⟩, ⟨0, [38, 40], [0, 2, 3, 12, 13, 14, 15], []⟩, ⟨0, [36, 41], [0, 2, 3, 12, 13, 14, 15], []⟩, ⟨0, [42], [0, 2, 3, 12, 13, 14, 15], []⟩])] := ⟨(.cons c8.g (.cons c12.g (.cons c13.g (.cons c14.g (.cons c15.g (.cons c16.g (.nil _)))))))⟩

set_option maxHeartbeats 1000000 in
theorem c4 : ACon Try.prog 4 F4 := by
  refine aconc E_ok (rs := [.tmp 4 4]) Try.func4 rfl Try.ntmps4 (by kernel_rfl) rfl (by decide) F4 (np := 2) ?_ ?_
  · intro ts h; unfold F4; split <;> first | rfl | (simp at h; done)
  intro ts H r hF hwf
  unfold F4 at hF
  split at hF <;> try (cases hF; done)
  rename_i y i
  split at hF <;> try (cases hF; done)
  rename_i t ht
  cases hF
  obtain rfl := inv_inv ht
  have h0 : F12 [txT t] = some ([], .t (.bool (smallT t))) := by simp only [F12, inv_of txT_inj]
  cases hs : smallT t with
  | false =>
    rw [hs] at h0
    rw [txT_st] at h0 ⊢
    repeat refine St (And.intro h0 <| @F8.eq_def) ct4 ?_
    exact AWP.ret (Fin trivial [] [])
  | true =>
  rw [hs] at h0
  obtain ⟨b1, b2, b3, b4⟩ := smallT_ok hs
  have b5 := cat_len tOutB 617 t.outs fun x hx => by
    have h8 := b3 x hx
    have h10 := sizeB_len (x.scr.length : Int)
    simp only [tOutB, List.length_append, le_len]; omega
  have b6 : t.outs.length * 617 ≤ 6 * 617 := Nat.mul_le_mul_right _ b2
  have h1 := tpl_d t i
  have h2 := rtpl_d t i
  have h3 := parts_d (t := t) (by omega) (by omega)
  have h4 := rparts_d (t := t) (by omega) (by omega)
  have l1 := tplL_len t i
  have l2 := refsL_len t.ins
  have l3 := seqsL_len t.ins
  have l4 := outsL_len t.outs
  rw [partT_eq] at h3 h4
  rw [txT_st] at h0 h1 h2 h3 h4 ⊢
  generalize tplL t i = x1 at *
  generalize tplE t i = x2 at *
  generalize refsL t.ins = x3 at *
  generalize seqsL t.ins = x4 at *
  generalize outsL t.outs = x5 at *
  have r1 : (x1 == x1) = true := beq_self_eq_true _
  have r2 : (x2 == x2) = true := beq_self_eq_true _
  have r3 : (x3 == x3) = true := beq_self_eq_true _
  have r4 : (x4 == x4) = true := beq_self_eq_true _
  have r5 : (x5 == x5) = true := beq_self_eq_true _
  repeat refine St (And.intro h0 <| And.intro h1 <| And.intro h2 <| And.intro h3 <| And.intro h4 <| And.intro l1 <| And.intro l2 <| And.intro l3 <| And.intro l4 <| And.intro r1 <| And.intro r2 <| And.intro r3 <| And.intro r4 <| And.intro r5 <| @F8.eq_def) ct4 ?_
  exact AWP.ret (Fin trivial [] [])

theorem shx_tpl (a : TTx) (i : Int) : F4 [txT a, .int .i64 i] = some ([], .t (.bool true)) := by simp only [F4, inv_of txT_inj]

end Go.Fw

end
