/- The abstract machine, and the contracts of the code: part 50. -/
import Derived.Test.YtfjpkocbfbinaaaP49

section
/- Answers as arguments. Plain. -/
namespace Go.Fw
open Go
set_option linter.unusedVariables false
set_option linter.unusedSimpArgs false

abbrev shA : Sh := .st [.int .u8, .int .i64, .ba 32, .int .u32, .ar 4 (.int .u64), .int .u64, .bool, .by, .sq 69 shE, .ar 5 (.int .u32), .sq 32 (.ba 32)]
theorem hT_of (x : T) (h : (Sh.ba 32).has x) (hw : x.wf) : ∃ a, x = hT a := by
  obtain ⟨a, rfl⟩ := h32_of h
  exact ⟨a, rfl⟩
theorem nT_of (x : T) (h : (Sh.int .u32).has x) (hw : x.wf) : ∃ a, x = nT a := by
  obtain ⟨a, rfl⟩ := u32_shp h hw
  exact ⟨a, rfl⟩
theorem u64T_of (x : T) (h : (Sh.int .u64).has x) (hw : x.wf) : ∃ a : UInt64, x = .int .u64 (a.toNat : Int) := u64_shp h hw
theorem wT_of {x : T} (h : (Sh.ar 4 (.int .u64)).has x) (hw : x.wf) : ∃ a, x = wT a := by
  cases x <;> simp only [Sh.has] at h
  obtain ⟨rfl, rfl, hl, h⟩ := h
  simp only [T.wf] at hw
  obtain ⟨l, hl2⟩ := list_of (f := fun a : UInt64 => T.int .u64 (a.toNat : Int)) u64T_of _ h hw.2.2
  subst hl2
  rw [List.length_map] at hl
  match l, hl with
  | [a, b, c, d], _ => exact ⟨⟨a, b, c, d⟩, rfl⟩
theorem nums_of {x : T} (h : (Sh.ar 5 (.int .u32)).has x) (hw : x.wf) : ∃ u : N5, x = .ar 5 1 (u.1.map nT) := by
  cases x <;> simp only [Sh.has] at h
  obtain ⟨rfl, rfl, hl, h⟩ := h
  simp only [T.wf] at hw
  obtain ⟨l, hl2⟩ := list_of nT_of _ h hw.2.2
  subst hl2
  rw [List.length_map] at hl
  exact ⟨⟨l, hl⟩, rfl⟩
theorem a_of {x : T} (h : shA.has x) (hw : x.wf) : ∃ a, x = aT a := by
  cases x <;> simp only [Sh.has] at h
  simp only [T.wf] at hw
  obtain ⟨a, ys, rfl, h1, h⟩ := hasL1 h
  obtain ⟨b, ys, rfl, h2, h⟩ := hasL1 h
  obtain ⟨c, ys, rfl, h3, h⟩ := hasL1 h
  obtain ⟨d, ys, rfl, h4, h⟩ := hasL1 h
  obtain ⟨e, ys, rfl, h5, h⟩ := hasL1 h
  obtain ⟨f, ys, rfl, h6, h⟩ := hasL1 h
  obtain ⟨g, ys, rfl, h7, h⟩ := hasL1 h
  obtain ⟨i, ys, rfl, h8, h⟩ := hasL1 h
  obtain ⟨j, ys, rfl, h9, h⟩ := hasL1 h
  obtain ⟨k, ys, rfl, hA, h⟩ := hasL1 h
  obtain ⟨l, ys, rfl, hC, h⟩ := hasL1 h
  obtain rfl := hasL0 h
  obtain ⟨w1, hw⟩ := wfL1 hw
  obtain ⟨w2, hw⟩ := wfL1 hw
  obtain ⟨w3, hw⟩ := wfL1 hw
  obtain ⟨w4, hw⟩ := wfL1 hw
  obtain ⟨w5, hw⟩ := wfL1 hw
  obtain ⟨w6, hw⟩ := wfL1 hw
  obtain ⟨w7, hw⟩ := wfL1 hw
  obtain ⟨w8, hw⟩ := wfL1 hw
  obtain ⟨w9, hw⟩ := wfL1 hw
  obtain ⟨wA, hw⟩ := wfL1 hw
  obtain ⟨wC, hw⟩ := wfL1 hw
  obtain ⟨a, rfl⟩ := u8_shp h1 w1
  obtain ⟨b, rfl⟩ := i64_shp h2
  obtain ⟨c, rfl⟩ := h32_of h3
  obtain ⟨d, rfl⟩ := u32_shp h4 w4
  obtain ⟨e, rfl⟩ := wT_of h5 w5
  obtain ⟨f, rfl⟩ := u64_shp h6 w6
  obtain ⟨g, rfl⟩ : ∃ v, g = .bool v := by
    cases g <;> simp only [Sh.has] at h7
    exact ⟨_, rfl⟩
  obtain ⟨i, rfl⟩ := by_of _ h8 w8
  obtain ⟨j, rfl⟩ := ents_of h9 w9
  obtain ⟨k, rfl⟩ := nums_of hA wA
  have hl : ∃ m : List H32, l = .sq 32 (m.map hT) := by
    cases l <;> simp only [Sh.has] at hC
    obtain ⟨rfl, hC⟩ := hC
    simp only [T.wf] at wC
    obtain ⟨m, rfl⟩ := list_of hT_of _ hC wC.2.2.2
    exact ⟨m, rfl⟩
  obtain ⟨l, rfl⟩ := hl
  exact ⟨⟨a, b, c, d, e, f, g, i, j, k, l⟩, rfl⟩

end Go.Fw

end

section
/- compact's answer: bytes laid. -/
namespace Go.Fw
open Go Go.Proofs
set_option linter.unusedVariables false
set_option linter.unusedSimpArgs false

def F28 : Fun
  | [.by b, .int .u64 n, .int .i64 m] => if b.length ≤ 549755813000 ∧ 0 ≤ m ∧ m ≤ 16 then some ([.by (b ++ le m.toNat n)], .own 0) else none
  | _ => none

theorem ct28 : CT [] [0, 1, 2, 6, 7, 8, 14] [] := ⟨GClOk.nil _⟩

theorem c28 : ACon Try.prog 28 F28 := by
  refine aconc E_ok (rs := [.tmp 6 24]) Try.func28 rfl Try.ntmps28 (by kernel_rfl) rfl (by decide) F28 (np := 3) ?_ ?_
  · intro ts h; unfold F28; split <;> first | rfl | (simp at h; done)
  intro ts H r hF hwf
  unfold F28 at hF
  split at hF <;> try (cases hF; done)
  rename_i b n m
  split at hF
  case isFalse => cases hF
  rename_i hc
  obtain ⟨hb, h0, h1⟩ := hc
  cases hF
  have hn := inK_u64 (hwf (.int .u64 n) (by simp))
  repeat refine St trivial ct28 ?_
  refine AWP.loop (G := { k : Nat // k ≤ m.toNat }) (fun k => ⟨[(1, .t (.int .u64 (shrB k.1 n))), (2, .t (.int .i64 m)), (7, .own 0), (8, .t (.int .i64 (k.1 : Int)))], [.by (b ++ le k.1 n)]⟩)
    (fun k => m.toNat - k.1) ⟨0, by omega⟩ (Wt (And.intro (And.intro @shrB.eq_1 <| @shrB.eq_2) <| (And.intro @le.eq_1 <| @le.eq_2)) [1, 2, 7, 8] [1]) ?_
  intro ⟨k, hk⟩
  dsimp only
  by_cases hlt : (k : Int) < m
  · have hl : (b ++ le k n).length ≤ 549755813100 := by simp [le_len]; omega
    have hr := shrB_range k n hn.1 hn.2
    have hq : IntKind.u64.wrap ((shrB k n).tdiv 256) = (shrB k n).fdiv 256 := by
      rw [tdiv_256 hr.1]
      have := shrB_range (k + 1) n hn.1 hn.2
      exact wrap_u64 this.1 this.2
    repeat refine St (And.intro hq <| @le_len) ct28 ?_
    exact ⟨⟨k + 1, by omega⟩, (Wt (And.intro (And.intro @shrB.eq_1 <| @shrB.eq_2) <| And.intro (And.intro @le.eq_1 <| @le.eq_2) <| @List.append_assoc.{0}) [1, 2, 7, 8] [2]), by simp only; omega⟩
  · obtain rfl : k = m.toNat := by omega
    repeat refine St trivial ct28 ?_
    exact AWP.ret (Fin trivial [] [0])

theorem put_c {b : List UInt8} (n : Int) (m : Int) (hb : b.length ≤ 549755813000) (h0 : 0 ≤ m) (h1 : m ≤ 16) : F28 [.by b, .int .u64 n, .int .i64 m] = some ([.by (b ++ le m.toNat n)], .own 0) := if_pos ⟨hb, h0, h1⟩

def F50 : Fun
  | [.by b, .int .u64 n] => if b.length ≤ 549755812000 then some ([.by (b ++ sizeB n)], .own 0) else none
  | _ => none

theorem ct50 : CT [(28, ⟨[false, false, false], treeG F28⟩)] [0, 1, 4, 5, 11, 18] [] := ⟨(.cons c28.g (.nil _))⟩

theorem c50 : ACon Try.prog 50 F50 := by
  refine aconc E_ok (rs := [.tmp 4 24]) Try.func50 rfl Try.ntmps50 (by kernel_rfl) rfl (by decide) F50 (np := 2) ?_ ?_
  · intro ts h; unfold F50; split <;> first | rfl | (simp at h; done)
  intro ts H r hF hwf
  unfold F50 at hF
  split at hF <;> try (cases hF; done)
  rename_i b n
  split at hF
  case isFalse => cases hF
  rename_i hc
  have hb := hc
  cases hF
  have hn := inK_u64 (hwf (.int .u64 n) (by simp))
  have h8 : ∀ c : Int, F28 [.by b, .int .u64 c, .int .i64 1] = some ([.by (b ++ le 1 c)], .own 0) := fun c => put_c c 1 (by omega) (by omega) (by omega)
  have hl : ∀ c : Int, (b ++ le 1 c).length ≤ 549755813000 := fun c => by simp [le_len]; omega
  have h16 : ∀ c d : Int, F28 [.by (b ++ le 1 c), .int .u64 d, .int .i64 2] = some ([.by (b ++ le 1 c ++ le 2 d)], .own 0) := fun c d => put_c d 2 (hl c) (by omega) (by omega)
  have h32 : ∀ c d : Int, F28 [.by (b ++ le 1 c), .int .u64 d, .int .i64 4] = some ([.by (b ++ le 1 c ++ le 4 d)], .own 0) := fun c d => put_c d 4 (hl c) (by omega) (by omega)
  have h64 : ∀ c d : Int, F28 [.by (b ++ le 1 c), .int .u64 d, .int .i64 8] = some ([.by (b ++ le 1 c ++ le 8 d)], .own 0) := fun c d => put_c d 8 (hl c) (by omega) (by omega)
  by_cases h1 : n < 253
  · repeat refine St h8 ct50 ?_
    exact AWP.ret (Fin (And.intro @sizeB.eq_def <| h1) [] [0])
  by_cases h2 : n < 65536
  · repeat refine St (And.intro h8 <| h16) ct50 ?_
    exact AWP.ret (Fin (And.intro @sizeB.eq_def <| And.intro h1 <| And.intro h2 <| @List.append_assoc.{0}) [] [1])
  by_cases h3 : n < 4294967296
  · repeat refine St (And.intro h8 <| h32) ct50 ?_
    exact AWP.ret (Fin (And.intro @sizeB.eq_def <| And.intro h1 <| And.intro h2 <| And.intro h3 <| @List.append_assoc.{0}) [] [1])
  repeat refine St (And.intro h8 <| h64) ct50 ?_
  exact AWP.ret (Fin (And.intro @sizeB.eq_def <| And.intro h1 <| And.intro h2 <| And.intro h3 <| @List.append_assoc.{0}) [] [1])

def F29 : Fun
  | [.by b, .by x] => if b.length + x.length ≤ 549755800000 then some ([.by (b ++ sizeB x.length ++ x)], .own 0) else none
  | _ => none

theorem ct29 : CT [(50, ⟨[false, false], treeG F50⟩)] [0, 1, 4, 5] [] := ⟨(.cons c50.g (.nil _))⟩

theorem c29 : ACon Try.prog 29 F29 := by
  refine aconc E_ok (rs := [.tmp 4 24]) Try.func29 rfl Try.ntmps29 (by kernel_rfl) rfl (by decide) F29 (np := 2) ?_ ?_
  · intro ts h; unfold F29; split <;> first | rfl | (simp at h; done)
  intro ts H r hF hwf
  unfold F29 at hF
  split at hF <;> try (cases hF; done)
  rename_i b x
  split at hF
  case isFalse => cases hF
  rename_i hc
  have hb := hc
  cases hF
  have hs := sizeB_len (x.length : Int)
  have h : F50 [.by b, .int .u64 (x.length : Int)] = some ([.by (b ++ sizeB x.length)], .own 0) := if_pos (by omega)
  have hl : (b ++ sizeB x.length).length ≤ 549755812000 := by simp; omega
  repeat refine St h ct29 ?_
  exact AWP.ret (Fin trivial [] [1])

end Go.Fw

end

section
/- compact's answer: bytes taken apart. -/
namespace Go.Fw
open Go Go.Proofs
set_option linter.unusedVariables false
set_option linter.unusedSimpArgs false

def F52 : Fun
  | [.by b, .int .i64 n] => if b.length ≤ 549755813000 then some ([], .tup [.t (.by (spA b n)), .t (.by (spB b n)), .t (.int .i64 (spE b n))]) else none
  | _ => none

theorem ct52 : CT [] [0, 1, 4, 5, 6, 7, 8, 10, 14] [] := ⟨GClOk.nil _⟩

theorem c52 : ACon Try.prog 52 F52 := by
  refine aconc E_ok (rs := [.tmp 4 24, .tmp 5 24, .tmp 6 28]) Try.func52 rfl Try.ntmps52 (by kernel_rfl) rfl (by decide) F52 (np := 2) ?_ ?_
  · intro ts h; unfold F52; split <;> first | rfl | (simp at h; done)
  intro ts H r hF hwf
  unfold F52 at hF
  split at hF <;> try (cases hF; done)
  rename_i b n
  split at hF
  case isFalse => cases hF
  rename_i hc
  have hb := hc
  cases hF
  by_cases h1 : n < 0
  · repeat refine St trivial ct52 ?_
    exact AWP.ret (Fin (And.intro @spA.eq_def <| And.intro @spB.eq_def <| And.intro @spE.eq_def <| h1) [] [])
  by_cases h2 : (b.length : Int) < n
  · repeat refine St trivial ct52 ?_
    exact AWP.ret (Fin (And.intro @spA.eq_def <| And.intro @spB.eq_def <| And.intro @spE.eq_def <| And.intro h1 <| h2) [] [])
  repeat refine St trivial ct52 ?_
  exact AWP.ret (Fin (And.intro @spA.eq_def <| And.intro @spB.eq_def <| And.intro @spE.eq_def <| And.intro h1 <| h2) [1, 3] [])

def F51 : Fun
  | [.by b, .int .i64 n] => if b.length ≤ 549755813000 ∧ n ≤ 8 then some ([], .tup [.t (.int .u64 (num (spA b n))), .t (.by (spB b n)), .t (.int .i64 (spE b n))]) else none
  | _ => none

theorem ct51 : CT [(52, ⟨[false, false], treeG F52⟩)] [0, 1, 4, 5, 6, 7, 8, 9, 10, 11, 23] [] := ⟨(.cons c52.g (.nil _))⟩

theorem c51 : ACon Try.prog 51 F51 := by
  refine aconc E_ok (rs := [.tmp 4 40, .tmp 5 24, .tmp 6 28]) Try.func51 rfl Try.ntmps51 (by kernel_rfl) rfl (by decide) F51 (np := 2) ?_ ?_
  · intro ts h; unfold F51; split <;> first | rfl | (simp at h; done)
  intro ts H r hF hwf
  unfold F51 at hF
  split at hF <;> try (cases hF; done)
  rename_i b n
  split at hF
  case isFalse => cases hF
  rename_i hc
  obtain ⟨hb, hn⟩ := hc
  cases hF
  have h8 := spA_le b n 8 hn
  have ht : F52 [.by b, .int .i64 n] = some ([], .tup [.t (.by (spA b n)), .t (.by (spB b n)), .t (.int .i64 (spE b n))]) := if_pos hb
  generalize hx : spA b n = x at *
  repeat refine St ht ct51 ?_
  have hz : num (x.drop x.length) = 0 := by simp [num]
  refine AWP.loop (G := { k : Nat // k ≤ x.length }) (fun k => ⟨[(7, .t (.by x)), (8, .t (.by (spB b n))), (9, .t (.int .i64 (spE b n))), (10, .t (.int .u64 (num (x.drop k.1)))), (11, .t (.int .i64 ((k.1 : Int) - 1)))], []⟩)
    (fun k => k.1) ⟨x.length, by omega⟩ (Wt (And.intro hz <| (And.intro @num.eq_1 <| @num.eq_2)) [7, 8, 9, 10, 11] []) ?_
  intro ⟨k, hk⟩
  dsimp only
  by_cases hlt : 0 ≤ (k : Int) - 1
  · obtain ⟨j, rfl⟩ : ∃ j, k = j + 1 := ⟨k - 1, by omega⟩
    have hj : (((j + 1 : Nat) : Int) - 1) = (j : Int) := by omega
    have hd := num_drop x j (by omega)
    have h88 := num_lt8 (x.drop j) (by simp; omega)
    have hc := (x.getD j 0).toNat_lt
    have hw1 : IntKind.u64.wrap ((num (x.drop (j + 1)) : Int) * 256) = (num (x.drop (j + 1)) : Int) * 256 := wrap_u64 (by omega) (by omega)
    have hw2 : IntKind.u64.wrap ((x.getD j 0).toNat : Int) = ((x.getD j 0).toNat : Int) := wrap_u64 (by omega) (by omega)
    have hw3 : IntKind.u64.wrap ((num (x.drop (j + 1)) : Int) * 256 + ((x.getD j 0).toNat : Int)) = (num (x.drop j) : Int) := by rw [wrap_u64 (by omega) (by omega)]; omega
    have hjx : j < x.length := by omega
    repeat refine St (And.intro hj <| And.intro hw1 <| And.intro hw2 <| And.intro hw3 <| hjx) ct51 ?_
    exact ⟨⟨j, by omega⟩, (Wt trivial [7, 8, 9, 10, 11] []), by simp only; omega⟩
  · obtain rfl : k = 0 := by omega
    repeat refine St trivial ct51 ?_
    exact AWP.ret (Fin (@List.drop_zero.{0}) [] [])

theorem number_c (l : List UInt8) (n : Int) (h0 : l.length ≤ 549755813000) (h : n ≤ 8) : F51 [.by l, .int .i64 n] = some ([], .tup [.t (.int .u64 (num (spA l n))), .t (.by (spB l n)), .t (.int .i64 (spE l n))]) := if_pos ⟨h0, h⟩

def F79 : Fun
  | [.by b] => if b.length ≤ 549755813000 then some ([], .tup [.t (.int .u64 ((sz b).1 : Nat)), .t (.by (sz b).2.1), .t (.int .i64 (sz b).2.2)]) else none
  | _ => none

theorem ct79 : CT [(51, ⟨[false, false], treeG F51⟩)] [0, 2, 3, 4, 5, 6, 7, 8, 9, 21, 26, 28, 42] [] := ⟨(.cons c51.g (.nil _))⟩

set_option maxHeartbeats 2000000 in
theorem c79 : ACon Try.prog 79 F79 := by
  refine aconc E_ok (rs := [.tmp 2 40, .tmp 3 24, .tmp 4 28]) Try.func79 rfl Try.ntmps79 (by kernel_rfl) rfl (by decide) F79 (np := 1) ?_ ?_
  · intro ts h; unfold F79; split <;> first | rfl | (simp at h; done)
  intro ts H r hF hwf
  unfold F79 at hF
  split at hF <;> try (cases hF; done)
  rename_i b
  split at hF
  case isFalse => cases hF
  rename_i hc
  have hb := hc
  cases hF
  have hl := spB_len b 1
  have r1 := number_c b 1 (by omega) (by omega)
  have r2 := number_c (spB b 1) 2 (by omega) (by omega)
  have r4 := number_c (spB b 1) 4 (by omega) (by omega)
  have r8 := number_c (spB b 1) 8 (by omega) (by omega)
  have hsz := sz.eq_1 b
  have hbad := @sp_bad b 1
  have hlt := num_lt1 (spA b 1) (spA_le b 1 1 (by omega))
  have b2 := @sp_bad (spB b 1) 2
  have b4 := @sp_bad (spB b 1) 4
  have b8 := @sp_bad (spB b 1) 8
  generalize sz b = R at *
  generalize spB b 1 = y at *
  by_cases h1 : spE b 1 = 0
  case neg =>
    simp only [h1, ne_eq, not_false_eq_true, if_true] at hsz
    obtain ⟨e1, e2⟩ := hbad h1
    subst e2
    rw [e1] at r1
    have h1' : (spE b 1 != 0) = true := by simpa using h1
    repeat refine St (And.intro r1 <| h1') ct79 ?_
    exact AWP.ret (Fin (And.intro hsz <| (And.intro @num.eq_1 <| @num.eq_2)) [] [])
  simp only [h1, ne_eq, not_true_eq_false, if_false] at hsz
  rw [h1] at r1
  obtain ⟨x, hx⟩ : ∃ x : Nat, num (spA b 1) = x := ⟨_, rfl⟩
  rw [hx] at hsz r1 hlt
  by_cases h253 : x = 253
  case pos =>
    subst h253
    simp only [Nat.reduceEqDiff, if_true, if_false] at hsz
    unfold rdR at hsz
    by_cases k1 : spE y 2 = 0
    case neg =>
      simp only [k1, ne_eq, not_false_eq_true, if_true] at hsz
      obtain ⟨e1, e2⟩ := b2 k1
      rw [e1, e2] at r2
      have k1' : (spE y 2 == 0) = false := by simpa using k1
      repeat refine St (And.intro r1 <| And.intro r2 <| k1') ct79 ?_
      exact AWP.ret (Fin (And.intro hsz <| (And.intro @num.eq_1 <| @num.eq_2)) [] [])
    simp only [k1, ne_eq, not_true_eq_false, if_false] at hsz
    rw [k1] at r2
    split at hsz
    · repeat refine St (And.intro r1 <| r2) ct79 ?_
      exact AWP.ret (Fin hsz [] [])
    · repeat refine St (And.intro r1 <| r2) ct79 ?_
      exact AWP.ret (Fin hsz [] [])
  by_cases h254 : x = 254
  case pos =>
    subst h254
    simp only [Nat.reduceEqDiff, if_true, if_false] at hsz
    unfold rdR at hsz
    by_cases k1 : spE y 4 = 0
    case neg =>
      simp only [k1, ne_eq, not_false_eq_true, if_true] at hsz
      obtain ⟨e1, e2⟩ := b4 k1
      rw [e1, e2] at r4
      have k1' : (spE y 4 == 0) = false := by simpa using k1
      repeat refine St (And.intro r1 <| And.intro r4 <| k1') ct79 ?_
      exact AWP.ret (Fin (And.intro hsz <| (And.intro @num.eq_1 <| @num.eq_2)) [] [])
    simp only [k1, ne_eq, not_true_eq_false, if_false] at hsz
    rw [k1] at r4
    split at hsz
    · repeat refine St (And.intro r1 <| r4) ct79 ?_
      exact AWP.ret (Fin hsz [] [])
    · repeat refine St (And.intro r1 <| r4) ct79 ?_
      exact AWP.ret (Fin hsz [] [])
  by_cases h255 : x = 255
  case pos =>
    subst h255
    simp only [Nat.reduceEqDiff, if_true, if_false] at hsz
    unfold rdR at hsz
    by_cases k1 : spE y 8 = 0
    case neg =>
      simp only [k1, ne_eq, not_false_eq_true, if_true] at hsz
      obtain ⟨e1, e2⟩ := b8 k1
      rw [e1, e2] at r8
      have k1' : (spE y 8 == 0) = false := by simpa using k1
      repeat refine St (And.intro r1 <| And.intro r8 <| k1') ct79 ?_
      exact AWP.ret (Fin (And.intro hsz <| (And.intro @num.eq_1 <| @num.eq_2)) [] [])
    simp only [k1, ne_eq, not_true_eq_false, if_false] at hsz
    rw [k1] at r8
    split at hsz
    · repeat refine St (And.intro r1 <| r8) ct79 ?_
      exact AWP.ret (Fin hsz [] [])
    · repeat refine St (And.intro r1 <| r8) ct79 ?_
      exact AWP.ret (Fin hsz [] [])
  simp only [h253, h254, h255, if_false] at hsz
  repeat refine St r1 ct79 ?_
  exact AWP.ret (Fin hsz [] [])

def F80 : Fun
  | [.int .u64 n, .int .i64 most] => some ([], .t (.bool (decide (most < 0 ∨ most < n))))
  | _ => none

theorem ct80 : CT [] [0, 1, 4] [] := ⟨GClOk.nil _⟩

theorem c80 : ACon Try.prog 80 F80 := by
  refine aconc E_ok (rs := [.tmp 4 4]) Try.func80 rfl Try.ntmps80 (by kernel_rfl) rfl (by decide) F80 (np := 2) ?_ ?_
  · intro ts h; unfold F80; split <;> first | rfl | (simp at h; done)
  intro ts H r hF hwf
  unfold F80 at hF
  split at hF <;> try (cases hF; done)
  rename_i n most
  cases hF
  have hm := inK_i64 (hwf (.int .i64 most) (by simp))
  by_cases h1 : most < 0
  · repeat refine St h1 ct80 ?_
    exact AWP.ret (Fin h1 [] [])
  · have hw : IntKind.u64.wrap most = most := wrap_u64 (by omega) (by omega)
    repeat refine St (And.intro h1 <| hw) ct80 ?_
    exact AWP.ret (Fin h1 [] [])

def F54 : Fun
  | [.by b, .int .i64 most] => if b.length ≤ 549755813000 then some ([], .tup [.t (.by (lim b most).1), .t (.by (lim b most).2.1), .t (.int .i64 (lim b most).2.2)]) else none
  | _ => none

theorem ct54 : CT [(52, ⟨[false, false], treeG F52⟩), (79, ⟨[false], treeG F79⟩), (80, ⟨[false, false], treeG F80⟩)] [0, 1, 4, 5, 6, 7, 8, 9, 17, 21, 26] [] := ⟨(.cons c52.g (.cons c79.g (.cons c80.g (.nil _))))⟩

theorem c54 : ACon Try.prog 54 F54 := by
  refine aconc E_ok (rs := [.tmp 4 24, .tmp 5 24, .tmp 6 28]) Try.func54 rfl Try.ntmps54 (by kernel_rfl) rfl (by decide) F54 (np := 2) ?_ ?_
  · intro ts h; unfold F54; split <;> first | rfl | (simp at h; done)
  intro ts H r hF hwf
  unfold F54 at hF
  split at hF <;> try (cases hF; done)
  rename_i b most
  split at hF
  case isFalse => cases hF
  rename_i hc
  have hb := hc
  cases hF
  have hm := inK_i64 (hwf (.int .i64 most) (by simp))
  have hsl := sz_len b
  have hs : F79 [.by b] = some ([], .tup [.t (.int .u64 ((sz b).1 : Nat)), .t (.by (sz b).2.1), .t (.int .i64 (sz b).2.2)]) := if_pos hb
  have hl := lim.eq_1 b most
  unfold bnd at hl
  generalize lim b most = R at *
  generalize sz b = Z at *
  obtain ⟨n, q, e⟩ := Z
  dsimp only at hsl hs hl
  by_cases h1 : e = 0
  case neg =>
    simp only [h1, ne_eq, not_false_eq_true, if_true] at hl
    repeat refine St (And.intro hs <| h1) ct54 ?_
    exact AWP.ret (Fin hl [] [])
  subst h1
  simp only [ne_eq, not_true_eq_false, if_false] at hl
  by_cases h2 : most < 0 ∨ most < (n : Int)
  · simp only [h2, if_true, show ¬ (4 : Int) = 0 by omega, not_false_eq_true] at hl
    repeat refine St (And.intro hs <| And.intro @F80.eq_def <| h2) ct54 ?_
    exact AWP.ret (Fin hl [] [])
  simp only [h2, if_false, not_true_eq_false] at hl
  by_cases h3 : (q.length : Int) < (n : Int)
  · repeat refine St (And.intro hs <| And.intro @F80.eq_def <| And.intro h2 <| h3) ct54 ?_
    exact AWP.ret (Fin (And.intro hl <| And.intro @spA.eq_def <| And.intro @spB.eq_def <| And.intro @spE.eq_def <| And.intro h3 <| (show ¬ (n : Int) < 0 by omega)) [] [])
  have ht : F52 [.by q, .int .i64 (n : Int)] = some ([], .tup [.t (.by (spA q n)), .t (.by (spB q n)), .t (.int .i64 (spE q n))]) := if_pos (by omega)
  repeat refine St (And.intro hs <| And.intro @F80.eq_def <| And.intro h2 <| And.intro h3 <| ht) ct54 ?_
  exact AWP.ret (Fin hl [] [])

end Go.Fw

end

section
/- The document's numbers of 256 bits as bytes, and back. -/
namespace Go.Fw
open Go Go.Proofs
set_option linter.unusedVariables false
set_option linter.unusedSimpArgs false

noncomputable def F63 : Fun
  | [y] => match inv wT y with
    | some w => some ([], .t (.ba 32 (wB w).1))
    | none => none
  | _ => none

theorem ct63 : CT [] [0, 1, 2, 3, 4, 7] [] := ⟨GClOk.nil _⟩

set_option maxHeartbeats 2000000 in
theorem c63 : ACon Try.prog 63 F63 := by
  refine aconc E_ok (rs := [.cell 2 22]) Try.func63 rfl Try.ntmps63 (by kernel_rfl) rfl (by decide) F63 (np := 1) ?_ ?_
  · intro ts h; unfold F63; split <;> first | rfl | (simp at h; done)
  intro ts H r hF hwf
  unfold F63 at hF
  split at hF <;> try (cases hF; done)
  split at hF <;> try (cases hF; done)
  rename_i w hw
  cases hF
  obtain rfl := inv_inv hw
  have hL := wL_len w
  have hB : (wB w).1 = outW (wL w) 32 := (outW_32 hL).symm
  rw [hB]
  have hW : wT w = .ar 4 1 [.int .u64 (w.a.toNat : Int), .int .u64 (w.b.toNat : Int), .int .u64 (w.c.toNat : Int), .int .u64 (w.d.toNat : Int)] := rfl
  rw [hW]
  repeat refine St2 trivial ct63 ?_
  refine AWP.loop (G := { i : Nat // i ≤ 32 }) (fun i => ⟨[(1, .ptr 0 0 []), (2, .ptr 1 0 []), (3, .ptr 2 0 []), (4, .t (.int .i64 (i.1 : Int)))], [.bx (.t (.ar 4 1 [.int .u64 (w.a.toNat : Int), .int .u64 (w.b.toNat : Int), .int .u64 (w.c.toNat : Int), .int .u64 (w.d.toNat : Int)])), .bx (.t (.ba 32 (zby 32))), .bx (.t (.ba 32 (outW (wL w) i.1)))]⟩) (fun i => 32 - i.1) ⟨0, by omega⟩ (Wt @outW_0 [1, 2, 3, 4] [0, 1, 2]) ?_
  intro ⟨i, hi⟩
  dsimp only
  have hol := outW_len hL hi
  by_cases hlt : (i : Int) < 32
  · have hi32 : i < 32 := by omega
    have hset := outW_set hL hi32
    have e31 : IntKind.i64.wrap (31 - (i : Int)) = ((31 - i : Nat) : Int) := by rw [wrap_i64 (by omega) (by omega)]; omega
    have l31 : 31 - i < (outW (wL w) i).length := by omega
    have m31 : ((31 - i : Nat) : Int) < 32 := by omega
    have k31 : 31 - i < 32 := by omega
    have hdq : ∀ q r : Nat, i = 8 * q + r → r < 8 → IntKind.i64.wrap (Int.tdiv (i : Int) 8) = (q : Int) ∧ IntKind.i64.wrap (Int.tmod (i : Int) 8) = (r : Int) ∧ IntKind.i64.wrap (8 * (r : Int)) = ((8 * r : Nat) : Int) := by
      intro q r h1 h2
      refine ⟨?_, ?_, ?_⟩
      · rw [Int.tdiv_eq_ediv_of_nonneg (by omega), wrap_i64 (by omega) (by omega)]; omega
      · rw [Int.tmod_eq_emod_of_nonneg (by omega), wrap_i64 (by omega) (by omega)]; omega
      · rw [wrap_i64 (by omega) (by omega)]; omega
    have hn1 : IntKind.i64.wrap ((i : Int) + 1) = ((i + 1 : Nat) : Int) := by rw [wrap_i64 (by omega) (by omega)]; omega
    have hwl := wL_getD w
    rcases (by omega : i < 8 ∨ (8 ≤ i ∧ i < 16) ∨ (16 ≤ i ∧ i < 24) ∨ 24 ≤ i) with hq | hq | hq | hq
    · obtain ⟨r, hr⟩ : ∃ r, i = 8 * 0 + r := ⟨i - 8 * 0, by omega⟩
      have hr8 : r < 8 := by omega
      obtain ⟨d1, d2, d3⟩ := hdq 0 r hr hr8
      have d1' : IntKind.i64.wrap (Int.tdiv (i : Int) 8) = 0 := d1
      have hg : (wL w).getD i 0 = (le 8 (w.a.toNat : Int)).getD r 0 := by rw [show i = r by omega]; exact (hwl r hr8).1
      have r0 : (0 : Int) ≤ ((8 * r : Nat) : Int) := by omega
      have r1 : ¬ ((8 * r : Nat) : Int) < 0 := by omega
      have hw64 : IntKind.u64.wrap ((8 * r : Nat) : Int) = ((8 * r : Nat) : Int) := wrap_u64 (by omega) (by omega)
      obtain ⟨hb, hs, hne⟩ := byteD_of w.a r hr8
      rw [← hg] at hb
      repeat refine St2 (And.intro hlt <| And.intro hi32 <| And.intro e31 <| And.intro l31 <| And.intro m31 <| And.intro k31 <| And.intro d1' <| And.intro d2 <| And.intro d3 <| And.intro hw64 <| And.intro hb <| And.intro hs <| And.intro hne <| And.intro r0 <| And.intro r1 <| And.intro hset <| And.intro hol <| hn1) ct63 ?_
      exact ⟨⟨i + 1, by omega⟩, (Wt trivial [1, 2, 3, 4] [0, 1, 2]), by dsimp only; omega⟩
    · obtain ⟨r, hr⟩ : ∃ r, i = 8 * 1 + r := ⟨i - 8 * 1, by omega⟩
      have hr8 : r < 8 := by omega
      obtain ⟨d1, d2, d3⟩ := hdq 1 r hr hr8
      have d1' : IntKind.i64.wrap (Int.tdiv (i : Int) 8) = 1 := d1
      have hg : (wL w).getD i 0 = (le 8 (w.b.toNat : Int)).getD r 0 := by rw [show i = 8 + r by omega]; exact (hwl r hr8).2.1
      have r0 : (0 : Int) ≤ ((8 * r : Nat) : Int) := by omega
      have r1 : ¬ ((8 * r : Nat) : Int) < 0 := by omega
      have hw64 : IntKind.u64.wrap ((8 * r : Nat) : Int) = ((8 * r : Nat) : Int) := wrap_u64 (by omega) (by omega)
      obtain ⟨hb, hs, hne⟩ := byteD_of w.b r hr8
      rw [← hg] at hb
      repeat refine St2 (And.intro hlt <| And.intro hi32 <| And.intro e31 <| And.intro l31 <| And.intro m31 <| And.intro k31 <| And.intro d1' <| And.intro d2 <| And.intro d3 <| And.intro hw64 <| And.intro hb <| And.intro hs <| And.intro hne <| And.intro r0 <| And.intro r1 <| And.intro hset <| And.intro hol <| hn1) ct63 ?_
      exact ⟨⟨i + 1, by omega⟩, (Wt trivial [1, 2, 3, 4] [0, 1, 2]), by dsimp only; omega⟩
    · obtain ⟨r, hr⟩ : ∃ r, i = 8 * 2 + r := ⟨i - 8 * 2, by omega⟩
      have hr8 : r < 8 := by omega
      obtain ⟨d1, d2, d3⟩ := hdq 2 r hr hr8
      have d1' : IntKind.i64.wrap (Int.tdiv (i : Int) 8) = 2 := d1
      have hg : (wL w).getD i 0 = (le 8 (w.c.toNat : Int)).getD r 0 := by rw [show i = 16 + r by omega]; exact (hwl r hr8).2.2.1
      have r0 : (0 : Int) ≤ ((8 * r : Nat) : Int) := by omega
      have r1 : ¬ ((8 * r : Nat) : Int) < 0 := by omega
      have hw64 : IntKind.u64.wrap ((8 * r : Nat) : Int) = ((8 * r : Nat) : Int) := wrap_u64 (by omega) (by omega)
      obtain ⟨hb, hs, hne⟩ := byteD_of w.c r hr8
      rw [← hg] at hb
      repeat refine St2 (And.intro hlt <| And.intro hi32 <| And.intro e31 <| And.intro l31 <| And.intro m31 <| And.intro k31 <| And.intro d1' <| And.intro d2 <| And.intro d3 <| And.intro hw64 <| And.intro hb <| And.intro hs <| And.intro hne <| And.intro r0 <| And.intro r1 <| And.intro hset <| And.intro hol <| hn1) ct63 ?_
      exact ⟨⟨i + 1, by omega⟩, (Wt trivial [1, 2, 3, 4] [0, 1, 2]), by dsimp only; omega⟩
    · obtain ⟨r, hr⟩ : ∃ r, i = 8 * 3 + r := ⟨i - 8 * 3, by omega⟩
      have hr8 : r < 8 := by omega
      obtain ⟨d1, d2, d3⟩ := hdq 3 r hr hr8
      have d1' : IntKind.i64.wrap (Int.tdiv (i : Int) 8) = 3 := d1
      have hg : (wL w).getD i 0 = (le 8 (w.d.toNat : Int)).getD r 0 := by rw [show i = 24 + r by omega]; exact (hwl r hr8).2.2.2
      have r0 : (0 : Int) ≤ ((8 * r : Nat) : Int) := by omega
      have r1 : ¬ ((8 * r : Nat) : Int) < 0 := by omega
      have hw64 : IntKind.u64.wrap ((8 * r : Nat) : Int) = ((8 * r : Nat) : Int) := wrap_u64 (by omega) (by omega)
      obtain ⟨hb, hs, hne⟩ := byteD_of w.d r hr8
      rw [← hg] at hb
      repeat refine St2 (And.intro hlt <| And.intro hi32 <| And.intro e31 <| And.intro l31 <| And.intro m31 <| And.intro k31 <| And.intro d1' <| And.intro d2 <| And.intro d3 <| And.intro hw64 <| And.intro hb <| And.intro hs <| And.intro hne <| And.intro r0 <| And.intro r1 <| And.intro hset <| And.intro hol <| hn1) ct63 ?_
      exact ⟨⟨i + 1, by omega⟩, (Wt trivial [1, 2, 3, 4] [0, 1, 2]), by dsimp only; omega⟩
  · obtain rfl : i = 32 := by omega
    repeat refine St2 (And.intro hlt <| hol) ct63 ?_
    exact AWP.ret (Fin trivial [] [])

theorem rwbytes_c (w : W4) : F63 [wT w] = some ([], .t (.ba 32 (wB w).1)) := by
  simp only [F63, inv_of wT_injx]

def F55 : Fun
  | [.ba 32 l] => if h : l.length = 32 then some ([], .t (wT (wR ⟨l, h⟩))) else none
  | _ => none

theorem ct55 : CT [] [0, 1, 2, 3, 4, 7] [(5, [⟨0, [4], [], []⟩, ⟨0, [10], [], []⟩, ⟨0, [11], [], []⟩, ⟨0, [4], [], []⟩, ⟨0, [13], [], []⟩, ⟨0, [14], [], []⟩, ⟨1, [3, 15], [], []⟩, ⟨1, [16], [6], []⟩, ⟨0, [17], [6, 7], []⟩, ⟨0, [4], [], []⟩, ⟨1, [1, 19], [], []⟩, ⟨1, [20], [10], []⟩, ⟨1, [21], [10, 11], []⟩, ⟨0, [18, 22], [6, 7, 10, 11, 12], []⟩, ⟨1, [3, 12], [6, 7, 10, 11, 12], []⟩, ⟨2, [23, 24], [6, 7, 10, 11, 12, 14], []⟩])] := ⟨GClOk.nil _⟩

set_option maxHeartbeats 4000000 in
theorem c55 : ACon Try.prog 55 F55 := by
  refine aconc E_ok (rs := [.cell 2 42]) Try.func55 rfl Try.ntmps55 (by kernel_rfl) rfl (by decide) F55 (np := 1) ?_ ?_
  · intro ts h; unfold F55; split <;> first | rfl | (simp at h; done)
  intro ts H r hF hwf
  unfold F55 at hF
  split at hF <;> try (cases hF; done)
  rename_i l
  split at hF
  case isFalse => cases hF
  rename_i hl
  cases hF
  obtain ⟨h, hh⟩ : ∃ h : H32, h = ⟨l, hl⟩ := ⟨_, rfl⟩
  have hhl : l = h.1 := by rw [hh]
  rw [← hh]
  subst hhl
  have hL : h.1.reverse.length = 32 := by rw [List.length_reverse]; exact hl
  repeat refine St2 hl ct55 ?_
  have z0 : ∀ p, ((bigW h.1 p (tW 0 p)).toNat : Int) = 0 := fun p => by rw [tW_0, bigW_0]; rfl
  refine AWP.loop (G := { i : Nat // i ≤ 32 }) (fun i => ⟨[(1, .ptr 0 0 []), (2, .ptr 1 0 []), (3, .ptr 2 0 []), (4, .t (.int .i64 (i.1 : Int)))], [.bx (.t (.ba 32 h.1)), .bx (.t (.ar 4 1 [.int .u64 0, .int .u64 0, .int .u64 0, .int .u64 0])), .bx (.t (.ar 4 1 [.int .u64 ((bigW h.1 3 (tW i.1 3)).toNat : Int), .int .u64 ((bigW h.1 2 (tW i.1 2)).toNat : Int), .int .u64 ((bigW h.1 1 (tW i.1 1)).toNat : Int), .int .u64 ((bigW h.1 0 (tW i.1 0)).toNat : Int)]))]⟩) (fun i => 32 - i.1) ⟨0, by omega⟩ (Wt z0 [1, 2, 3, 4] [0, 1, 2]) ?_
  intro ⟨i, hi⟩
  dsimp only
  by_cases hlt : (i : Int) < 32
  · have hi32 : i < 32 := by omega
    have hl32 : i < h.1.length := by omega
    have hn1 : IntKind.i64.wrap ((i : Int) + 1) = ((i + 1 : Nat) : Int) := by rw [wrap_i64 (by omega) (by omega)]; omega
    have hcw : IntKind.u64.wrap ((h.1.getD i 0).toNat : Int) = ((h.1.getD i 0).toNat : Int) := by
      have := (h.1.getD i 0).toNat_lt
      exact wrap_u64 (by omega) (by omega)
    have hdq : ∀ q r : Nat, i = 8 * q + r → r < 8 → IntKind.i64.wrap (Int.tdiv (i : Int) 8) = (q : Int) := by
      intro q r h1 h2
      rw [Int.tdiv_eq_ediv_of_nonneg (by omega), wrap_i64 (by omega) (by omega)]; omega
    rcases (by omega : i < 8 ∨ (8 ≤ i ∧ i < 16) ∨ (16 ≤ i ∧ i < 24) ∨ 24 ≤ i) with hq | hq | hq | hq
    · obtain ⟨r, hr⟩ : ∃ r, i = 8 * 0 + r := ⟨i - 8 * 0, by omega⟩
      have hr8 : r < 8 := by omega
      have d1' : IntKind.i64.wrap (Int.tdiv (i : Int) 8) = 0 := hdq 0 r hr hr8
      have d4 : IntKind.i64.wrap (3 - 0) = 3 := by rw [wrap_i64 (by omega) (by omega)]; omega
      have hst := bigW_step hl (p := 0) (t := r) (by omega) hr8
      rw [← hr] at hst
      have t0 : tW i 0 = r := tW_at hr hr8
      have t1 : tW (i + 1) 0 = r + 1 := tW_next hr hr8
      have s1 : tW (i + 1) 1 = tW i 1 := tW_same hr hr8 (by omega)
      have s2 : tW (i + 1) 2 = tW i 2 := tW_same hr hr8 (by omega)
      have s3 : tW (i + 1) 3 = tW i 3 := tW_same hr hr8 (by omega)
      rw [t0]
      repeat refine St2 (And.intro hlt <| And.intro hi32 <| And.intro hl32 <| And.intro d1' <| And.intro d4 <| And.intro hcw <| And.intro hst <| And.intro hn1 <| @u8.eq_def) ct55 ?_
      exact ⟨⟨i + 1, by omega⟩, (Wt (And.intro t1 <| And.intro s1 <| And.intro s2 <| s3) [1, 2, 3, 4] [0, 1, 2]), by dsimp only; omega⟩
    · obtain ⟨r, hr⟩ : ∃ r, i = 8 * 1 + r := ⟨i - 8 * 1, by omega⟩
      have hr8 : r < 8 := by omega
      have d1' : IntKind.i64.wrap (Int.tdiv (i : Int) 8) = 1 := hdq 1 r hr hr8
      have d4 : IntKind.i64.wrap (3 - 1) = 2 := by rw [wrap_i64 (by omega) (by omega)]; omega
      have hst := bigW_step hl (p := 1) (t := r) (by omega) hr8
      rw [← hr] at hst
      have t0 : tW i 1 = r := tW_at hr hr8
      have t1 : tW (i + 1) 1 = r + 1 := tW_next hr hr8
      have s0 : tW (i + 1) 0 = tW i 0 := tW_same hr hr8 (by omega)
      have s2 : tW (i + 1) 2 = tW i 2 := tW_same hr hr8 (by omega)
      have s3 : tW (i + 1) 3 = tW i 3 := tW_same hr hr8 (by omega)
      rw [t0]
      repeat refine St2 (And.intro hlt <| And.intro hi32 <| And.intro hl32 <| And.intro d1' <| And.intro d4 <| And.intro hcw <| And.intro hst <| And.intro hn1 <| @u8.eq_def) ct55 ?_
      exact ⟨⟨i + 1, by omega⟩, (Wt (And.intro t1 <| And.intro s0 <| And.intro s2 <| s3) [1, 2, 3, 4] [0, 1, 2]), by dsimp only; omega⟩
    · obtain ⟨r, hr⟩ : ∃ r, i = 8 * 2 + r := ⟨i - 8 * 2, by omega⟩
      have hr8 : r < 8 := by omega
      have d1' : IntKind.i64.wrap (Int.tdiv (i : Int) 8) = 2 := hdq 2 r hr hr8
      have d4 : IntKind.i64.wrap (3 - 2) = 1 := by rw [wrap_i64 (by omega) (by omega)]; omega
      have hst := bigW_step hl (p := 2) (t := r) (by omega) hr8
      rw [← hr] at hst
      have t0 : tW i 2 = r := tW_at hr hr8
      have t1 : tW (i + 1) 2 = r + 1 := tW_next hr hr8
      have s0 : tW (i + 1) 0 = tW i 0 := tW_same hr hr8 (by omega)
      have s1 : tW (i + 1) 1 = tW i 1 := tW_same hr hr8 (by omega)
      have s3 : tW (i + 1) 3 = tW i 3 := tW_same hr hr8 (by omega)
      rw [t0]
      repeat refine St2 (And.intro hlt <| And.intro hi32 <| And.intro hl32 <| And.intro d1' <| And.intro d4 <| And.intro hcw <| And.intro hst <| And.intro hn1 <| @u8.eq_def) ct55 ?_
      exact ⟨⟨i + 1, by omega⟩, (Wt (And.intro t1 <| And.intro s0 <| And.intro s1 <| s3) [1, 2, 3, 4] [0, 1, 2]), by dsimp only; omega⟩
    · obtain ⟨r, hr⟩ : ∃ r, i = 8 * 3 + r := ⟨i - 8 * 3, by omega⟩
      have hr8 : r < 8 := by omega
      have d1' : IntKind.i64.wrap (Int.tdiv (i : Int) 8) = 3 := hdq 3 r hr hr8
      have d4 : IntKind.i64.wrap (3 - 3) = 0 := by rw [wrap_i64 (by omega) (by omega)]; omega
      have hst := bigW_step hl (p := 3) (t := r) (by omega) hr8
      rw [← hr] at hst
      have t0 : tW i 3 = r := tW_at hr hr8
      have t1 : tW (i + 1) 3 = r + 1 := tW_next hr hr8
      have s0 : tW (i + 1) 0 = tW i 0 := tW_same hr hr8 (by omega)
      have s1 : tW (i + 1) 1 = tW i 1 := tW_same hr hr8 (by omega)
      have s2 : tW (i + 1) 2 = tW i 2 := tW_same hr hr8 (by omega)
      rw [t0]
      repeat refine St2 (And.intro hlt <| And.intro hi32 <| And.intro hl32 <| And.intro d1' <| And.intro d4 <| And.intro hcw <| And.intro hst <| And.intro hn1 <| @u8.eq_def) ct55 ?_
      exact ⟨⟨i + 1, by omega⟩, (Wt (And.intro t1 <| And.intro s0 <| And.intro s1 <| s2) [1, 2, 3, 4] [0, 1, 2]), by dsimp only; omega⟩
  · obtain rfl : i = 32 := by omega
    have hfin : ∀ p, p < 4 → bigW h.1 p (tW 32 p) = nth8 h.1.reverse (3 - p) := fun p hp => by
      rw [tW_32 hp]; exact bigW_8 hl hp
    have f0 : bigW h.1 3 (tW 32 3) = nth8 h.1.reverse 0 := hfin 3 (by omega)
    have f1 : bigW h.1 2 (tW 32 2) = nth8 h.1.reverse 1 := hfin 2 (by omega)
    have f2 : bigW h.1 1 (tW 32 1) = nth8 h.1.reverse 2 := hfin 1 (by omega)
    have f3 : bigW h.1 0 (tW 32 0) = nth8 h.1.reverse 3 := hfin 0 (by omega)
    rw [f0, f1, f2, f3]
    repeat refine St2 hlt ct55 ?_
    exact AWP.ret (Fin (And.intro @wT.eq_def <| And.intro @wR.eq_def <| @wOf.eq_def) [] [])

theorem rwread_c (h : H32) : F55 [.ba 32 h.1] = some ([], .t (wT (wR h))) := dif_pos h.2

end Go.Fw

end
