/- The abstract machine, and the contracts of the code: part 50. -/
import Derived.Test.YtfjpkocbfbinaaaP49

section
/- Answers as arguments. Plain. -/
namespace Go.Fw
open Go
set_option linter.unusedVariables false
set_option linter.unusedSimpArgs false

abbrev shA : Sh := .st [.int .u8, .int .i64, .ba 32, .int .u32, .ar 4 (.int .u64), .int .u64, .bool, .by, .sq 69 shE, .ar 5 (.int .u32), .sq 32 (.ba 32)]
theorem hT_of (x : T) (h : (Sh.ba 32).has x) (hw : x.wf) : ∃ a, x = hT a := by
  obtain ⟨a, rfl⟩ := h32_of h
  exact ⟨a, rfl⟩
theorem nT_of (x : T) (h : (Sh.int .u32).has x) (hw : x.wf) : ∃ a, x = nT a := by
  obtain ⟨a, rfl⟩ := u32_shp h hw
  exact ⟨a, rfl⟩
theorem u64T_of (x : T) (h : (Sh.int .u64).has x) (hw : x.wf) : ∃ a : UInt64, x = .int .u64 (a.toNat : Int) := u64_shp h hw
theorem wT_of {x : T} (h : (Sh.ar 4 (.int .u64)).has x) (hw : x.wf) : ∃ a, x = wT a := by
  cases x <;> simp only [Sh.has] at h
  obtain ⟨rfl, rfl, hl, h⟩ := h
  simp only [T.wf] at hw
  obtain ⟨l, hl2⟩ := list_of (f := fun a : UInt64 => T.int .u64 (a.toNat : Int)) u64T_of _ h hw.2.2
  subst hl2
  rw [List.length_map] at hl
  match l, hl with
  | [a, b, c, d], _ => exact ⟨⟨a, b, c, d⟩, rfl⟩
theorem nums_of {x : T} (h : (Sh.ar 5 (.int .u32)).has x) (hw : x.wf) : ∃ u : N5, x = .ar 5 1 (u.1.map nT) := by
  cases x <;> simp only [Sh.has] at h
  obtain ⟨rfl, rfl, hl, h⟩ := h
  simp only [T.wf] at hw
  obtain ⟨l, hl2⟩ := list_of nT_of _ h hw.2.2
  subst hl2
  rw [List.length_map] at hl
  exact ⟨⟨l, hl⟩, rfl⟩
theorem a_of {x : T} (h : shA.has x) (hw : x.wf) : ∃ a, x = aT a := by
  cases x <;> simp only [Sh.has] at h
  simp only [T.wf] at hw
  obtain ⟨a, ys, rfl, h1, h⟩ := hasL1 h
  obtain ⟨b, ys, rfl, h2, h⟩ := hasL1 h
  obtain ⟨c, ys, rfl, h3, h⟩ := hasL1 h
  obtain ⟨d, ys, rfl, h4, h⟩ := hasL1 h
  obtain ⟨e, ys, rfl, h5, h⟩ := hasL1 h
  obtain ⟨f, ys, rfl, h6, h⟩ := hasL1 h
  obtain ⟨g, ys, rfl, h7, h⟩ := hasL1 h
  obtain ⟨i, ys, rfl, h8, h⟩ := hasL1 h
  obtain ⟨j, ys, rfl, h9, h⟩ := hasL1 h
  obtain ⟨k, ys, rfl, hA, h⟩ := hasL1 h
  obtain ⟨l, ys, rfl, hC, h⟩ := hasL1 h
  obtain rfl := hasL0 h
  obtain ⟨w1, hw⟩ := wfL1 hw
  obtain ⟨w2, hw⟩ := wfL1 hw
  obtain ⟨w3, hw⟩ := wfL1 hw
  obtain ⟨w4, hw⟩ := wfL1 hw
  obtain ⟨w5, hw⟩ := wfL1 hw
  obtain ⟨w6, hw⟩ := wfL1 hw
  obtain ⟨w7, hw⟩ := wfL1 hw
  obtain ⟨w8, hw⟩ := wfL1 hw
  obtain ⟨w9, hw⟩ := wfL1 hw
  obtain ⟨wA, hw⟩ := wfL1 hw
  obtain ⟨wC, hw⟩ := wfL1 hw
  obtain ⟨a, rfl⟩ := u8_shp h1 w1
  obtain ⟨b, rfl⟩ := i64_shp h2
  obtain ⟨c, rfl⟩ := h32_of h3
  obtain ⟨d, rfl⟩ := u32_shp h4 w4
  obtain ⟨e, rfl⟩ := wT_of h5 w5
  obtain ⟨f, rfl⟩ := u64_shp h6 w6
  obtain ⟨g, rfl⟩ : ∃ v, g = .bool v := by
    cases g <;> simp only [Sh.has] at h7
    exact ⟨_, rfl⟩
  obtain ⟨i, rfl⟩ := by_of _ h8 w8
  obtain ⟨j, rfl⟩ := ents_of h9 w9
  obtain ⟨k, rfl⟩ := nums_of hA wA
  have hl : ∃ m : List H32, l = .sq 32 (m.map hT) := by
    cases l <;> simp only [Sh.has] at hC
    obtain ⟨rfl, hC⟩ := hC
    simp only [T.wf] at wC
    obtain ⟨m, rfl⟩ := list_of hT_of _ hC wC.2.2.2
    exact ⟨m, rfl⟩
  obtain ⟨l, rfl⟩ := hl
  exact ⟨⟨a, b, c, d, e, f, g, i, j, k, l⟩, rfl⟩

end Go.Fw

end

section
/- Chapter 33: a question as the document has it. -/
namespace Go.Fw
open Go Go.Proofs
set_option linter.unusedVariables false
set_option linter.unusedSimpArgs false

noncomputable def F12 : Fun
  | [y] => match inv qT y with
    | some q => some ([], .t (qT q))
    | none => none
  | _ => none

theorem ct12 : CT [] [0, 1, 2] [] := ⟨GClOk.nil _⟩

theorem c12 : ACon Try.prog 12 F12 := by
  refine aconc E_ok (rs := [.cell 2 32]) Try.func12 rfl Try.ntmps12 (by kernel_rfl) rfl (by decide) F12 (np := 1) ?_ ?_
  · intro ts h; unfold F12; split <;> first | rfl | (simp at h; done)
  intro ts H r hF hwf
  unfold F12 at hF
  split at hF <;> try (cases hF; done)
  split at hF <;> try (cases hF; done)
  rename_i q hq
  cases hF
  obtain rfl := inv_inv hq
  have hn := q.name.2
  rw [qT_st]
  repeat refine St hn ct12 ?_
  exact AWP.ret (Fin trivial [] [])
theorem qst_c (q : TQ) : F12 [qT q] = some ([], .t (qT q)) := by simp only [F12, inv_of qT_inj]


end Go.Fw

end

section
/- compact's answer: bytes laid. -/
namespace Go.Fw
open Go Go.Proofs
set_option linter.unusedVariables false
set_option linter.unusedSimpArgs false

def F28 : Fun
  | [.by b, .int .u64 n, .int .i64 m] => if b.length ≤ 549755813000 ∧ 0 ≤ m ∧ m ≤ 16 then some ([.by (b ++ le m.toNat n)], .own 0) else none
  | _ => none

theorem ct28 : CT [] [0, 1, 2, 6, 7, 8, 14] [] := ⟨GClOk.nil _⟩

theorem c28 : ACon Try.prog 28 F28 := by
  refine aconc E_ok (rs := [.tmp 6 24]) Try.func28 rfl Try.ntmps28 (by kernel_rfl) rfl (by decide) F28 (np := 3) ?_ ?_
  · intro ts h; unfold F28; split <;> first | rfl | (simp at h; done)
  intro ts H r hF hwf
  unfold F28 at hF
  split at hF <;> try (cases hF; done)
  rename_i b n m
  split at hF
  case isFalse => cases hF
  rename_i hc
  obtain ⟨hb, h0, h1⟩ := hc
  cases hF
  have hn := inK_u64 (hwf (.int .u64 n) (by simp))
  repeat refine St trivial ct28 ?_
  refine AWP.loop (G := { k : Nat // k ≤ m.toNat }) (fun k => ⟨[(1, .t (.int .u64 (shrB k.1 n))), (2, .t (.int .i64 m)), (7, .own 0), (8, .t (.int .i64 (k.1 : Int)))], [.by (b ++ le k.1 n)]⟩)
    (fun k => m.toNat - k.1) ⟨0, by omega⟩ (Wt (And.intro (And.intro @shrB.eq_1 <| @shrB.eq_2) <| (And.intro @le.eq_1 <| @le.eq_2)) [1, 2, 7, 8] [1]) ?_
  intro ⟨k, hk⟩
  dsimp only
  by_cases hlt : (k : Int) < m
  · have hl : (b ++ le k n).length ≤ 549755813100 := by simp [le_len]; omega
    have hr := shrB_range k n hn.1 hn.2
    have hq : IntKind.u64.wrap ((shrB k n).tdiv 256) = (shrB k n).fdiv 256 := by
      rw [tdiv_256 hr.1]
      have := shrB_range (k + 1) n hn.1 hn.2
      exact wrap_u64 this.1 this.2
    repeat refine St (And.intro hq <| @le_len) ct28 ?_
    exact ⟨⟨k + 1, by omega⟩, (Wt (And.intro (And.intro @shrB.eq_1 <| @shrB.eq_2) <| And.intro (And.intro @le.eq_1 <| @le.eq_2) <| @List.append_assoc.{0}) [1, 2, 7, 8] [2]), by simp only; omega⟩
  · obtain rfl : k = m.toNat := by omega
    repeat refine St trivial ct28 ?_
    exact AWP.ret (Fin trivial [] [0])

theorem put_c {b : List UInt8} (n : Int) (m : Int) (hb : b.length ≤ 549755813000) (h0 : 0 ≤ m) (h1 : m ≤ 16) : F28 [.by b, .int .u64 n, .int .i64 m] = some ([.by (b ++ le m.toNat n)], .own 0) := if_pos ⟨hb, h0, h1⟩

def F50 : Fun
  | [.by b, .int .u64 n] => if b.length ≤ 549755812000 then some ([.by (b ++ sizeB n)], .own 0) else none
  | _ => none

theorem ct50 : CT [(28, ⟨[false, false, false], treeG F28⟩)] [0, 1, 4, 5, 11, 18] [] := ⟨(.cons c28.g (.nil _))⟩

theorem c50 : ACon Try.prog 50 F50 := by
  refine aconc E_ok (rs := [.tmp 4 24]) Try.func50 rfl Try.ntmps50 (by kernel_rfl) rfl (by decide) F50 (np := 2) ?_ ?_
  · intro ts h; unfold F50; split <;> first | rfl | (simp at h; done)
  intro ts H r hF hwf
  unfold F50 at hF
  split at hF <;> try (cases hF; done)
  rename_i b n
  split at hF
  case isFalse => cases hF
  rename_i hc
  have hb := hc
  cases hF
  have hn := inK_u64 (hwf (.int .u64 n) (by simp))
  have h8 : ∀ c : Int, F28 [.by b, .int .u64 c, .int .i64 1] = some ([.by (b ++ le 1 c)], .own 0) := fun c => put_c c 1 (by omega) (by omega) (by omega)
  have hl : ∀ c : Int, (b ++ le 1 c).length ≤ 549755813000 := fun c => by simp [le_len]; omega
  have h16 : ∀ c d : Int, F28 [.by (b ++ le 1 c), .int .u64 d, .int .i64 2] = some ([.by (b ++ le 1 c ++ le 2 d)], .own 0) := fun c d => put_c d 2 (hl c) (by omega) (by omega)
  have h32 : ∀ c d : Int, F28 [.by (b ++ le 1 c), .int .u64 d, .int .i64 4] = some ([.by (b ++ le 1 c ++ le 4 d)], .own 0) := fun c d => put_c d 4 (hl c) (by omega) (by omega)
  have h64 : ∀ c d : Int, F28 [.by (b ++ le 1 c), .int .u64 d, .int .i64 8] = some ([.by (b ++ le 1 c ++ le 8 d)], .own 0) := fun c d => put_c d 8 (hl c) (by omega) (by omega)
  by_cases h1 : n < 253
  · repeat refine St h8 ct50 ?_
    exact AWP.ret (Fin (And.intro @sizeB.eq_def <| h1) [] [0])
  by_cases h2 : n < 65536
  · repeat refine St (And.intro h8 <| h16) ct50 ?_
    exact AWP.ret (Fin (And.intro @sizeB.eq_def <| And.intro h1 <| And.intro h2 <| @List.append_assoc.{0}) [] [1])
  by_cases h3 : n < 4294967296
  · repeat refine St (And.intro h8 <| h32) ct50 ?_
    exact AWP.ret (Fin (And.intro @sizeB.eq_def <| And.intro h1 <| And.intro h2 <| And.intro h3 <| @List.append_assoc.{0}) [] [1])
  repeat refine St (And.intro h8 <| h64) ct50 ?_
  exact AWP.ret (Fin (And.intro @sizeB.eq_def <| And.intro h1 <| And.intro h2 <| And.intro h3 <| @List.append_assoc.{0}) [] [1])

def F29 : Fun
  | [.by b, .by x] => if b.length + x.length ≤ 549755800000 then some ([.by (b ++ sizeB x.length ++ x)], .own 0) else none
  | _ => none

theorem ct29 : CT [(50, ⟨[false, false], treeG F50⟩)] [0, 1, 4, 5] [] := ⟨(.cons c50.g (.nil _))⟩

theorem c29 : ACon Try.prog 29 F29 := by
  refine aconc E_ok (rs := [.tmp 4 24]) Try.func29 rfl Try.ntmps29 (by kernel_rfl) rfl (by decide) F29 (np := 2) ?_ ?_
  · intro ts h; unfold F29; split <;> first | rfl | (simp at h; done)
  intro ts H r hF hwf
  unfold F29 at hF
  split at hF <;> try (cases hF; done)
  rename_i b x
  split at hF
  case isFalse => cases hF
  rename_i hc
  have hb := hc
  cases hF
  have hs := sizeB_len (x.length : Int)
  have h : F50 [.by b, .int .u64 (x.length : Int)] = some ([.by (b ++ sizeB x.length)], .own 0) := if_pos (by omega)
  have hl : (b ++ sizeB x.length).length ≤ 549755812000 := by simp; omega
  repeat refine St h ct29 ?_
  exact AWP.ret (Fin trivial [] [1])

end Go.Fw

end

section
/- compact's answer: bytes taken apart. -/
namespace Go.Fw
open Go Go.Proofs
set_option linter.unusedVariables false
set_option linter.unusedSimpArgs false

def F52 : Fun
  | [.by b, .int .i64 n] => if b.length ≤ 549755813000 then some ([], .tup [.t (.by (spA b n)), .t (.by (spB b n)), .t (.int .i64 (spE b n))]) else none
  | _ => none

theorem ct52 : CT [] [0, 1, 4, 5, 6, 7, 8, 10, 14] [] := ⟨GClOk.nil _⟩

theorem c52 : ACon Try.prog 52 F52 := by
  refine aconc E_ok (rs := [.tmp 4 24, .tmp 5 24, .tmp 6 28]) Try.func52 rfl Try.ntmps52 (by kernel_rfl) rfl (by decide) F52 (np := 2) ?_ ?_
  · intro ts h; unfold F52; split <;> first | rfl | (simp at h; done)
  intro ts H r hF hwf
  unfold F52 at hF
  split at hF <;> try (cases hF; done)
  rename_i b n
  split at hF
  case isFalse => cases hF
  rename_i hc
  have hb := hc
  cases hF
  by_cases h1 : n < 0
  · repeat refine St trivial ct52 ?_
    exact AWP.ret (Fin (And.intro @spA.eq_def <| And.intro @spB.eq_def <| And.intro @spE.eq_def <| h1) [] [])
  by_cases h2 : (b.length : Int) < n
  · repeat refine St trivial ct52 ?_
    exact AWP.ret (Fin (And.intro @spA.eq_def <| And.intro @spB.eq_def <| And.intro @spE.eq_def <| And.intro h1 <| h2) [] [])
  repeat refine St trivial ct52 ?_
  exact AWP.ret (Fin (And.intro @spA.eq_def <| And.intro @spB.eq_def <| And.intro @spE.eq_def <| And.intro h1 <| h2) [1, 3] [])

def F51 : Fun
  | [.by b, .int .i64 n] => if b.length ≤ 549755813000 ∧ n ≤ 8 then some ([], .tup [.t (.int .u64 (num (spA b n))), .t (.by (spB b n)), .t (.int .i64 (spE b n))]) else none
  | _ => none

theorem ct51 : CT [(52, ⟨[false, false], treeG F52⟩)] [0, 1, 4, 5, 6, 7, 8, 9, 10, 11, 23] [] := ⟨(.cons c52.g (.nil _))⟩

theorem c51 : ACon Try.prog 51 F51 := by
  refine aconc E_ok (rs := [.tmp 4 40, .tmp 5 24, .tmp 6 28]) Try.func51 rfl Try.ntmps51 (by kernel_rfl) rfl (by decide) F51 (np := 2) ?_ ?_
  · intro ts h; unfold F51; split <;> first | rfl | (simp at h; done)
  intro ts H r hF hwf
  unfold F51 at hF
  split at hF <;> try (cases hF; done)
  rename_i b n
  split at hF
  case isFalse => cases hF
  rename_i hc
  obtain ⟨hb, hn⟩ := hc
  cases hF
  have h8 := spA_le b n 8 hn
  have ht : F52 [.by b, .int .i64 n] = some ([], .tup [.t (.by (spA b n)), .t (.by (spB b n)), .t (.int .i64 (spE b n))]) := if_pos hb
  generalize hx : spA b n = x at *
  repeat refine St ht ct51 ?_
  have hz : num (x.drop x.length) = 0 := by simp [num]
  refine AWP.loop (G := { k : Nat // k ≤ x.length }) (fun k => ⟨[(7, .t (.by x)), (8, .t (.by (spB b n))), (9, .t (.int .i64 (spE b n))), (10, .t (.int .u64 (num (x.drop k.1)))), (11, .t (.int .i64 ((k.1 : Int) - 1)))], []⟩)
    (fun k => k.1) ⟨x.length, by omega⟩ (Wt (And.intro hz <| (And.intro @num.eq_1 <| @num.eq_2)) [7, 8, 9, 10, 11] []) ?_
  intro ⟨k, hk⟩
  dsimp only
  by_cases hlt : 0 ≤ (k : Int) - 1
  · obtain ⟨j, rfl⟩ : ∃ j, k = j + 1 := ⟨k - 1, by omega⟩
    have hj : (((j + 1 : Nat) : Int) - 1) = (j : Int) := by omega
    have hd := num_drop x j (by omega)
    have h88 := num_lt8 (x.drop j) (by simp; omega)
    have hc := (x.getD j 0).toNat_lt
    have hw1 : IntKind.u64.wrap ((num (x.drop (j + 1)) : Int) * 256) = (num (x.drop (j + 1)) : Int) * 256 := wrap_u64 (by omega) (by omega)
    have hw2 : IntKind.u64.wrap ((x.getD j 0).toNat : Int) = ((x.getD j 0).toNat : Int) := wrap_u64 (by omega) (by omega)
    have hw3 : IntKind.u64.wrap ((num (x.drop (j + 1)) : Int) * 256 + ((x.getD j 0).toNat : Int)) = (num (x.drop j) : Int) := by rw [wrap_u64 (by omega) (by omega)]; omega
    have hjx : j < x.length := by omega
    repeat refine St (And.intro hj <| And.intro hw1 <| And.intro hw2 <| And.intro hw3 <| hjx) ct51 ?_
    exact ⟨⟨j, by omega⟩, (Wt trivial [7, 8, 9, 10, 11] []), by simp only; omega⟩
  · obtain rfl : k = 0 := by omega
    repeat refine St trivial ct51 ?_
    exact AWP.ret (Fin (@List.drop_zero.{0}) [] [])

theorem number_c (l : List UInt8) (n : Int) (h0 : l.length ≤ 549755813000) (h : n ≤ 8) : F51 [.by l, .int .i64 n] = some ([], .tup [.t (.int .u64 (num (spA l n))), .t (.by (spB l n)), .t (.int .i64 (spE l n))]) := if_pos ⟨h0, h⟩

def F79 : Fun
  | [.by b] => if b.length ≤ 549755813000 then some ([], .tup [.t (.int .u64 ((sz b).1 : Nat)), .t (.by (sz b).2.1), .t (.int .i64 (sz b).2.2)]) else none
  | _ => none

theorem ct79 : CT [(51, ⟨[false, false], treeG F51⟩)] [0, 2, 3, 4, 5, 6, 7, 8, 9, 21, 26, 28, 42] [] := ⟨(.cons c51.g (.nil _))⟩

set_option maxHeartbeats 2000000 in
theorem c79 : ACon Try.prog 79 F79 := by
  refine aconc E_ok (rs := [.tmp 2 40, .tmp 3 24, .tmp 4 28]) Try.func79 rfl Try.ntmps79 (by kernel_rfl) rfl (by decide) F79 (np := 1) ?_ ?_
  · intro ts h; unfold F79; split <;> first | rfl | (simp at h; done)
  intro ts H r hF hwf
  unfold F79 at hF
  split at hF <;> try (cases hF; done)
  rename_i b
  split at hF
  case isFalse => cases hF
  rename_i hc
  have hb := hc
  cases hF
  have hl := spB_len b 1
  have r1 := number_c b 1 (by omega) (by omega)
  have r2 := number_c (spB b 1) 2 (by omega) (by omega)
  have r4 := number_c (spB b 1) 4 (by omega) (by omega)
  have r8 := number_c (spB b 1) 8 (by omega) (by omega)
  have hsz := sz.eq_1 b
  have hbad := @sp_bad b 1
  have hlt := num_lt1 (spA b 1) (spA_le b 1 1 (by omega))
  have b2 := @sp_bad (spB b 1) 2
  have b4 := @sp_bad (spB b 1) 4
  have b8 := @sp_bad (spB b 1) 8
  generalize sz b = R at *
  generalize spB b 1 = y at *
  by_cases h1 : spE b 1 = 0
  case neg =>
    simp only [h1, ne_eq, not_false_eq_true, if_true] at hsz
    obtain ⟨e1, e2⟩ := hbad h1
    subst e2
    rw [e1] at r1
    have h1' : (spE b 1 != 0) = true := by simpa using h1
    repeat refine St (And.intro r1 <| h1') ct79 ?_
    exact AWP.ret (Fin (And.intro hsz <| (And.intro @num.eq_1 <| @num.eq_2)) [] [])
  simp only [h1, ne_eq, not_true_eq_false, if_false] at hsz
  rw [h1] at r1
  obtain ⟨x, hx⟩ : ∃ x : Nat, num (spA b 1) = x := ⟨_, rfl⟩
  rw [hx] at hsz r1 hlt
  by_cases h253 : x = 253
  case pos =>
    subst h253
    simp only [Nat.reduceEqDiff, if_true, if_false] at hsz
    unfold rdR at hsz
    by_cases k1 : spE y 2 = 0
    case neg =>
      simp only [k1, ne_eq, not_false_eq_true, if_true] at hsz
      obtain ⟨e1, e2⟩ := b2 k1
      rw [e1, e2] at r2
      have k1' : (spE y 2 == 0) = false := by simpa using k1
      repeat refine St (And.intro r1 <| And.intro r2 <| k1') ct79 ?_
      exact AWP.ret (Fin (And.intro hsz <| (And.intro @num.eq_1 <| @num.eq_2)) [] [])
    simp only [k1, ne_eq, not_true_eq_false, if_false] at hsz
    rw [k1] at r2
    split at hsz
    · repeat refine St (And.intro r1 <| r2) ct79 ?_
      exact AWP.ret (Fin hsz [] [])
    · repeat refine St (And.intro r1 <| r2) ct79 ?_
      exact AWP.ret (Fin hsz [] [])
  by_cases h254 : x = 254
  case pos =>
    subst h254
    simp only [Nat.reduceEqDiff, if_true, if_false] at hsz
    unfold rdR at hsz
    by_cases k1 : spE y 4 = 0
    case neg =>
      simp only [k1, ne_eq, not_false_eq_true, if_true] at hsz
      obtain ⟨e1, e2⟩ := b4 k1
      rw [e1, e2] at r4
      have k1' : (spE y 4 == 0) = false := by simpa using k1
      repeat refine St (And.intro r1 <| And.intro r4 <| k1') ct79 ?_
      exact AWP.ret (Fin (And.intro hsz <| (And.intro @num.eq_1 <| @num.eq_2)) [] [])
    simp only [k1, ne_eq, not_true_eq_false, if_false] at hsz
    rw [k1] at r4
    split at hsz
    · repeat refine St (And.intro r1 <| r4) ct79 ?_
      exact AWP.ret (Fin hsz [] [])
    · repeat refine St (And.intro r1 <| r4) ct79 ?_
      exact AWP.ret (Fin hsz [] [])
  by_cases h255 : x = 255
  case pos =>
    subst h255
    simp only [Nat.reduceEqDiff, if_true, if_false] at hsz
    unfold rdR at hsz
    by_cases k1 : spE y 8 = 0
    case neg =>
      simp only [k1, ne_eq, not_false_eq_true, if_true] at hsz
      obtain ⟨e1, e2⟩ := b8 k1
      rw [e1, e2] at r8
      have k1' : (spE y 8 == 0) = false := by simpa using k1
      repeat refine St (And.intro r1 <| And.intro r8 <| k1') ct79 ?_
      exact AWP.ret (Fin (And.intro hsz <| (And.intro @num.eq_1 <| @num.eq_2)) [] [])
    simp only [k1, ne_eq, not_true_eq_false, if_false] at hsz
    rw [k1] at r8
    split at hsz
    · repeat refine St (And.intro r1 <| r8) ct79 ?_
      exact AWP.ret (Fin hsz [] [])
    · repeat refine St (And.intro r1 <| r8) ct79 ?_
      exact AWP.ret (Fin hsz [] [])
  simp only [h253, h254, h255, if_false] at hsz
  repeat refine St r1 ct79 ?_
  exact AWP.ret (Fin hsz [] [])

def F80 : Fun
  | [.int .u64 n, .int .i64 most] => some ([], .t (.bool (decide (most < 0 ∨ most < n))))
  | _ => none

theorem ct80 : CT [] [0, 1, 4] [] := ⟨GClOk.nil _⟩

theorem c80 : ACon Try.prog 80 F80 := by
  refine aconc E_ok (rs := [.tmp 4 4]) Try.func80 rfl Try.ntmps80 (by kernel_rfl) rfl (by decide) F80 (np := 2) ?_ ?_
  · intro ts h; unfold F80; split <;> first | rfl | (simp at h; done)
  intro ts H r hF hwf
  unfold F80 at hF
  split at hF <;> try (cases hF; done)
  rename_i n most
  cases hF
  have hm := inK_i64 (hwf (.int .i64 most) (by simp))
  by_cases h1 : most < 0
  · repeat refine St h1 ct80 ?_
    exact AWP.ret (Fin h1 [] [])
  · have hw : IntKind.u64.wrap most = most := wrap_u64 (by omega) (by omega)
    repeat refine St (And.intro h1 <| hw) ct80 ?_
    exact AWP.ret (Fin h1 [] [])

def F54 : Fun
  | [.by b, .int .i64 most] => if b.length ≤ 549755813000 then some ([], .tup [.t (.by (lim b most).1), .t (.by (lim b most).2.1), .t (.int .i64 (lim b most).2.2)]) else none
  | _ => none

theorem ct54 : CT [(52, ⟨[false, false], treeG F52⟩), (79, ⟨[false], treeG F79⟩), (80, ⟨[false, false], treeG F80⟩)] [0, 1, 4, 5, 6, 7, 8, 9, 17, 21, 26] [] := ⟨(.cons c52.g (.cons c79.g (.cons c80.g (.nil _))))⟩

theorem c54 : ACon Try.prog 54 F54 := by
  refine aconc E_ok (rs := [.tmp 4 24, .tmp 5 24, .tmp 6 28]) Try.func54 rfl Try.ntmps54 (by kernel_rfl) rfl (by decide) F54 (np := 2) ?_ ?_
  · intro ts h; unfold F54; split <;> first | rfl | (simp at h; done)
  intro ts H r hF hwf
  unfold F54 at hF
  split at hF <;> try (cases hF; done)
  rename_i b most
  split at hF
  case isFalse => cases hF
  rename_i hc
  have hb := hc
  cases hF
  have hm := inK_i64 (hwf (.int .i64 most) (by simp))
  have hsl := sz_len b
  have hs : F79 [.by b] = some ([], .tup [.t (.int .u64 ((sz b).1 : Nat)), .t (.by (sz b).2.1), .t (.int .i64 (sz b).2.2)]) := if_pos hb
  have hl := lim.eq_1 b most
  unfold bnd at hl
  generalize lim b most = R at *
  generalize sz b = Z at *
  obtain ⟨n, q, e⟩ := Z
  dsimp only at hsl hs hl
  by_cases h1 : e = 0
  case neg =>
    simp only [h1, ne_eq, not_false_eq_true, if_true] at hl
    repeat refine St (And.intro hs <| h1) ct54 ?_
    exact AWP.ret (Fin hl [] [])
  subst h1
  simp only [ne_eq, not_true_eq_false, if_false] at hl
  by_cases h2 : most < 0 ∨ most < (n : Int)
  · simp only [h2, if_true, show ¬ (4 : Int) = 0 by omega, not_false_eq_true] at hl
    repeat refine St (And.intro hs <| And.intro @F80.eq_def <| h2) ct54 ?_
    exact AWP.ret (Fin hl [] [])
  simp only [h2, if_false, not_true_eq_false] at hl
  by_cases h3 : (q.length : Int) < (n : Int)
  · repeat refine St (And.intro hs <| And.intro @F80.eq_def <| And.intro h2 <| h3) ct54 ?_
    exact AWP.ret (Fin (And.intro hl <| And.intro @spA.eq_def <| And.intro @spB.eq_def <| And.intro @spE.eq_def <| And.intro h3 <| (show ¬ (n : Int) < 0 by omega)) [] [])
  have ht : F52 [.by q, .int .i64 (n : Int)] = some ([], .tup [.t (.by (spA q n)), .t (.by (spB q n)), .t (.int .i64 (spE q n))]) := if_pos (by omega)
  repeat refine St (And.intro hs <| And.intro @F80.eq_def <| And.intro h2 <| And.intro h3 <| ht) ct54 ?_
  exact AWP.ret (Fin hl [] [])

end Go.Fw

end

section
/- rpc's answer: the tape, what is asked. -/
namespace Go.Fw
open Go Go.Proofs
set_option linter.unusedVariables false
set_option linter.unusedSimpArgs false

def hsf9 (l : List UInt8) (i : Nat) : List UInt8 := l.take i ++ List.replicate (32 - i) 0
theorem hsh_len {l : List UInt8} {i : Nat} (h : l.length = 32) (hi : i ≤ 32) : (hsf9 l i).length = 32 := by simp [hsf9]; omega
theorem hsh_set {l : List UInt8} {i : Nat} (h : l.length = 32) (hi : i < 32) : (hsf9 l i).set i (l.getD i 0) = hsf9 l (i + 1) := by
  unfold hsf9
  rw [show 32 - i = (32 - (i + 1)) + 1 by omega, List.replicate_succ, List.set_append_right _ _ (by simp; omega)]
  have e : i - (l.take i).length = 0 := by simp; omega
  rw [e, List.set_cons_zero, List.take_succ_eq_append_getElem (by omega), List.append_assoc]
  have : l.getD i 0 = l[i] := by simp [show i < l.length by omega]
  rw [this]; rfl
theorem hsh_0 (l : List UInt8) : hsf9 l 0 = zby 32 := rfl
theorem hsh_32 {l : List UInt8} (h : l.length = 32) : hsf9 l 32 = l := by unfold hsf9; rw [List.take_of_length_le (by omega)]; simp

def F53 : Fun
  | [.by l] => if l.length = 32 then some ([], .t (.ba 32 l)) else if l.length = 0 then some ([], .t (.ba 32 (zby 32))) else none
  | _ => none

theorem ct53 : CT [] [0, 2, 3, 4, 13] [] := ⟨GClOk.nil _⟩

theorem c53 : ACon Try.prog 53 F53 := by
  refine aconc E_ok (rs := [.cell 2 22]) Try.func53 rfl Try.ntmps53 (by kernel_rfl) rfl (by decide) F53 (np := 1) ?_ ?_
  · intro ts h; unfold F53; split <;> first | rfl | (simp at h; done)
  intro ts H r hF hwf
  unfold F53 at hF
  split at hF <;> try (cases hF; done)
  rename_i l
  split at hF
  · rename_i hl
    cases hF
    repeat refine St2 trivial ct53 ?_
    refine AWP.loop (G := { i : Nat // i ≤ 32 }) (fun i => ⟨[(0, .t (.by l)), (2, .ptr 0 0 []), (3, .ptr 1 0 []), (4, .t (.int .i64 (i.1 : Int)))], [.bx (.t (.ba 32 (zby 32))), .bx (.t (.ba 32 (hsf9 l i.1)))]⟩) (fun i => 32 - i.1) ⟨0, by omega⟩ (Wt @hsh_0 [0, 2, 3, 4] [0, 1]) ?_
    intro ⟨i, hi⟩
    dsimp only
    have hhl := hsh_len hl hi
    by_cases hlt : (i : Int) < (l.length : Int)
    · have hlt' : i < l.length := by omega
      have h32 : (i : Int) < 32 := by omega
      have h32' : i < 32 := by omega
      have hs := hsh_set hl h32'
      have hof : ∀ c : UInt8, UInt8.ofNat c.toNat = c := fun c => by simp
      repeat refine St2 (And.intro hlt <| And.intro hlt' <| And.intro h32 <| And.intro h32' <| And.intro hs <| And.intro hhl <| And.intro @u8.eq_def <| And.intro hof <| @T.size.eq_def) ct53 ?_
      exact ⟨⟨i + 1, by omega⟩, (Wt trivial [0, 2, 3, 4] [0, 1]), by simp only; omega⟩
    · have hend : hsf9 l i = l := by rw [show i = 32 by omega]; exact hsh_32 hl
      repeat refine St2 hlt ct53 ?_
      exact AWP.ret (Fin hend [] [])
  · split at hF
    · rename_i hl
      cases hF
      have hlt : ¬ (0 : Int) < (l.length : Int) := by omega
      repeat refine St2 trivial ct53 ?_
      refine AWP.loop (G := Unit) (fun i => ⟨[(0, .t (.by l)), (2, .ptr 0 0 []), (3, .ptr 1 0 []), (4, .t (.int .i64 0))], [.bx (.t (.ba 32 (zby 32))), .bx (.t (.ba 32 (zby 32)))]⟩) (fun i => 0) () (Wt trivial [0, 2, 3, 4] [0, 1]) ?_
      intro i
      repeat refine St2 hlt ct53 ?_
      exact AWP.ret (Fin trivial [] [])
    · cases hF


def askT : Nat → T
  | 1 => .ar 4 1 [.bool true, .bool false, .bool false, .bool false]
  | 2 => .ar 4 1 [.bool true, .bool true, .bool false, .bool false]
  | 3 => .ar 4 1 [.bool false, .bool false, .bool false, .bool true]
  | 4 => .ar 4 1 [.bool false, .bool true, .bool true, .bool false]
  | 5 => .ar 4 1 [.bool false, .bool false, .bool true, .bool false]
  | _ => .ar 4 1 [.bool false, .bool false, .bool false, .bool false]
def F27 : Fun
  | [.int .u8 n] => if 0 ≤ n ∧ n < 256 then some ([], .t (askT (kQ (UInt8.ofNat n.toNat)))) else none
  | _ => none

theorem ct27 : CT [] [0, 2, 3, 4, 8, 11, 15, 18] [] := ⟨GClOk.nil _⟩

theorem kQ_off (c : UInt8) : (c = 2 ∧ kQ c = 1) ∨ (c ≠ 2 ∧ c = 4 ∧ kQ c = 1) ∨ (c ≠ 2 ∧ c ≠ 4 ∧ c = 3 ∧ kQ c = 2) ∨ (c ≠ 2 ∧ c ≠ 4 ∧ c ≠ 3 ∧ c = 5 ∧ kQ c = 3) ∨ (c ≠ 2 ∧ c ≠ 4 ∧ c ≠ 3 ∧ c ≠ 5 ∧ c = 9 ∧ kQ c = 3) ∨ (c ≠ 2 ∧ c ≠ 4 ∧ c ≠ 3 ∧ c ≠ 5 ∧ c ≠ 9 ∧ c = 6 ∧ kQ c = 4) ∨ (c ≠ 2 ∧ c ≠ 4 ∧ c ≠ 3 ∧ c ≠ 5 ∧ c ≠ 9 ∧ c ≠ 6 ∧ c = 8 ∧ kQ c = 5) ∨ (c ≠ 2 ∧ c ≠ 4 ∧ c ≠ 3 ∧ c ≠ 5 ∧ c ≠ 9 ∧ c ≠ 6 ∧ c ≠ 8 ∧ kQ c = 0) := by
  by_cases h2 : c = 2
  · subst h2; exact .inl ⟨rfl, rfl⟩
  by_cases h4 : c = 4
  · subst h4; exact .inr (.inl ⟨h2, rfl, rfl⟩)
  by_cases h3 : c = 3
  · subst h3; exact .inr (.inr (.inl ⟨h2, h4, rfl, rfl⟩))
  by_cases h5 : c = 5
  · subst h5; exact .inr (.inr (.inr (.inl ⟨h2, h4, h3, rfl, rfl⟩)))
  by_cases h9 : c = 9
  · subst h9; exact .inr (.inr (.inr (.inr (.inl ⟨h2, h4, h3, h5, rfl, rfl⟩))))
  by_cases h6 : c = 6
  · subst h6; exact .inr (.inr (.inr (.inr (.inr (.inl ⟨h2, h4, h3, h5, h9, rfl, rfl⟩)))))
  by_cases h8 : c = 8
  · subst h8; exact .inr (.inr (.inr (.inr (.inr (.inr (.inl ⟨h2, h4, h3, h5, h9, h6, rfl, rfl⟩))))))
  exact .inr (.inr (.inr (.inr (.inr (.inr (.inr ⟨h2, h4, h3, h5, h9, h6, h8, by unfold kQ; simp [h2, h4, h3, h5, h9, h6, h8]⟩))))))
theorem d8_ne {c : UInt8} (n : UInt8) (h : c ≠ n) : ((c.toNat : Int) == (n.toNat : Int)) = false := by
  rw [beq_eq_false_iff_ne]; intro hh; exact h (n8_inj hh)
theorem d8_eq {c : UInt8} (n : UInt8) (h : c = n) : ((c.toNat : Int) == (n.toNat : Int)) = true := by rw [h]; exact beq_self_eq_true _

set_option maxHeartbeats 2000000 in
theorem c27 : ACon Try.prog 27 F27 := by
  refine aconc E_ok (rs := [.cell 2 86]) Try.func27 rfl Try.ntmps27 (by kernel_rfl) rfl (by decide) F27 (np := 1) ?_ ?_
  · intro ts h; unfold F27; split <;> first | rfl | (simp at h; done)
  intro ts H r hF hwf
  unfold F27 at hF
  split at hF <;> try (cases hF; done)
  rename_i z
  split at hF
  case isFalse => cases hF
  rename_i hc
  cases hF
  obtain ⟨c, rfl⟩ : ∃ c : UInt8, z = (c.toNat : Int) := ⟨UInt8.ofNat z.toNat, by rw [UInt8.toNat_ofNat']; omega⟩
  have hcc : UInt8.ofNat ((c.toNat : Int)).toNat = c := by rw [Int.toNat_natCast]; exact UInt8.ofNat_toNat ..
  rw [hcc]
  rcases kQ_off c with ⟨a2, hk⟩ | ⟨a2, a4, hk⟩ | ⟨a2, a4, a3, hk⟩ | ⟨a2, a4, a3, a5, hk⟩ | ⟨a2, a4, a3, a5, a9, hk⟩ | ⟨a2, a4, a3, a5, a9, a6, hk⟩ | ⟨a2, a4, a3, a5, a9, a6, a8, hk⟩ | ⟨a2, a4, a3, a5, a9, a6, a8, hk⟩
  · have d2 : ((c.toNat : Int) == 2) = true := d8_eq 2 a2
    rw [hk]
    repeat refine St2 d2 ct27 ?_
    exact AWP.ret (Fin @askT.eq_def [] [])
  · have d2 : ((c.toNat : Int) == 2) = false := d8_ne 2 a2
    have d4 : ((c.toNat : Int) == 4) = true := d8_eq 4 a4
    rw [hk]
    repeat refine St2 (And.intro d2 <| d4) ct27 ?_
    exact AWP.ret (Fin @askT.eq_def [] [])
  · have d2 : ((c.toNat : Int) == 2) = false := d8_ne 2 a2
    have d4 : ((c.toNat : Int) == 4) = false := d8_ne 4 a4
    have d3 : ((c.toNat : Int) == 3) = true := d8_eq 3 a3
    rw [hk]
    repeat refine St2 (And.intro d2 <| And.intro d4 <| d3) ct27 ?_
    exact AWP.ret (Fin @askT.eq_def [] [])
  · have d2 : ((c.toNat : Int) == 2) = false := d8_ne 2 a2
    have d4 : ((c.toNat : Int) == 4) = false := d8_ne 4 a4
    have d3 : ((c.toNat : Int) == 3) = false := d8_ne 3 a3
    have d5 : ((c.toNat : Int) == 5) = true := d8_eq 5 a5
    rw [hk]
    repeat refine St2 (And.intro d2 <| And.intro d4 <| And.intro d3 <| d5) ct27 ?_
    exact AWP.ret (Fin @askT.eq_def [] [])
  · have d2 : ((c.toNat : Int) == 2) = false := d8_ne 2 a2
    have d4 : ((c.toNat : Int) == 4) = false := d8_ne 4 a4
    have d3 : ((c.toNat : Int) == 3) = false := d8_ne 3 a3
    have d5 : ((c.toNat : Int) == 5) = false := d8_ne 5 a5
    have d9 : ((c.toNat : Int) == 9) = true := d8_eq 9 a9
    rw [hk]
    repeat refine St2 (And.intro d2 <| And.intro d4 <| And.intro d3 <| And.intro d5 <| d9) ct27 ?_
    exact AWP.ret (Fin @askT.eq_def [] [])
  · have d2 : ((c.toNat : Int) == 2) = false := d8_ne 2 a2
    have d4 : ((c.toNat : Int) == 4) = false := d8_ne 4 a4
    have d3 : ((c.toNat : Int) == 3) = false := d8_ne 3 a3
    have d5 : ((c.toNat : Int) == 5) = false := d8_ne 5 a5
    have d9 : ((c.toNat : Int) == 9) = false := d8_ne 9 a9
    have d6 : ((c.toNat : Int) == 6) = true := d8_eq 6 a6
    rw [hk]
    repeat refine St2 (And.intro d2 <| And.intro d4 <| And.intro d3 <| And.intro d5 <| And.intro d9 <| d6) ct27 ?_
    exact AWP.ret (Fin @askT.eq_def [] [])
  · have d2 : ((c.toNat : Int) == 2) = false := d8_ne 2 a2
    have d4 : ((c.toNat : Int) == 4) = false := d8_ne 4 a4
    have d3 : ((c.toNat : Int) == 3) = false := d8_ne 3 a3
    have d5 : ((c.toNat : Int) == 5) = false := d8_ne 5 a5
    have d9 : ((c.toNat : Int) == 9) = false := d8_ne 9 a9
    have d6 : ((c.toNat : Int) == 6) = false := d8_ne 6 a6
    have d8 : ((c.toNat : Int) == 8) = true := d8_eq 8 a8
    rw [hk]
    repeat refine St2 (And.intro d2 <| And.intro d4 <| And.intro d3 <| And.intro d5 <| And.intro d9 <| And.intro d6 <| d8) ct27 ?_
    exact AWP.ret (Fin @askT.eq_def [] [])
  · have d2 : ((c.toNat : Int) == 2) = false := d8_ne 2 a2
    have d4 : ((c.toNat : Int) == 4) = false := d8_ne 4 a4
    have d3 : ((c.toNat : Int) == 3) = false := d8_ne 3 a3
    have d5 : ((c.toNat : Int) == 5) = false := d8_ne 5 a5
    have d9 : ((c.toNat : Int) == 9) = false := d8_ne 9 a9
    have d6 : ((c.toNat : Int) == 6) = false := d8_ne 6 a6
    have d8 : ((c.toNat : Int) == 8) = false := d8_ne 8 a8
    rw [hk]
    repeat refine St2 (And.intro d2 <| And.intro d4 <| And.intro d3 <| And.intro d5 <| And.intro d9 <| And.intro d6 <| d8) ct27 ?_
    exact AWP.ret (Fin @askT.eq_def [] [])

theorem ask_c (c : UInt8) : F27 [.int .u8 (c.toNat : Int)] = some ([], .t (askT (kQ c))) := by
  have h0 := c.toNat_lt
  have hcc : UInt8.ofNat ((c.toNat : Int)).toNat = c := by rw [Int.toNat_natCast]; exact UInt8.ofNat_toNat ..
  simp only [F27]
  rw [if_pos ⟨by omega, by omega⟩, hcc]

/-! ### The tape. -/
theorem rnumA (b : List UInt8) (h : b.length ≤ 549755800000) : F51 [.by b, .int .i64 4] = some ([], .tup [.t (.int .u64 ((t32 b).1.toNat : Int)), .t (.by (t32 b).2.1), .t (.int .i64 (t32 b).2.2)]) := by
  rw [number_c b 4 (by omega) (by omega)]
  show _ = some (_, AV.tup [.t (.int .u64 ((UInt32.ofNat (num (spA b 4))).toNat : Int)), _, _])
  rw [u32_num _ (spA_le b 4 4 (by omega))]; rfl
theorem u8_num (l : List UInt8) (h : l.length ≤ 1) : ((UInt8.ofNat (num l)).toNat : Int) = (num l : Int) := by
  have := num_lt1 l h
  rw [UInt8.toNat_ofNat']; omega
theorem rnumB (b : List UInt8) (h : b.length ≤ 549755800000) : F51 [.by b, .int .i64 1] = some ([], .tup [.t (.int .u64 ((t8 b).1.toNat : Int)), .t (.by (t8 b).2.1), .t (.int .i64 (t8 b).2.2)]) := by
  rw [number_c b 1 (by omega) (by omega)]
  show _ = some (_, AV.tup [.t (.int .u64 ((UInt8.ofNat (num (spA b 1))).toNat : Int)), _, _])
  rw [u8_num _ (spA_le b 1 1 (by omega))]; rfl
theorem rnumC (b : List UInt8) (h : b.length ≤ 549755800000) : F51 [.by b, .int .i64 8] = some ([], .tup [.t (.int .u64 ((t64 b).1.toNat : Int)), .t (.by (t64 b).2.1), .t (.int .i64 (t64 b).2.2)]) := by
  rw [number_c b 8 (by omega) (by omega)]
  show _ = some (_, AV.tup [.t (.int .u64 ((UInt64.ofNat (num (spA b 8))).toNat : Int)), _, _])
  rw [u64_num _ (spA_le b 8 8 (by omega))]; rfl
abbrev lX (s : LSt) : Blk := .bx (.t (.st [.by s.b, .bool s.ok]))

def G30 : GFun
  | [.bx (.t (.st [.by b, .bool w]))], [.ptr 0 0 [], .t (.int .i64 4)] => if b.length ≤ 549755800000 then some ([lX (ld t32 ⟨b, w⟩).2], .t (.int .u64 ((ld t32 ⟨b, w⟩).1.toNat : Int))) else none
  | [.bx (.t (.st [.by b, .bool w]))], [.ptr 0 0 [], .t (.int .i64 1)] => if b.length ≤ 549755800000 then some ([lX (ld t8 ⟨b, w⟩).2], .t (.int .u64 ((ld t8 ⟨b, w⟩).1.toNat : Int))) else none
  | [.bx (.t (.st [.by b, .bool w]))], [.ptr 0 0 [], .t (.int .i64 8)] => if b.length ≤ 549755800000 then some ([lX (ld t64 ⟨b, w⟩).2], .t (.int .u64 ((ld t64 ⟨b, w⟩).1.toNat : Int))) else none
  | _, _ => none

theorem ct30 : CT [(51, ⟨[false, false], treeG F51⟩)] [0, 1, 4, 5, 6, 7] [] := ⟨(.cons c51.g (.nil _))⟩

set_option maxHeartbeats 1000000 in
theorem g30 : GCon Try.prog 30 G30 := by
  refine gconc E_ok (rs := [.tmp 4 40]) Try.func30 rfl Try.ntmps30 (by kernel_rfl) rfl (by decide) G30 (np := 2) ?_ ?_
  · intro HB xs h; unfold G30; split <;> first | rfl | (simp at h; done)
  intro HB xs H r hG hwf hex
  unfold G30 at hG
  split at hG <;> try (cases hG; done)
  · rename_i b w
    split at hG
    case isFalse => cases hG
    rename_i hb
    cases hG
    have h1 := rnumA b hb
    unfold ld
    dsimp only
    generalize t32 b = R at *
    obtain ⟨x, r, e⟩ := R
    dsimp only at h1 ⊢
    cases w with
    | false =>
      repeat refine St2 (And.intro (And.intro @gentry.eq_1 <| @gentry.eq_2) <| h1) ct30 ?_
      exact AWP.ret (Fin trivial [] [0])
    | true =>
      by_cases he : e = 0
      · subst he
        repeat refine St2 (And.intro (And.intro @gentry.eq_1 <| @gentry.eq_2) <| h1) ct30 ?_
        exact AWP.ret (Fin trivial [] [0])
      · have h2 : (e == 0) = false := by simpa using he
        have h3 : decide (e = 0) = false := decide_eq_false he
        rw [h3]
        repeat refine St2 (And.intro (And.intro @gentry.eq_1 <| @gentry.eq_2) <| And.intro h1 <| h2) ct30 ?_
        exact AWP.ret (Fin trivial [] [0])
  · rename_i b w
    split at hG
    case isFalse => cases hG
    rename_i hb
    cases hG
    have h1 := rnumB b hb
    unfold ld
    dsimp only
    generalize t8 b = R at *
    obtain ⟨x, r, e⟩ := R
    dsimp only at h1 ⊢
    cases w with
    | false =>
      repeat refine St2 (And.intro (And.intro @gentry.eq_1 <| @gentry.eq_2) <| h1) ct30 ?_
      exact AWP.ret (Fin trivial [] [0])
    | true =>
      by_cases he : e = 0
      · subst he
        repeat refine St2 (And.intro (And.intro @gentry.eq_1 <| @gentry.eq_2) <| h1) ct30 ?_
        exact AWP.ret (Fin trivial [] [0])
      · have h2 : (e == 0) = false := by simpa using he
        have h3 : decide (e = 0) = false := decide_eq_false he
        rw [h3]
        repeat refine St2 (And.intro (And.intro @gentry.eq_1 <| @gentry.eq_2) <| And.intro h1 <| h2) ct30 ?_
        exact AWP.ret (Fin trivial [] [0])
  · rename_i b w
    split at hG
    case isFalse => cases hG
    rename_i hb
    cases hG
    have h1 := rnumC b hb
    unfold ld
    dsimp only
    generalize t64 b = R at *
    obtain ⟨x, r, e⟩ := R
    dsimp only at h1 ⊢
    cases w with
    | false =>
      repeat refine St2 (And.intro (And.intro @gentry.eq_1 <| @gentry.eq_2) <| h1) ct30 ?_
      exact AWP.ret (Fin trivial [] [0])
    | true =>
      by_cases he : e = 0
      · subst he
        repeat refine St2 (And.intro (And.intro @gentry.eq_1 <| @gentry.eq_2) <| h1) ct30 ?_
        exact AWP.ret (Fin trivial [] [0])
      · have h2 : (e == 0) = false := by simpa using he
        have h3 : decide (e = 0) = false := decide_eq_false he
        rw [h3]
        repeat refine St2 (And.intro (And.intro @gentry.eq_1 <| @gentry.eq_2) <| And.intro h1 <| h2) ct30 ?_
        exact AWP.ret (Fin trivial [] [0])

theorem rtakA (b : List UInt8) (h : b.length ≤ 549755800000) : F52 [.by b, .int .i64 32] = some ([], .tup [.t (.by (spA b 32)), .t (.by (spB b 32)), .t (.int .i64 (spE b 32))]) := if_pos (by omega)
theorem rtakC (b : List UInt8) (m : Int) (h : b.length ≤ 549755800000) : F54 [.by b, .int .i64 m] = some ([], .tup [.t (.by (lim b m).1), .t (.by (lim b m).2.1), .t (.int .i64 (lim b m).2.2)]) := if_pos (by omega)
theorem rtakB (b : List UInt8) (h : b.length ≤ 549755800000) : F54 [.by b, .int .i64 40000] = some ([], .tup [.t (.by (tBts b).1), .t (.by (tBts b).2.1), .t (.int .i64 (tBts b).2.2)]) := rtakC b 40000 h

def G31 : GFun
  | [.bx (.t (.st [.by b, .bool w]))], [.ptr 0 0 []] => if b.length ≤ 549755800000 then some ([lX (ld tH ⟨b, w⟩).2], .t (.ba 32 (ld tH ⟨b, w⟩).1.1)) else none
  | _, _ => none

theorem ct31 : CT [(52, ⟨[false, false], treeG F52⟩), (53, ⟨[false], treeG F53⟩)] [0, 2, 3, 4, 5] [] := ⟨(.cons c52.g (.cons c53.g (.nil _)))⟩

set_option maxHeartbeats 1000000 in
theorem g31 : GCon Try.prog 31 G31 := by
  refine gconc E_ok (rs := [.cell 2 22]) Try.func31 rfl Try.ntmps31 (by kernel_rfl) rfl (by decide) G31 (np := 1) ?_ ?_
  · intro HB xs h; unfold G31; split <;> first | rfl | (simp at h; done)
  intro HB xs H r hG hwf hex
  unfold G31 at hG
  split at hG <;> try (cases hG; done)
  rename_i b w
  split at hG
  case isFalse => cases hG
  rename_i hb
  cases hG
  have h1 := rtakA b hb
  have hh : F53 [.by (spA b 32)] = some ([], .t (.ba 32 (tH b).1.1)) := by
    by_cases hx : spE b 32 = 0
    · obtain ⟨q1, q2, q3⟩ := sp_ok hx
      have hl : (spA b 32).length = 32 := by omega
      have ho : (tH b).1.1 = spA b 32 := hOf_val hl
      rw [ho]; exact if_pos hl
    · have ho : (tH b).1 = hOf (spA b 32) := rfl
      rw [ho, (sp_bad hx).1]
      rfl
  have h32 := (tH b).1.2
  have e1 : (tH b).2.1 = spB b 32 := rfl
  have e2 : (tH b).2.2 = spE b 32 := rfl
  unfold ld
  dsimp only
  rw [e1, e2]
  generalize (tH b).1.1 = y at *
  generalize spA b 32 = x at *
  generalize spB b 32 = r at *
  generalize spE b 32 = e at *
  cases w with
  | false =>
    repeat refine St2 (And.intro (And.intro @gentry.eq_1 <| @gentry.eq_2) <| And.intro h1 <| And.intro hh <| h32) ct31 ?_
    exact AWP.ret (Fin trivial [] [0])
  | true =>
    by_cases he : e = 0
    · subst he
      repeat refine St2 (And.intro (And.intro @gentry.eq_1 <| @gentry.eq_2) <| And.intro h1 <| And.intro hh <| h32) ct31 ?_
      exact AWP.ret (Fin trivial [] [0])
    · have h2 : (e == 0) = false := by simpa using he
      have h3 : decide (e = 0) = false := decide_eq_false he
      rw [h3]
      repeat refine St2 (And.intro (And.intro @gentry.eq_1 <| @gentry.eq_2) <| And.intro h1 <| And.intro h2 <| And.intro hh <| h32) ct31 ?_
      exact AWP.ret (Fin trivial [] [0])

def G32 : GFun
  | [.bx (.t (.st [.by b, .bool w]))], [.ptr 0 0 []] => if b.length ≤ 549755800000 then some ([lX (ld tBts ⟨b, w⟩).2], .t (.by (ld tBts ⟨b, w⟩).1)) else none
  | _, _ => none

theorem ct32 : CT [(54, ⟨[false, false], treeG F54⟩)] [0, 2, 3, 4, 5] [] := ⟨(.cons c54.g (.nil _))⟩

set_option maxHeartbeats 1000000 in
theorem g32 : GCon Try.prog 32 G32 := by
  refine gconc E_ok (rs := [.tmp 2 24]) Try.func32 rfl Try.ntmps32 (by kernel_rfl) rfl (by decide) G32 (np := 1) ?_ ?_
  · intro HB xs h; unfold G32; split <;> first | rfl | (simp at h; done)
  intro HB xs H r hG hwf hex
  unfold G32 at hG
  split at hG <;> try (cases hG; done)
  rename_i b w
  split at hG
  case isFalse => cases hG
  rename_i hb
  cases hG
  have h1 := rtakB b hb
  unfold ld
  dsimp only
  generalize tBts b = R at *
  obtain ⟨x, r, e⟩ := R
  dsimp only at h1 ⊢
  cases w with
  | false =>
    repeat refine St2 (And.intro (And.intro @gentry.eq_1 <| @gentry.eq_2) <| h1) ct32 ?_
    exact AWP.ret (Fin trivial [] [0])
  | true =>
    by_cases he : e = 0
    · subst he
      repeat refine St2 (And.intro (And.intro @gentry.eq_1 <| @gentry.eq_2) <| h1) ct32 ?_
      exact AWP.ret (Fin trivial [] [0])
    · have h2 : (e == 0) = false := by simpa using he
      have h3 : decide (e = 0) = false := decide_eq_false he
      rw [h3]
      repeat refine St2 (And.intro (And.intro @gentry.eq_1 <| @gentry.eq_2) <| And.intro h1 <| h2) ct32 ?_
      exact AWP.ret (Fin trivial [] [0])

end Go.Fw

end

section
/- rpc's answer: questions put, taken, compared. -/
namespace Go.Fw
open Go Go.Proofs
set_option linter.unusedVariables false
set_option linter.unusedSimpArgs false

theorem putQ_no {q : TQ} (h : mayQ q = false) : putQ q = [] ∧ putQe q = 1 := ⟨if_neg (by rw [h]; simp), if_neg (by rw [h]; simp)⟩
theorem putQ_yes {q : TQ} (h : mayQ q = true) : putQ q = q.op :: bodyK (kQ q.op) q ∧ putQe q = 0 := ⟨if_pos h, if_pos h⟩
theorem mayQ_op {q : TQ} (h : isOp q.op = false) : mayQ q = false := by simp only [mayQ, h, Bool.false_and]
theorem mayQ_long {q : TQ} (h : 40000 < q.bts.length) : mayQ q = false := by
  have : decide (q.bts.length ≤ 40000) = false := decide_eq_false (by omega)
  simp only [mayQ, this, Bool.and_false]
theorem mayQ_strip {q : TQ} (h : isOp q.op = true) (hl : q.bts.length ≤ 40000) : mayQ q = decide (stripK (kQ q.op) q = q) := by
  simp only [mayQ, h, decide_eq_true hl, Bool.true_and, Bool.and_true]; rfl

noncomputable def F11 : Fun
  | [y] => match inv qT y with
    | some q => if q.bts.length ≤ 549750000000 then some ([], .tup [.t (.by (putQ q)), .t (.int .i64 (putQe q))]) else none
    | none => none
  | _ => none

theorem ct11 : CT [(27, ⟨[false], treeG F27⟩), (28, ⟨[false, false, false], treeG F28⟩), (29, ⟨[false, false], treeG F29⟩)] [0, 1, 2, 3, 4, 5, 19, 62, 67, 73, 80, 87] [] := ⟨(.cons c27.g (.cons c28.g (.cons c29.g (.nil _))))⟩

set_option maxRecDepth 20000 in
set_option maxHeartbeats 4000000 in
theorem c11 : ACon Try.prog 11 F11 := by
  refine aconc E_ok (rs := [.tmp 2 24, .tmp 3 28]) Try.func11 rfl Try.ntmps11 (by kernel_rfl) rfl (by decide) F11 (np := 1) ?_ ?_
  · intro ts h; unfold F11; split <;> first | rfl | (simp at h; done)
  intro ts H r hF hwf
  unfold F11 at hF
  split at hF <;> try (cases hF; done)
  split at hF <;> try (cases hF; done)
  rename_i q hq
  split at hF
  case isFalse => cases hF
  rename_i hb
  cases hF
  obtain rfl := inv_inv hq
  obtain ⟨c, n, i, h, x⟩ := q
  rw [qT_st]
  dsimp only at hb ⊢
  have hn := n.2
  have c0 : (0 : Int) ≤ (c.toNat : Int) := by omega
  by_cases hA : (c.toNat : Int) < 1
  · have hno : mayQ ⟨c, n, i, h, x⟩ = false := mayQ_op (by show (decide (1 ≤ c.toNat) && decide (c.toNat ≤ 10)) = false; rw [decide_eq_false (show ¬ 1 ≤ c.toNat by omega)]; rfl)
    rw [(putQ_no hno).1, (putQ_no hno).2]
    repeat refine St hA ct11 ?_
    exact AWP.ret (Fin trivial [] [])
  by_cases hBg : 10 < (c.toNat : Int)
  · have hno : mayQ ⟨c, n, i, h, x⟩ = false := mayQ_op (by show (decide (1 ≤ c.toNat) && decide (c.toNat ≤ 10)) = false; rw [decide_eq_false (show ¬ c.toNat ≤ 10 by omega)]; exact Bool.and_false _)
    rw [(putQ_no hno).1, (putQ_no hno).2]
    repeat refine St (And.intro hA <| hBg) ct11 ?_
    exact AWP.ret (Fin trivial [] [])
  by_cases hC : (40000 : Int) < (x.length : Int)
  · have hno : mayQ ⟨c, n, i, h, x⟩ = false := mayQ_long (show 40000 < x.length by omega)
    rw [(putQ_no hno).1, (putQ_no hno).2]
    repeat refine St (And.intro hA <| And.intro hBg <| hC) ct11 ?_
    exact AWP.ret (Fin trivial [] [])
  have hop : isOp c = true := by show (decide (1 ≤ c.toNat) && decide (c.toNat ≤ 10)) = true; rw [decide_eq_true (show 1 ≤ c.toNat by omega), decide_eq_true (show c.toNat ≤ 10 by omega)]; rfl
  have hmay := mayQ_strip (q := ⟨c, n, i, h, x⟩) hop (show x.length ≤ 40000 by omega)
  have hyes := fun hh => putQ_yes (q := ⟨c, n, i, h, x⟩) hh
  have ha := ask_c c
  have hk := kQ_cases c
  have hof : UInt8.ofNat c.toNat = c := UInt8.ofNat_toNat ..
  dsimp only at hmay hyes
  generalize kQ c = k at *
  have hl0 : ([c] : List UInt8).length = 1 := rfl
  have hi2 := i.toNat_lt
  have hh2 := h.toNat_lt
  rcases hk with rfl | rfl | rfl | rfl | rfl | rfl
  · replace ha : F27 [.int .u8 (c.toNat : Int)] = some ([], .t (.ar 4 1 [.bool true, .bool false, .bool false, .bool false])) := ha
    by_cases ei : i = 0
    case neg =>
      have fi : ((i.toNat : Int) != 0) = true := by rw [bne_iff_ne]; exact fun hh => ei (n32_inj hh)
      have hno : mayQ ⟨c, n, i, h, x⟩ = false := by rw [hmay]; exact decide_eq_false fun hh => ei (congrArg TQ.idx hh).symm
      rw [(putQ_no hno).1, (putQ_no hno).2]
      repeat refine St (And.intro hA <| And.intro hBg <| And.intro hC <| And.intro ha <| And.intro hn <| fi) ct11 ?_
      exact AWP.ret (Fin trivial [] [])
    have fi : ((i.toNat : Int) != 0) = false := by rw [ei]; rfl
    by_cases eh : h = 0
    case neg =>
      have fh : ((h.toNat : Int) != 0) = true := by rw [bne_iff_ne]; exact fun hh => eh (n32_inj hh)
      have hno : mayQ ⟨c, n, i, h, x⟩ = false := by rw [hmay]; exact decide_eq_false fun hh => eh (congrArg TQ.hgt hh).symm
      rw [(putQ_no hno).1, (putQ_no hno).2]
      repeat refine St (And.intro hA <| And.intro hBg <| And.intro hC <| And.intro ha <| And.intro hn <| And.intro fi <| fh) ct11 ?_
      exact AWP.ret (Fin trivial [] [])
    have fh : ((h.toNat : Int) != 0) = false := by rw [eh]; rfl
    by_cases ex : x = []
    case neg =>
      have fx : 0 < x.length := List.length_pos_iff.2 ex
      have hno : mayQ ⟨c, n, i, h, x⟩ = false := by rw [hmay]; exact decide_eq_false fun hh => ex (congrArg TQ.bts hh).symm
      rw [(putQ_no hno).1, (putQ_no hno).2]
      repeat refine St (And.intro hA <| And.intro hBg <| And.intro hC <| And.intro ha <| And.intro hn <| And.intro fi <| And.intro fh <| fx) ct11 ?_
      exact AWP.ret (Fin trivial [] [])
    have fx : ¬ 0 < x.length := by rw [ex]; exact Nat.lt_irrefl 0
    have hy : mayQ ⟨c, n, i, h, x⟩ = true := by rw [hmay]; exact decide_eq_true (by subst ei; subst eh; subst ex; rfl)
    rw [(hyes hy).1, (hyes hy).2]
    have ht : n.1.take 32 = n.1 := List.take_of_length_le (by omega)
    repeat refine St (And.intro hA <| And.intro hBg <| And.intro hC <| And.intro ha <| And.intro hn <| And.intro fi <| And.intro fh <| And.intro fx <| And.intro hof <| ht) ct11 ?_
    exact AWP.ret (Fin (And.intro hof <| @bodyK.eq_def) [3] [])
  · replace ha : F27 [.int .u8 (c.toNat : Int)] = some ([], .t (.ar 4 1 [.bool true, .bool true, .bool false, .bool false])) := ha
    by_cases eh : h = 0
    case neg =>
      have fh : ((h.toNat : Int) != 0) = true := by rw [bne_iff_ne]; exact fun hh => eh (n32_inj hh)
      have hno : mayQ ⟨c, n, i, h, x⟩ = false := by rw [hmay]; exact decide_eq_false fun hh => eh (congrArg TQ.hgt hh).symm
      rw [(putQ_no hno).1, (putQ_no hno).2]
      repeat refine St (And.intro hA <| And.intro hBg <| And.intro hC <| And.intro ha <| And.intro hn <| fh) ct11 ?_
      exact AWP.ret (Fin trivial [] [])
    have fh : ((h.toNat : Int) != 0) = false := by rw [eh]; rfl
    by_cases ex : x = []
    case neg =>
      have fx : 0 < x.length := List.length_pos_iff.2 ex
      have hno : mayQ ⟨c, n, i, h, x⟩ = false := by rw [hmay]; exact decide_eq_false fun hh => ex (congrArg TQ.bts hh).symm
      rw [(putQ_no hno).1, (putQ_no hno).2]
      repeat refine St (And.intro hA <| And.intro hBg <| And.intro hC <| And.intro ha <| And.intro hn <| And.intro fh <| fx) ct11 ?_
      exact AWP.ret (Fin trivial [] [])
    have fx : ¬ 0 < x.length := by rw [ex]; exact Nat.lt_irrefl 0
    have hy : mayQ ⟨c, n, i, h, x⟩ = true := by rw [hmay]; exact decide_eq_true (by subst eh; subst ex; rfl)
    rw [(hyes hy).1, (hyes hy).2]
    have ht : n.1.take 32 = n.1 := List.take_of_length_le (by omega)
    have p1 := put_c (b := c :: n.1) (i.toNat : Int) 4 (by rw [List.length_cons]; omega) (by omega) (by omega)
    repeat refine St (And.intro hA <| And.intro hBg <| And.intro hC <| And.intro ha <| And.intro hn <| And.intro fh <| And.intro fx <| And.intro hof <| And.intro ht <| p1) ct11 ?_
    exact AWP.ret (Fin (And.intro hof <| @bodyK.eq_def) [4] [])
  · replace ha : F27 [.int .u8 (c.toNat : Int)] = some ([], .t (.ar 4 1 [.bool false, .bool false, .bool false, .bool true])) := ha
    by_cases en : n = zH
    case neg =>
      have fn : (n.1 == zby 32) = false := by rw [beq_eq_false_iff_ne]; exact fun hh => en (Subtype.ext hh)
      have hno : mayQ ⟨c, n, i, h, x⟩ = false := by rw [hmay]; exact decide_eq_false fun hh => en (congrArg TQ.name hh).symm
      rw [(putQ_no hno).1, (putQ_no hno).2]
      repeat refine St (And.intro hA <| And.intro hBg <| And.intro hC <| And.intro ha <| And.intro hn <| fn) ct11 ?_
      exact AWP.ret (Fin trivial [] [])
    have fn : (n.1 == zby 32) = true := by rw [en]; rfl
    by_cases ei : i = 0
    case neg =>
      have fi : ((i.toNat : Int) != 0) = true := by rw [bne_iff_ne]; exact fun hh => ei (n32_inj hh)
      have hno : mayQ ⟨c, n, i, h, x⟩ = false := by rw [hmay]; exact decide_eq_false fun hh => ei (congrArg TQ.idx hh).symm
      rw [(putQ_no hno).1, (putQ_no hno).2]
      repeat refine St (And.intro hA <| And.intro hBg <| And.intro hC <| And.intro ha <| And.intro hn <| And.intro fn <| fi) ct11 ?_
      exact AWP.ret (Fin trivial [] [])
    have fi : ((i.toNat : Int) != 0) = false := by rw [ei]; rfl
    by_cases eh : h = 0
    case neg =>
      have fh : ((h.toNat : Int) != 0) = true := by rw [bne_iff_ne]; exact fun hh => eh (n32_inj hh)
      have hno : mayQ ⟨c, n, i, h, x⟩ = false := by rw [hmay]; exact decide_eq_false fun hh => eh (congrArg TQ.hgt hh).symm
      rw [(putQ_no hno).1, (putQ_no hno).2]
      repeat refine St (And.intro hA <| And.intro hBg <| And.intro hC <| And.intro ha <| And.intro hn <| And.intro fn <| And.intro fi <| fh) ct11 ?_
      exact AWP.ret (Fin trivial [] [])
    have fh : ((h.toNat : Int) != 0) = false := by rw [eh]; rfl
    have hy : mayQ ⟨c, n, i, h, x⟩ = true := by rw [hmay]; exact decide_eq_true (by subst en; subst ei; subst eh; rfl)
    rw [(hyes hy).1, (hyes hy).2]
    have p1 : F29 [.by [c], .by x] = some ([.by ([c] ++ sizeB x.length ++ x)], .own 0) := if_pos (by omega)
    repeat refine St (And.intro hA <| And.intro hBg <| And.intro hC <| And.intro ha <| And.intro hn <| And.intro fn <| And.intro fi <| And.intro fh <| And.intro hof <| p1) ct11 ?_
    exact AWP.ret (Fin (And.intro hof <| @bodyK.eq_def) [3] [])
  · replace ha : F27 [.int .u8 (c.toNat : Int)] = some ([], .t (.ar 4 1 [.bool false, .bool true, .bool true, .bool false])) := ha
    by_cases en : n = zH
    case neg =>
      have fn : (n.1 == zby 32) = false := by rw [beq_eq_false_iff_ne]; exact fun hh => en (Subtype.ext hh)
      have hno : mayQ ⟨c, n, i, h, x⟩ = false := by rw [hmay]; exact decide_eq_false fun hh => en (congrArg TQ.name hh).symm
      rw [(putQ_no hno).1, (putQ_no hno).2]
      repeat refine St (And.intro hA <| And.intro hBg <| And.intro hC <| And.intro ha <| And.intro hn <| fn) ct11 ?_
      exact AWP.ret (Fin trivial [] [])
    have fn : (n.1 == zby 32) = true := by rw [en]; rfl
    by_cases ex : x = []
    case neg =>
      have fx : 0 < x.length := List.length_pos_iff.2 ex
      have hno : mayQ ⟨c, n, i, h, x⟩ = false := by rw [hmay]; exact decide_eq_false fun hh => ex (congrArg TQ.bts hh).symm
      rw [(putQ_no hno).1, (putQ_no hno).2]
      repeat refine St (And.intro hA <| And.intro hBg <| And.intro hC <| And.intro ha <| And.intro hn <| And.intro fn <| fx) ct11 ?_
      exact AWP.ret (Fin trivial [] [])
    have fx : ¬ 0 < x.length := by rw [ex]; exact Nat.lt_irrefl 0
    have hy : mayQ ⟨c, n, i, h, x⟩ = true := by rw [hmay]; exact decide_eq_true (by subst en; subst ex; rfl)
    rw [(hyes hy).1, (hyes hy).2]
    have p1 := put_c (b := [c]) (i.toNat : Int) 4 (by omega) (by omega) (by omega)
    have p2 := put_c (b := c :: le 4 (i.toNat : Int)) (h.toNat : Int) 4 (by rw [List.length_cons, le_len]; omega) (by omega) (by omega)
    repeat refine St (And.intro hA <| And.intro hBg <| And.intro hC <| And.intro ha <| And.intro hn <| And.intro fn <| And.intro fx <| And.intro hof <| And.intro p1 <| p2) ct11 ?_
    exact AWP.ret (Fin (And.intro hof <| @bodyK.eq_def) [4] [])
  · replace ha : F27 [.int .u8 (c.toNat : Int)] = some ([], .t (.ar 4 1 [.bool false, .bool false, .bool true, .bool false])) := ha
    by_cases en : n = zH
    case neg =>
      have fn : (n.1 == zby 32) = false := by rw [beq_eq_false_iff_ne]; exact fun hh => en (Subtype.ext hh)
      have hno : mayQ ⟨c, n, i, h, x⟩ = false := by rw [hmay]; exact decide_eq_false fun hh => en (congrArg TQ.name hh).symm
      rw [(putQ_no hno).1, (putQ_no hno).2]
      repeat refine St (And.intro hA <| And.intro hBg <| And.intro hC <| And.intro ha <| And.intro hn <| fn) ct11 ?_
      exact AWP.ret (Fin trivial [] [])
    have fn : (n.1 == zby 32) = true := by rw [en]; rfl
    by_cases ei : i = 0
    case neg =>
      have fi : ((i.toNat : Int) != 0) = true := by rw [bne_iff_ne]; exact fun hh => ei (n32_inj hh)
      have hno : mayQ ⟨c, n, i, h, x⟩ = false := by rw [hmay]; exact decide_eq_false fun hh => ei (congrArg TQ.idx hh).symm
      rw [(putQ_no hno).1, (putQ_no hno).2]
      repeat refine St (And.intro hA <| And.intro hBg <| And.intro hC <| And.intro ha <| And.intro hn <| And.intro fn <| fi) ct11 ?_
      exact AWP.ret (Fin trivial [] [])
    have fi : ((i.toNat : Int) != 0) = false := by rw [ei]; rfl
    by_cases ex : x = []
    case neg =>
      have fx : 0 < x.length := List.length_pos_iff.2 ex
      have hno : mayQ ⟨c, n, i, h, x⟩ = false := by rw [hmay]; exact decide_eq_false fun hh => ex (congrArg TQ.bts hh).symm
      rw [(putQ_no hno).1, (putQ_no hno).2]
      repeat refine St (And.intro hA <| And.intro hBg <| And.intro hC <| And.intro ha <| And.intro hn <| And.intro fn <| And.intro fi <| fx) ct11 ?_
      exact AWP.ret (Fin trivial [] [])
    have fx : ¬ 0 < x.length := by rw [ex]; exact Nat.lt_irrefl 0
    have hy : mayQ ⟨c, n, i, h, x⟩ = true := by rw [hmay]; exact decide_eq_true (by subst en; subst ei; subst ex; rfl)
    rw [(hyes hy).1, (hyes hy).2]
    have p1 := put_c (b := [c]) (h.toNat : Int) 4 (by omega) (by omega) (by omega)
    repeat refine St (And.intro hA <| And.intro hBg <| And.intro hC <| And.intro ha <| And.intro hn <| And.intro fn <| And.intro fi <| And.intro fx <| And.intro hof <| p1) ct11 ?_
    exact AWP.ret (Fin (And.intro hof <| @bodyK.eq_def) [3] [])
  · replace ha : F27 [.int .u8 (c.toNat : Int)] = some ([], .t (.ar 4 1 [.bool false, .bool false, .bool false, .bool false])) := ha
    by_cases en : n = zH
    case neg =>
      have fn : (n.1 == zby 32) = false := by rw [beq_eq_false_iff_ne]; exact fun hh => en (Subtype.ext hh)
      have hno : mayQ ⟨c, n, i, h, x⟩ = false := by rw [hmay]; exact decide_eq_false fun hh => en (congrArg TQ.name hh).symm
      rw [(putQ_no hno).1, (putQ_no hno).2]
      repeat refine St (And.intro hA <| And.intro hBg <| And.intro hC <| And.intro ha <| And.intro hn <| fn) ct11 ?_
      exact AWP.ret (Fin trivial [] [])
    have fn : (n.1 == zby 32) = true := by rw [en]; rfl
    by_cases ei : i = 0
    case neg =>
      have fi : ((i.toNat : Int) != 0) = true := by rw [bne_iff_ne]; exact fun hh => ei (n32_inj hh)
      have hno : mayQ ⟨c, n, i, h, x⟩ = false := by rw [hmay]; exact decide_eq_false fun hh => ei (congrArg TQ.idx hh).symm
      rw [(putQ_no hno).1, (putQ_no hno).2]
      repeat refine St (And.intro hA <| And.intro hBg <| And.intro hC <| And.intro ha <| And.intro hn <| And.intro fn <| fi) ct11 ?_
      exact AWP.ret (Fin trivial [] [])
    have fi : ((i.toNat : Int) != 0) = false := by rw [ei]; rfl
    by_cases eh : h = 0
    case neg =>
      have fh : ((h.toNat : Int) != 0) = true := by rw [bne_iff_ne]; exact fun hh => eh (n32_inj hh)
      have hno : mayQ ⟨c, n, i, h, x⟩ = false := by rw [hmay]; exact decide_eq_false fun hh => eh (congrArg TQ.hgt hh).symm
      rw [(putQ_no hno).1, (putQ_no hno).2]
      repeat refine St (And.intro hA <| And.intro hBg <| And.intro hC <| And.intro ha <| And.intro hn <| And.intro fn <| And.intro fi <| fh) ct11 ?_
      exact AWP.ret (Fin trivial [] [])
    have fh : ((h.toNat : Int) != 0) = false := by rw [eh]; rfl
    by_cases ex : x = []
    case neg =>
      have fx : 0 < x.length := List.length_pos_iff.2 ex
      have hno : mayQ ⟨c, n, i, h, x⟩ = false := by rw [hmay]; exact decide_eq_false fun hh => ex (congrArg TQ.bts hh).symm
      rw [(putQ_no hno).1, (putQ_no hno).2]
      repeat refine St (And.intro hA <| And.intro hBg <| And.intro hC <| And.intro ha <| And.intro hn <| And.intro fn <| And.intro fi <| And.intro fh <| fx) ct11 ?_
      exact AWP.ret (Fin trivial [] [])
    have fx : ¬ 0 < x.length := by rw [ex]; exact Nat.lt_irrefl 0
    have hy : mayQ ⟨c, n, i, h, x⟩ = true := by rw [hmay]; exact decide_eq_true (by subst en; subst ei; subst eh; subst ex; rfl)
    rw [(hyes hy).1, (hyes hy).2]
    repeat refine St (And.intro hA <| And.intro hBg <| And.intro hC <| And.intro ha <| And.intro hn <| And.intro fn <| And.intro fi <| And.intro fh <| And.intro fx <| hof) ct11 ?_
    exact AWP.ret (Fin (And.intro hof <| @bodyK.eq_def) [2] [])

theorem rpuq_c {q : TQ} (h : q.bts.length ≤ 549750000000) : F11 [qT q] = some ([], .tup [.t (.by (putQ q)), .t (.int .i64 (putQe q))]) := by
  simp only [F11, inv_of qT_inj]; exact if_pos h

noncomputable def F15 : Fun
  | [x, y] => match inv qT x, inv qT y with
    | some a, some b => some ([], .t (.bool (decide (a = b))))
    | _, _ => none
  | _ => none

theorem ct15 : CT [] [0, 1, 2, 3, 4] [] := ⟨GClOk.nil _⟩

set_option maxHeartbeats 2000000 in
theorem c15 : ACon Try.prog 15 F15 := by
  refine aconc E_ok (rs := [.tmp 4 4]) Try.func15 rfl Try.ntmps15 (by kernel_rfl) rfl (by decide) F15 (np := 2) ?_ ?_
  · intro ts h; unfold F15; split <;> first | rfl | (simp at h; done)
  intro ts H r hF hwf
  unfold F15 at hF
  split at hF <;> try (cases hF; done)
  split at hF <;> try (cases hF; done)
  rename_i a b ha hb
  cases hF
  obtain rfl := inv_inv ha
  obtain rfl := inv_inv hb
  obtain ⟨o, n, i, h, x⟩ := a
  obtain ⟨o', n', i', h', x'⟩ := b
  rw [qT_st, qT_st]
  dsimp only
  have hn1 := n.2
  have hn2 := n'.2
  by_cases e0 : o = o'
  case neg =>
    have f0 : ((o.toNat : Int) == (o'.toNat : Int)) = false := by rw [beq_eq_false_iff_ne]; exact fun hh => e0 (n8_inj hh)
    have hd : decide ((⟨o, n, i, h, x⟩ : TQ) = ⟨o', n', i', h', x'⟩) = false := decide_eq_false fun hh => e0 (TQ.mk.inj hh).1
    repeat refine St (And.intro hn1 <| And.intro hn2 <| f0) ct15 ?_
    exact AWP.ret (Fin hd [] [])
  subst e0
  have f0 : ((o.toNat : Int) == (o.toNat : Int)) = true := beq_self_eq_true _
  by_cases e1 : n = n'
  case neg =>
    have f1 : (n.1 == n'.1) = false := by rw [beq_eq_false_iff_ne]; exact fun hh => e1 (Subtype.ext hh)
    have hd : decide ((⟨o, n, i, h, x⟩ : TQ) = ⟨o, n', i', h', x'⟩) = false := decide_eq_false fun hh => e1 (TQ.mk.inj hh).2.1
    repeat refine St (And.intro hn1 <| And.intro hn2 <| And.intro f0 <| f1) ct15 ?_
    exact AWP.ret (Fin hd [] [])
  subst e1
  have f1 : (n.1 == n.1) = true := beq_self_eq_true _
  by_cases e2 : i = i'
  case neg =>
    have f2 : ((i.toNat : Int) == (i'.toNat : Int)) = false := by rw [beq_eq_false_iff_ne]; exact fun hh => e2 (n32_inj hh)
    have hd : decide ((⟨o, n, i, h, x⟩ : TQ) = ⟨o, n, i', h', x'⟩) = false := decide_eq_false fun hh => e2 (TQ.mk.inj hh).2.2.1
    repeat refine St (And.intro hn1 <| And.intro hn2 <| And.intro f0 <| And.intro f1 <| f2) ct15 ?_
    exact AWP.ret (Fin hd [] [])
  subst e2
  have f2 : ((i.toNat : Int) == (i.toNat : Int)) = true := beq_self_eq_true _
  by_cases e3 : h = h'
  case neg =>
    have f3 : ((h.toNat : Int) == (h'.toNat : Int)) = false := by rw [beq_eq_false_iff_ne]; exact fun hh => e3 (n32_inj hh)
    have hd : decide ((⟨o, n, i, h, x⟩ : TQ) = ⟨o, n, i, h', x'⟩) = false := decide_eq_false fun hh => e3 (TQ.mk.inj hh).2.2.2.1
    repeat refine St (And.intro hn1 <| And.intro hn2 <| And.intro f0 <| And.intro f1 <| And.intro f2 <| f3) ct15 ?_
    exact AWP.ret (Fin hd [] [])
  subst e3
  have f3 : ((h.toNat : Int) == (h.toNat : Int)) = true := beq_self_eq_true _
  by_cases e4 : x = x'
  case neg =>
    have f4 : (x == x') = false := by rw [beq_eq_false_iff_ne]; exact fun hh => e4 (hh)
    have hd : decide ((⟨o, n, i, h, x⟩ : TQ) = ⟨o, n, i, h, x'⟩) = false := decide_eq_false fun hh => e4 (TQ.mk.inj hh).2.2.2.2
    repeat refine St (And.intro hn1 <| And.intro hn2 <| And.intro f0 <| And.intro f1 <| And.intro f2 <| And.intro f3 <| f4) ct15 ?_
    exact AWP.ret (Fin hd [] [])
  subst e4
  have f4 : (x == x) = true := beq_self_eq_true _
  have hd : decide ((⟨o, n, i, h, x⟩ : TQ) = ⟨o, n, i, h, x⟩) = true := decide_eq_true rfl
  repeat refine St (And.intro hn1 <| And.intro hn2 <| And.intro f0 <| And.intro f1 <| And.intro f2 <| And.intro f3 <| f4) ct15 ?_
  exact AWP.ret (Fin hd [] [])

theorem rsame_q (a b : TQ) : F15 [qT a, qT b] = some ([], .t (.bool (decide (a = b)))) := by
  simp only [F15, inv_of qT_inj]

end Go.Fw

end

section
/- rpc's answer: answers compared. -/
namespace Go.Fw
open Go Go.Proofs
set_option linter.unusedVariables false
set_option linter.unusedSimpArgs false

noncomputable def F18 : Fun
  | [x, y] => match inv aT x, inv aT y with
    | some a, some b => some ([], .t (.bool (decide (a = b))))
    | _, _ => none
  | _ => none

theorem ct18 : CT [] [0, 1, 2, 3, 4, 5, 6, 87, 92, 105, 110, 123] [(6, [⟨0, [2], [], []⟩, ⟨1, [95], [], []⟩, ⟨0, [5], [], []⟩, ⟨1, [96, 97], [1], []⟩, ⟨1, [98], [1, 3], []⟩, ⟨0, [3], [], []⟩, ⟨1, [100], [], []⟩, ⟨0, [5], [], []⟩, ⟨1, [101, 102], [6], []⟩, ⟨1, [103], [6, 8], []⟩, ⟨0, [99, 104], [1, 3, 4, 6, 8, 9], []⟩]), (11, [⟨0, [2], [], []⟩, ⟨1, [113], [], []⟩, ⟨0, [6], [], []⟩, ⟨1, [114, 115], [1], []⟩, ⟨1, [116], [1, 3], []⟩, ⟨0, [3], [], []⟩, ⟨1, [118], [], []⟩, ⟨0, [6], [], []⟩, ⟨1, [119, 120], [6], []⟩, ⟨1, [121], [6, 8], []⟩, ⟨0, [117, 122], [1, 3, 4, 6, 8, 9], []⟩])] := ⟨GClOk.nil _⟩

theorem bne_t {α : Type} [BEq α] {a b : α} (h : (a == b) = false) : (a != b) = true := by unfold bne; rw [h]; rfl
theorem bne_f {α : Type} [BEq α] {a b : α} (h : (a == b) = true) : (a != b) = false := by unfold bne; rw [h]; rfl

set_option maxRecDepth 20000 in
set_option maxHeartbeats 8000000 in
theorem c18 : ACon Try.prog 18 F18 := by
  refine aconc E_ok (rs := [.tmp 4 4]) Try.func18 rfl Try.ntmps18 (by kernel_rfl) rfl (by decide) F18 (np := 2) ?_ ?_
  · intro ts h; unfold F18; split <;> first | rfl | (simp at h; done)
  intro ts H r hF hwf
  unfold F18 at hF
  split at hF <;> try (cases hF; done)
  split at hF <;> try (cases hF; done)
  rename_i a b ha hb
  cases hF
  have hwl := hwf _ (List.mem_cons_self ..)
  obtain rfl := inv_inv ha
  obtain rfl := inv_inv hb
  clear ha hb hwf
  obtain ⟨o, e, n, g, w, v, f, x, E, u, N⟩ := a
  obtain ⟨o', e', n', g', w', v', f', x', E', u', N'⟩ := b
  have hlE : E.length ≤ 9223372036854775807 ∧ N.length ≤ 9223372036854775807 := by
    rw [aT_st] at hwl
    simp only [T.wf, T.wfL, List.length_map] at hwl
    have e1 : maxLen = 9223372036854775807 := rfl
    omega
  obtain ⟨hlE, hlN⟩ := hlE
  clear hwl
  rw [aT_st, aT_st]
  dsimp only
  have hn1 := n.2
  have hn2 := n'.2
  obtain ⟨u0, u1, u2, u3, u4, hu⟩ := n5_ex u
  obtain ⟨y0, y1, y2, y3, y4, hu'⟩ := n5_ex u'
  subst hu
  subst hu'
  simp only [wT, List.map_cons, List.map_nil, nT]
  have b1 := n8_beq o o'
  have b2 := int_beq e e'
  have b3 := h32_beq n n'
  have b4 := n32_beq g g'
  have b5 := w4_beq w w'
  have b6 := n64_beq v v'
  have b7 := bool_beq f f'
  have b8 := n5_beq u0 u1 u2 u3 u4 y0 y1 y2 y3 y4
  have b9 := by_beq x x'
  have b10 := int_beq (E.length : Int) (E'.length : Int)
  have b11 := int_beq (N.length : Int) (N'.length : Int)
  have mE : (E.map eT).length = E.length := List.length_map ..
  have mE' : (E'.map eT).length = E'.length := List.length_map ..
  have mN : (N.map hT).length = N.length := List.length_map ..
  have mN' : (N'.map hT).length = N'.length := List.length_map ..
  generalize hA : (⟨[u0, u1, u2, u3, u4], rfl⟩ : N5) = u at *
  generalize hB : (⟨[y0, y1, y2, y3, y4], rfl⟩ : N5) = u' at *
  clear hA hB
  by_cases k0 : o = o'
  case neg =>
    rw [decide_eq_false k0] at b1
    have hd : decide ((⟨o, e, n, g, w, v, f, x, E, u, N⟩ : TA) = ⟨o', e', n', g', w', v', f', x', E', u', N'⟩) = false := decide_eq_false (fun hh => k0 (TA.mk.inj hh).1)
    rw [hd]
    have m0 := bne_t b1
    repeat refine St (And.intro @lapp1 <| And.intro @lapp2 <| And.intro hn1 <| And.intro hn2 <| And.intro mE <| And.intro mE' <| And.intro mN <| And.intro mN' <| And.intro b1 <| m0) ct18 ?_
    exact AWP.ret (Fin trivial [] [])
  rw [decide_eq_true k0] at b1
  have m0 := bne_f b1
  by_cases k1 : e = e'
  case neg =>
    rw [decide_eq_false k1] at b2
    have hd : decide ((⟨o, e, n, g, w, v, f, x, E, u, N⟩ : TA) = ⟨o', e', n', g', w', v', f', x', E', u', N'⟩) = false := decide_eq_false (fun hh => k1 (TA.mk.inj hh).2.1)
    rw [hd]
    have m1 := bne_t b2
    repeat refine St (And.intro @lapp1 <| And.intro @lapp2 <| And.intro hn1 <| And.intro hn2 <| And.intro mE <| And.intro mE' <| And.intro mN <| And.intro mN' <| And.intro b1 <| And.intro m0 <| And.intro b2 <| m1) ct18 ?_
    exact AWP.ret (Fin trivial [] [])
  rw [decide_eq_true k1] at b2
  have m1 := bne_f b2
  by_cases k2 : n = n'
  case neg =>
    rw [decide_eq_false k2] at b3
    have hd : decide ((⟨o, e, n, g, w, v, f, x, E, u, N⟩ : TA) = ⟨o', e', n', g', w', v', f', x', E', u', N'⟩) = false := decide_eq_false (fun hh => k2 (TA.mk.inj hh).2.2.1)
    rw [hd]
    repeat refine St (And.intro @lapp1 <| And.intro @lapp2 <| And.intro hn1 <| And.intro hn2 <| And.intro mE <| And.intro mE' <| And.intro mN <| And.intro mN' <| And.intro b1 <| And.intro m0 <| And.intro b2 <| And.intro m1 <| b3) ct18 ?_
    exact AWP.ret (Fin trivial [] [])
  rw [decide_eq_true k2] at b3
  by_cases k3 : g = g'
  case neg =>
    rw [decide_eq_false k3] at b4
    have hd : decide ((⟨o, e, n, g, w, v, f, x, E, u, N⟩ : TA) = ⟨o', e', n', g', w', v', f', x', E', u', N'⟩) = false := decide_eq_false (fun hh => k3 (TA.mk.inj hh).2.2.2.1)
    rw [hd]
    have m3 := bne_t b4
    repeat refine St (And.intro @lapp1 <| And.intro @lapp2 <| And.intro hn1 <| And.intro hn2 <| And.intro mE <| And.intro mE' <| And.intro mN <| And.intro mN' <| And.intro b1 <| And.intro m0 <| And.intro b2 <| And.intro m1 <| And.intro b3 <| And.intro b4 <| m3) ct18 ?_
    exact AWP.ret (Fin trivial [] [])
  rw [decide_eq_true k3] at b4
  have m3 := bne_f b4
  by_cases k4 : w = w'
  case neg =>
    rw [decide_eq_false k4] at b5
    have hd : decide ((⟨o, e, n, g, w, v, f, x, E, u, N⟩ : TA) = ⟨o', e', n', g', w', v', f', x', E', u', N'⟩) = false := decide_eq_false (fun hh => k4 (TA.mk.inj hh).2.2.2.2.1)
    rw [hd]
    repeat refine St (And.intro @lapp1 <| And.intro @lapp2 <| And.intro hn1 <| And.intro hn2 <| And.intro mE <| And.intro mE' <| And.intro mN <| And.intro mN' <| And.intro b1 <| And.intro m0 <| And.intro b2 <| And.intro m1 <| And.intro b3 <| And.intro b4 <| And.intro m3 <| b5) ct18 ?_
    exact AWP.ret (Fin trivial [] [])
  rw [decide_eq_true k4] at b5
  by_cases k5 : v = v'
  case neg =>
    rw [decide_eq_false k5] at b6
    have hd : decide ((⟨o, e, n, g, w, v, f, x, E, u, N⟩ : TA) = ⟨o', e', n', g', w', v', f', x', E', u', N'⟩) = false := decide_eq_false (fun hh => k5 (TA.mk.inj hh).2.2.2.2.2.1)
    rw [hd]
    have m5 := bne_t b6
    repeat refine St (And.intro @lapp1 <| And.intro @lapp2 <| And.intro hn1 <| And.intro hn2 <| And.intro mE <| And.intro mE' <| And.intro mN <| And.intro mN' <| And.intro b1 <| And.intro m0 <| And.intro b2 <| And.intro m1 <| And.intro b3 <| And.intro b4 <| And.intro m3 <| And.intro b5 <| And.intro b6 <| m5) ct18 ?_
    exact AWP.ret (Fin trivial [] [])
  rw [decide_eq_true k5] at b6
  have m5 := bne_f b6
  by_cases k6 : f = f'
  case neg =>
    rw [decide_eq_false k6] at b7
    have hd : decide ((⟨o, e, n, g, w, v, f, x, E, u, N⟩ : TA) = ⟨o', e', n', g', w', v', f', x', E', u', N'⟩) = false := decide_eq_false (fun hh => k6 (TA.mk.inj hh).2.2.2.2.2.2.1)
    rw [hd]
    have m6 := bne_t b7
    repeat refine St (And.intro @lapp1 <| And.intro @lapp2 <| And.intro hn1 <| And.intro hn2 <| And.intro mE <| And.intro mE' <| And.intro mN <| And.intro mN' <| And.intro b1 <| And.intro m0 <| And.intro b2 <| And.intro m1 <| And.intro b3 <| And.intro b4 <| And.intro m3 <| And.intro b5 <| And.intro b6 <| And.intro m5 <| And.intro b7 <| m6) ct18 ?_
    exact AWP.ret (Fin trivial [] [])
  rw [decide_eq_true k6] at b7
  have m6 := bne_f b7
  by_cases k7 : x = x'
  case neg =>
    rw [decide_eq_false k7] at b9
    have hd : decide ((⟨o, e, n, g, w, v, f, x, E, u, N⟩ : TA) = ⟨o', e', n', g', w', v', f', x', E', u', N'⟩) = false := decide_eq_false (fun hh => k7 (TA.mk.inj hh).2.2.2.2.2.2.2.1)
    rw [hd]
    have m7 := bne_t b9
    repeat refine St (And.intro @lapp1 <| And.intro @lapp2 <| And.intro hn1 <| And.intro hn2 <| And.intro mE <| And.intro mE' <| And.intro mN <| And.intro mN' <| And.intro b1 <| And.intro m0 <| And.intro b2 <| And.intro m1 <| And.intro b3 <| And.intro b4 <| And.intro m3 <| And.intro b5 <| And.intro b6 <| And.intro m5 <| And.intro b7 <| And.intro m6 <| And.intro b9 <| m7) ct18 ?_
    exact AWP.ret (Fin trivial [] [])
  rw [decide_eq_true k7] at b9
  have m7 := bne_f b9
  by_cases k8 : u = u'
  case neg =>
    rw [decide_eq_false k8] at b8
    have hd : decide ((⟨o, e, n, g, w, v, f, x, E, u, N⟩ : TA) = ⟨o', e', n', g', w', v', f', x', E', u', N'⟩) = false := decide_eq_false (fun hh => k8 (TA.mk.inj hh).2.2.2.2.2.2.2.2.2.1)
    rw [hd]
    repeat refine St (And.intro @lapp1 <| And.intro @lapp2 <| And.intro hn1 <| And.intro hn2 <| And.intro mE <| And.intro mE' <| And.intro mN <| And.intro mN' <| And.intro b1 <| And.intro m0 <| And.intro b2 <| And.intro m1 <| And.intro b3 <| And.intro b4 <| And.intro m3 <| And.intro b5 <| And.intro b6 <| And.intro m5 <| And.intro b7 <| And.intro m6 <| And.intro b9 <| And.intro m7 <| b8) ct18 ?_
    exact AWP.ret (Fin trivial [] [])
  rw [decide_eq_true k8] at b8
  by_cases k9 : (E.length : Int) = (E'.length : Int)
  case neg =>
    rw [decide_eq_false k9] at b10
    have hd : decide ((⟨o, e, n, g, w, v, f, x, E, u, N⟩ : TA) = ⟨o', e', n', g', w', v', f', x', E', u', N'⟩) = false := decide_eq_false (fun hh => k9 (by rw [(TA.mk.inj hh).2.2.2.2.2.2.2.2.1]))
    rw [hd]
    have m9 := bne_t b10
    repeat refine St (And.intro @lapp1 <| And.intro @lapp2 <| And.intro hn1 <| And.intro hn2 <| And.intro mE <| And.intro mE' <| And.intro mN <| And.intro mN' <| And.intro b1 <| And.intro m0 <| And.intro b2 <| And.intro m1 <| And.intro b3 <| And.intro b4 <| And.intro m3 <| And.intro b5 <| And.intro b6 <| And.intro m5 <| And.intro b7 <| And.intro m6 <| And.intro b9 <| And.intro m7 <| And.intro b8 <| And.intro b10 <| m9) ct18 ?_
    exact AWP.ret (Fin trivial [] [])
  rw [decide_eq_true k9] at b10
  have m9 := bne_f b10
  by_cases k10 : (N.length : Int) = (N'.length : Int)
  case neg =>
    rw [decide_eq_false k10] at b11
    have hd : decide ((⟨o, e, n, g, w, v, f, x, E, u, N⟩ : TA) = ⟨o', e', n', g', w', v', f', x', E', u', N'⟩) = false := decide_eq_false (fun hh => k10 (by rw [(TA.mk.inj hh).2.2.2.2.2.2.2.2.2.2]))
    rw [hd]
    have m10 := bne_t b11
    repeat refine St (And.intro @lapp1 <| And.intro @lapp2 <| And.intro hn1 <| And.intro hn2 <| And.intro mE <| And.intro mE' <| And.intro mN <| And.intro mN' <| And.intro b1 <| And.intro m0 <| And.intro b2 <| And.intro m1 <| And.intro b3 <| And.intro b4 <| And.intro m3 <| And.intro b5 <| And.intro b6 <| And.intro m5 <| And.intro b7 <| And.intro m6 <| And.intro b9 <| And.intro m7 <| And.intro b8 <| And.intro b10 <| And.intro m9 <| And.intro b11 <| m10) ct18 ?_
    exact AWP.ret (Fin trivial [] [])
  rw [decide_eq_true k10] at b11
  have m10 := bne_f b11
  repeat refine St (And.intro @lapp1 <| And.intro @lapp2 <| And.intro hn1 <| And.intro hn2 <| And.intro mE <| And.intro mE' <| And.intro mN <| And.intro mN' <| And.intro b1 <| And.intro m0 <| And.intro b2 <| And.intro m1 <| And.intro b3 <| And.intro b4 <| And.intro m3 <| And.intro b5 <| And.intro b6 <| And.intro m5 <| And.intro b7 <| And.intro m6 <| And.intro b9 <| And.intro m7 <| And.intro b8 <| And.intro b10 <| And.intro m9 <| And.intro b11 <| m10) ct18 ?_
  have kE : E.length = E'.length := by omega
  have kN : N.length = N'.length := by omega
  have hE0 : E.take 0 = E'.take 0 := rfl
  refine AWP.loop (G := { i : Nat // i ≤ E.length ∧ E.take i = E'.take i }) (fun i => ⟨[(2, .ptr 0 0 []), (3, .ptr 1 0 []), (5, .t (.int .i64 (i.1 : Int)))], [.bx (.t (.st [.int .u8 (o.toNat : Int), .int .i64 e, .ba 32 n.1, .int .u32 (g.toNat : Int), .ar 4 1 [.int .u64 (w.a.toNat : Int), .int .u64 (w.b.toNat : Int), .int .u64 (w.c.toNat : Int), .int .u64 (w.d.toNat : Int)], .int .u64 (v.toNat : Int), .bool f, .by x, .sq 69 (E.map eT), .ar 5 1 [.int .u32 (u0.toNat : Int), .int .u32 (u1.toNat : Int), .int .u32 (u2.toNat : Int), .int .u32 (u3.toNat : Int), .int .u32 (u4.toNat : Int)], .sq 32 (N.map hT)])), .bx (.t (.st [.int .u8 (o'.toNat : Int), .int .i64 e', .ba 32 n'.1, .int .u32 (g'.toNat : Int), .ar 4 1 [.int .u64 (w'.a.toNat : Int), .int .u64 (w'.b.toNat : Int), .int .u64 (w'.c.toNat : Int), .int .u64 (w'.d.toNat : Int)], .int .u64 (v'.toNat : Int), .bool f', .by x', .sq 69 (E'.map eT), .ar 5 1 [.int .u32 (y0.toNat : Int), .int .u32 (y1.toNat : Int), .int .u32 (y2.toNat : Int), .int .u32 (y3.toNat : Int), .int .u32 (y4.toNat : Int)], .sq 32 (N'.map hT)]))]⟩) (fun i => E.length - i.1) ⟨0, Nat.zero_le _, hE0⟩ (Wt trivial [2, 3, 5] [0, 1]) ?_
  rintro ⟨i, hi, hti⟩
  dsimp only
  by_cases hlt : i < E.length
  · have hlt2 : (i : Int) < (E.length : Int) := by omega
    have hltm : i < E'.length := by omega
    have g1 := entE_getD E i hlt
    have g2 := entE_getD E' i hltm
    have hw : IntKind.i64.wrap ((i : Int) + 1) = ((i + 1 : Nat) : Int) := by rw [wrap_i64 (by omega) (by omega)]; omega
    obtain ⟨p, hp⟩ : ∃ p, E.getD i dE = p := ⟨_, rfl⟩
    obtain ⟨q, hq⟩ : ∃ q, E'.getD i dE = q := ⟨_, rfl⟩
    rw [hp] at g1
    rw [hq] at g2
    have hcmp := ent_beq p q
    have hs1 := p.tx.2
    have hs2 := p.tpl.2
    have hs3 := q.tx.2
    have hs4 := q.tpl.2
    rw [eT_st] at g1 g2
    by_cases hxy : p = q
    · rw [decide_eq_true hxy] at hcmp
      repeat refine St (And.intro hlt2 <| And.intro hlt <| And.intro hltm <| And.intro mE <| And.intro mE' <| And.intro g1 <| And.intro g2 <| And.intro hcmp <| And.intro hw <| And.intro hs1 <| And.intro hs2 <| And.intro hs3 <| And.intro hs4 <| And.intro hn1 <| hn2) ct18 ?_
      exact ⟨⟨i + 1, by omega, take_eq_succ dE hlt hltm hti (by rw [hp, hq]; exact hxy)⟩, (Wt trivial [2, 3, 5] [0, 1]), by simp only; omega⟩
    · rw [decide_eq_false hxy] at hcmp
      have hd : decide ((⟨o, e, n, g, w, v, f, x, E, u, N⟩ : TA) = ⟨o', e', n', g', w', v', f', x', E', u', N'⟩) = false := decide_eq_false fun hh => hxy (by rw [← hp, ← hq, (TA.mk.inj hh).2.2.2.2.2.2.2.2.1])
      rw [hd]
      repeat refine St (And.intro hlt2 <| And.intro hlt <| And.intro hltm <| And.intro mE <| And.intro mE' <| And.intro g1 <| And.intro g2 <| And.intro hcmp <| And.intro hs1 <| And.intro hs2 <| And.intro hs3 <| And.intro hs4 <| And.intro hn1 <| hn2) ct18 ?_
      exact AWP.ret (Fin trivial [] [])
  have hie : i = E.length := by omega
  have hEE : E = E' := take_eq_all kE (by rw [← hie]; exact hti)
  have hlt2 : ¬ (i : Int) < (E.length : Int) := by omega
  repeat refine St (And.intro hlt2 <| And.intro mE <| And.intro hn1 <| hn2) ct18 ?_
  have hN0 : N.take 0 = N'.take 0 := rfl
  refine AWP.loop (G := { i : Nat // i ≤ N.length ∧ N.take i = N'.take i }) (fun i => ⟨[(2, .ptr 0 0 []), (3, .ptr 1 0 []), (6, .t (.int .i64 (i.1 : Int)))], [.bx (.t (.st [.int .u8 (o.toNat : Int), .int .i64 e, .ba 32 n.1, .int .u32 (g.toNat : Int), .ar 4 1 [.int .u64 (w.a.toNat : Int), .int .u64 (w.b.toNat : Int), .int .u64 (w.c.toNat : Int), .int .u64 (w.d.toNat : Int)], .int .u64 (v.toNat : Int), .bool f, .by x, .sq 69 (E.map eT), .ar 5 1 [.int .u32 (u0.toNat : Int), .int .u32 (u1.toNat : Int), .int .u32 (u2.toNat : Int), .int .u32 (u3.toNat : Int), .int .u32 (u4.toNat : Int)], .sq 32 (N.map hT)])), .bx (.t (.st [.int .u8 (o'.toNat : Int), .int .i64 e', .ba 32 n'.1, .int .u32 (g'.toNat : Int), .ar 4 1 [.int .u64 (w'.a.toNat : Int), .int .u64 (w'.b.toNat : Int), .int .u64 (w'.c.toNat : Int), .int .u64 (w'.d.toNat : Int)], .int .u64 (v'.toNat : Int), .bool f', .by x', .sq 69 (E'.map eT), .ar 5 1 [.int .u32 (y0.toNat : Int), .int .u32 (y1.toNat : Int), .int .u32 (y2.toNat : Int), .int .u32 (y3.toNat : Int), .int .u32 (y4.toNat : Int)], .sq 32 (N'.map hT)]))]⟩) (fun i => N.length - i.1) ⟨0, Nat.zero_le _, hN0⟩ (Wt trivial [2, 3, 6] [0, 1]) ?_
  rintro ⟨i, hi, hti⟩
  dsimp only
  by_cases hlt : i < N.length
  · have hlt2 : (i : Int) < (N.length : Int) := by omega
    have hltm : i < N'.length := by omega
    have g1 := namE_getD N i hlt
    have g2 := namE_getD N' i hltm
    have hw : IntKind.i64.wrap ((i : Int) + 1) = ((i + 1 : Nat) : Int) := by rw [wrap_i64 (by omega) (by omega)]; omega
    obtain ⟨p, hp⟩ : ∃ p, N.getD i zH = p := ⟨_, rfl⟩
    obtain ⟨q, hq⟩ : ∃ q, N'.getD i zH = q := ⟨_, rfl⟩
    rw [hp] at g1
    rw [hq] at g2
    have hcmp := h32_beq p q
    have hs1 := p.2
    have hs2 := q.2
    rw [show ∀ h : H32, hT h = .ba 32 h.1 from fun _ => rfl] at g1 g2
    by_cases hxy : p = q
    · rw [decide_eq_true hxy] at hcmp
      repeat refine St (And.intro hlt2 <| And.intro hlt <| And.intro hltm <| And.intro mN <| And.intro mN' <| And.intro g1 <| And.intro g2 <| And.intro hcmp <| And.intro hw <| And.intro hs1 <| And.intro hs2 <| And.intro hn1 <| hn2) ct18 ?_
      exact ⟨⟨i + 1, by omega, take_eq_succ zH hlt hltm hti (by rw [hp, hq]; exact hxy)⟩, (Wt trivial [2, 3, 6] [0, 1]), by simp only; omega⟩
    · rw [decide_eq_false hxy] at hcmp
      have hd : decide ((⟨o, e, n, g, w, v, f, x, E, u, N⟩ : TA) = ⟨o', e', n', g', w', v', f', x', E', u', N'⟩) = false := decide_eq_false fun hh => hxy (by rw [← hp, ← hq, (TA.mk.inj hh).2.2.2.2.2.2.2.2.2.2])
      rw [hd]
      repeat refine St (And.intro hlt2 <| And.intro hlt <| And.intro hltm <| And.intro mN <| And.intro mN' <| And.intro g1 <| And.intro g2 <| And.intro hcmp <| And.intro hs1 <| And.intro hs2 <| And.intro hn1 <| hn2) ct18 ?_
      exact AWP.ret (Fin trivial [] [])
  have hie : i = N.length := by omega
  have hNN : N = N' := take_eq_all kN (by rw [← hie]; exact hti)
  have hlt2 : ¬ (i : Int) < (N.length : Int) := by omega
  have hd : decide ((⟨o, e, n, g, w, v, f, x, E, u, N⟩ : TA) = ⟨o', e', n', g', w', v', f', x', E', u', N'⟩) = true := decide_eq_true (by rw [k0, k1, k2, k3, k4, k5, k6, k7, k8, hEE, hNN])
  rw [hd]
  repeat refine St (And.intro hlt2 <| And.intro mN <| And.intro hn1 <| hn2) ct18 ?_
  exact AWP.ret (Fin trivial [] [])

theorem rsamea_c (a b : TA) : F18 [aT a, aT b] = some ([], .t (.bool (decide (a = b)))) := by
  simp only [F18, inv_of aT_inj]

end Go.Fw

end

section
/- Chapter 33: RpcBack: its code walked. -/
namespace Go.Fw
open Go Go.Proofs
set_option linter.unusedVariables false
set_option linter.unusedSimpArgs false

noncomputable def F6 : Fun
  | [y, z] => match inv qT y, inv aT z with
    | some q, some a => some ([], .t (.bool true))
    | _, _ => none
  | _ => none

theorem ct6 : CT [(9, ⟨[], treeG F9⟩), (10, ⟨[false], treeG F10⟩), (12, ⟨[false], treeG F12⟩), (13, ⟨[false], treeG F13⟩), (15, ⟨[false, false], treeG F15⟩), (16, ⟨[false], treeG F16⟩), (18, ⟨[false, false], treeG F18⟩), (19, ⟨[false], treeG F19⟩), (20, ⟨[false], treeG F20⟩), (21, ⟨[false], treeG F21⟩)] [0, 1, 2, 3, 4, 5, 6, 7, 8, 9, 10, 12, 14, 15, 16, 18, 20, 29, 56, 58, 99, 101] [(11, [⟨0, [10], [], []⟩, ⟨0, [82], [], []⟩, ⟨0, [83], [], []⟩, ⟨0, [12], [], []⟩, ⟨0, [85], [], []⟩, ⟨0, [84, 86], [], []⟩, ⟨0, [87], [], []⟩, ⟨0, [14], [], []⟩, ⟨0, [89], [], []⟩, ⟨0, [88, 90], [], []⟩, ⟨0, [91], [], []⟩, ⟨1, [9], [], []⟩, ⟨1, [93], [11], []⟩, ⟨1, [2], [], []⟩, ⟨1, [95], [11, 12, 13], []⟩, ⟨1, [94, 96], [11, 12, 13, 14], []⟩, ⟨0, [97], [11, 12, 13, 14, 15], []⟩, ⟨0, [92, 98], [11, 12, 13, 14, 15], []⟩]), (18, [⟨1, [], [], []⟩, ⟨0, [135], [0], []⟩, ⟨0, [16], [0], []⟩, ⟨0, [137], [0], []⟩, ⟨0, [136, 138], [0], []⟩, ⟨0, [139], [0], []⟩, ⟨0, [18], [0], []⟩, ⟨0, [141], [0], []⟩, ⟨0, [140, 142], [0], []⟩, ⟨0, [143], [0], []⟩, ⟨0, [20], [0], []⟩, ⟨0, [145], [0], []⟩, ⟨0, [144, 146], [0], []⟩, ⟨0, [147], [0], []⟩, ⟨1, [15], [0], []⟩, ⟨1, [149], [0, 14], []⟩, ⟨1, [3], [0], []⟩, ⟨1, [151], [0, 14, 15, 16], []⟩, ⟨1, [150, 152], [0, 14, 15, 16, 17], []⟩, ⟨0, [148, 153], [0, 14, 15, 16, 17, 18], []⟩, ⟨0, [154], [0, 14, 15, 16, 17, 18], []⟩])] := ⟨(.cons c9.g (.cons c10.g (.cons c12.g (.cons c13.g (.cons c15.g (.cons c16.g (.cons c18.g (.cons c19.g (.cons c20.g (.cons c21.g (.nil _)))))))))))⟩

theorem bodyQ_len (q : TQ) (hb : q.bts.length ≤ 600) : (bodyQ q).length ≤ 40100 := by
  have hn := q.name.2
  have hs := sizeB_len (q.bts.length : Int)
  have l4 : ∀ n : Int, (le 4 n).length = 4 := fun n => le_len 4 n
  have : ∀ k, k ≤ 5 → (bodyK k q).length ≤ 40100 := k_all (by simp [bodyK]) (by simp [bodyK, hn]) (by simp [bodyK, hn, l4]) (by simp [bodyK]; omega) (by simp [bodyK, l4]) (by simp [bodyK, l4])
  exact this _ (kQ_le _)
theorem bytA_len (a : TA) (h1 : a.bts.length ≤ 1000000) (h2 : a.ents.length ≤ 1000) (h3 : a.nams.length ≤ 1000) : (bytA a).length ≤ 3000000 := by
  have := bodyAK_len a h1 h2 h3 (kA a.op) (kA_le _)
  unfold bytA bodyA
  split
  · simp only [List.length_cons]; omega
  · simp
theorem bytA_pos (a : TA) : 2 ≤ (bytA a).length := by unfold bytA; simp

set_option maxRecDepth 20000 in
set_option maxHeartbeats 8000000 in
theorem c6 : ACon Try.prog 6 F6 := by
  refine aconc E_ok (rs := [.tmp 4 4]) Try.func6 rfl Try.ntmps6 (by kernel_rfl) rfl (by decide) F6 (np := 2) ?_ ?_
  · intro ts h; unfold F6; split <;> first | rfl | (simp at h; done)
  intro ts H r hF hwf
  unfold F6 at hF
  split at hF <;> try (cases hF; done)
  split at hF <;> try (cases hF; done)
  rename_i q a hq ha
  cases hF
  obtain rfl := inv_inv hq
  obtain rfl := inv_inv ha
  clear hq ha hwf
  have hn := q.name.2
  have han := a.name.2
  have hsm := sma_c a
  by_cases hA : 600 < (q.bts.length : Int)
  · rw [qT_st, aT_st, wT_st]
    repeat refine St (And.intro hA <| And.intro hn <| And.intro han <| @F9.eq_def) ct6 ?_
    exact AWP.ret (Fin trivial [] [])
  cases hS : smallA a with
  | false =>
    rw [hS] at hsm
    rw [aT_st, wT_st] at hsm
    rw [qT_st, aT_st, wT_st]
    repeat refine St (And.intro hA <| And.intro hn <| And.intro han <| And.intro hsm <| @F9.eq_def) ct6 ?_
    exact AWP.ret (Fin trivial [] [])
  | true =>
  rw [hS] at hsm
  obtain ⟨s1, s2, s3⟩ := smallA_ok hS
  have hp := puq_c (q := q) (by omega)
  have hpa := pua_c (a := a) ⟨by omega, by omega, by omega⟩
  have hq1 := qst_c q
  have hq2 := rsame_q q q
  rw [decide_eq_true rfl] at hq2
  have ha1 := anst_c (a := a) (by omega)
  have ha2 := rsamea_c a a
  rw [decide_eq_true rfl] at ha2
  rw [aT_st, wT_st] at hsm ha1 ha2
  have hdn : dQ.name.1.length = 32 := rfl
  -- the question
  have hQ : (mayQ q = false ∧ F10 [qT q] = some ([], .tup [.t (.by []), .t (.int .i64 1)])) ∨ ∃ X : List UInt8, 1 ≤ X.length ∧ X.length ≤ 50000 ∧ F10 [qT q] = some ([], .tup [.t (.by X), .t (.int .i64 0)]) ∧
      F13 [.by X] = some ([], .tup [.t (qT q), .t (.int .i64 0)]) ∧ F13 [.by (X ++ [UInt8.ofNat 0])] = some ([], .tup [.t (qT dQ), .t (.int .i64 3)]) ∧ F13 [.by (X.take (X.length - 1))] = some ([], .tup [.t (qT dQ), .t (.int .i64 3)]) := by
    cases hm : mayQ q with
    | false => exact .inl ⟨rfl, by rw [hp, (putQ_no hm).1, (putQ_no hm).2]⟩
    | true =>
      have hl : (q.op :: bodyQ q).length ≤ 50000 := by
        have hb : (bodyQ q).length ≤ 40100 := bodyQ_len q (by omega)
        rw [List.length_cons]; omega
      refine .inr ⟨q.op :: bodyQ q, by simp, hl, by rw [hp, (putQ_yes hm).1, (putQ_yes hm).2]; rfl, ?_, ?_, ?_⟩
      · have := taq_c (b := q.op :: bodyQ q) (by omega)
        rw [(tkQ_put hm).1, (tkQ_put hm).2] at this; exact this
      · have := taq_c (b := q.op :: bodyQ q ++ [UInt8.ofNat 0]) (by rw [List.length_append]; simp only [List.length_singleton]; omega)
        have hno := tkQ_no (readQ_more hm (UInt8.ofNat 0) [])
        rw [hno.1, hno.2] at this; exact this
      · have := taq_c (b := (q.op :: bodyQ q).take ((q.op :: bodyQ q).length - 1)) (by rw [List.length_take]; omega)
        have hno := tkQ_no (readQ_cut hm)
        rw [hno.1, hno.2] at this; exact this
  have hAn : (F21 [aT a] = some ([], .tup [.t (.by []), .t (.int .i64 1)])) ∨ ∃ Y : List UInt8, 1 ≤ Y.length ∧ Y.length ≤ 3000000 ∧ F21 [aT a] = some ([], .tup [.t (.by Y), .t (.int .i64 0)]) ∧
      F16 [.by Y] = some ([], .tup [.t (aT a), .t (.int .i64 0)]) ∧ F16 [.by (Y ++ [UInt8.ofNat 0])] = some ([], .tup [.t (aT noA), .t (.int .i64 3)]) ∧ F16 [.by (Y.take (Y.length - 1))] = some ([], .tup [.t (aT noA), .t (.int .i64 3)]) := by
    rw [hpa]
    cases hm : mayA a with
    | false => exact .inl (by rw [(putA_no hm).1, (putA_no hm).2])
    | true =>
      have hl : (bytA a).length ≤ 3000000 := bytA_len a (by omega) (by omega) (by omega)
      refine .inr ⟨bytA a, by have := bytA_pos a; omega, hl, by rw [(putA_yes hm).1, (putA_yes hm).2], ?_, ?_, ?_⟩
      · have := taa_c (b := bytA a) (by omega)
        rw [(tkA_put hm).1, (tkA_put hm).2] at this; exact this
      · have := taa_c (b := bytA a ++ [UInt8.ofNat 0]) (by rw [List.length_append]; simp only [List.length_singleton]; omega)
        have hno := tkA_no (readA_more hm (UInt8.ofNat 0) [])
        rw [hno.1, hno.2] at this; exact this
      · have := taa_c (b := (bytA a).take ((bytA a).length - 1)) (by rw [List.length_take]; omega)
        have hno := tkA_no (readA_cut hm)
        rw [hno.1, hno.2] at this; exact this
  clear hp hpa
  rw [qT_st] at hQ hq1 hq2 ⊢
  rw [aT_st, wT_st] at hAn ⊢
  rw [dQ_T] at hQ
  rw [noA_T] at hAn
  rcases hQ with ⟨_, hQ⟩ | ⟨X, x1, x2, x3, x4, x5, x6⟩
  · rcases hAn with hAn | ⟨Y, y1, y2, y3, y4, y5, y6⟩
    · repeat refine St (And.intro hA <| And.intro hn <| And.intro han <| And.intro hsm <| And.intro hQ <| And.intro hAn <| @F9.eq_def) ct6 ?_
      exact AWP.ret (Fin trivial [] [])
    · have wY : IntKind.i64.wrap ((Y.length : Int) - 1) = ((Y.length - 1 : Nat) : Int) := by rw [wrap_i64 (by omega) (by omega)]; omega
      have cY : ((Y.length : Int) == 0) = false := by rw [beq_eq_false_iff_ne]; omega
      obtain ⟨m, hm⟩ : ∃ m, Y.length - 1 = m := ⟨_, rfl⟩
      rw [hm] at y6 wY
      have hmy : m ≤ Y.length := by omega
      repeat refine St (And.intro hA <| And.intro hn <| And.intro han <| And.intro hsm <| And.intro hQ <| And.intro y3 <| And.intro y4 <| And.intro y5 <| And.intro y6 <| And.intro wY <| And.intro cY <| And.intro hmy <| And.intro y2 <| And.intro ha1 <| And.intro ha2 <| @F9.eq_def) ct6 ?_
      exact AWP.ret (Fin trivial [] [])
  · have wX : IntKind.i64.wrap ((X.length : Int) - 1) = ((X.length - 1 : Nat) : Int) := by rw [wrap_i64 (by omega) (by omega)]; omega
    have cX : ((X.length : Int) == 0) = false := by rw [beq_eq_false_iff_ne]; omega
    obtain ⟨k, hk⟩ : ∃ k, X.length - 1 = k := ⟨_, rfl⟩
    rw [hk] at x6 wX
    have hkx : k ≤ X.length := by omega
    rcases hAn with hAn | ⟨Y, y1, y2, y3, y4, y5, y6⟩
    · repeat refine St (And.intro hA <| And.intro hn <| And.intro han <| And.intro hsm <| And.intro x3 <| And.intro x4 <| And.intro x5 <| And.intro x6 <| And.intro wX <| And.intro cX <| And.intro hkx <| And.intro x2 <| And.intro hq1 <| And.intro hq2 <| And.intro hAn <| @F9.eq_def) ct6 ?_
      exact AWP.ret (Fin trivial [] [])
    · have wY : IntKind.i64.wrap ((Y.length : Int) - 1) = ((Y.length - 1 : Nat) : Int) := by rw [wrap_i64 (by omega) (by omega)]; omega
      have cY : ((Y.length : Int) == 0) = false := by rw [beq_eq_false_iff_ne]; omega
      obtain ⟨m, hm⟩ : ∃ m, Y.length - 1 = m := ⟨_, rfl⟩
      rw [hm] at y6 wY
      have hmy : m ≤ Y.length := by omega
      repeat refine St (And.intro hA <| And.intro hn <| And.intro han <| And.intro hsm <| And.intro x3 <| And.intro x4 <| And.intro x5 <| And.intro x6 <| And.intro wX <| And.intro cX <| And.intro hkx <| And.intro x2 <| And.intro hq1 <| And.intro hq2 <| And.intro y3 <| And.intro y4 <| And.intro y5 <| And.intro y6 <| And.intro wY <| And.intro cY <| And.intro hmy <| And.intro y2 <| And.intro ha1 <| And.intro ha2 <| @F9.eq_def) ct6 ?_
      exact AWP.ret (Fin trivial [] [])

theorem rpcBack_t (q : TQ) (a : TA) : F6 [qT q, aT a] = some ([], .t (.bool true)) := by simp only [F6, inv_of qT_inj, inv_of aT_inj]

end Go.Fw

end
