/- The abstract machine, and the contracts of the code: part 48. -/
import Derived.Test.YtchljppcenckaaaFwCp

section
/- compact's answer: bytes laid. -/
namespace Go.Fw
open Go Go.Proofs
set_option linter.unusedVariables false
set_option linter.unusedSimpArgs false

def F73 : Fun
  | [.by b, .int .u64 n, .int .i64 m] => if b.length ≤ 549755813000 ∧ 0 ≤ m ∧ m ≤ 16 then some ([.by (b ++ le m.toNat n)], .own 0) else none
  | _ => none

theorem ct73 : CT [] [0, 1, 2, 6, 7, 8, 14] [] := ⟨GClOk.nil _⟩

theorem c73 : ACon Try.prog 73 F73 := by
  refine aconc E_ok (rs := [.tmp 6 22]) Try.func73 rfl Try.ntmps73 (by kernel_rfl) rfl (by decide) F73 (np := 3) ?_ ?_
  · intro ts h; unfold F73; split <;> first | rfl | (simp at h; done)
  intro ts H r hF hwf
  unfold F73 at hF
  split at hF <;> try (cases hF; done)
  rename_i b n m
  split at hF
  case isFalse => cases hF
  rename_i hc
  obtain ⟨hb, h0, h1⟩ := hc
  cases hF
  have hn := inK_u64 (hwf (.int .u64 n) (by simp))
  repeat refine St trivial ct73 ?_
  refine AWP.loop (G := { k : Nat // k ≤ m.toNat }) (fun k => ⟨[(1, .t (.int .u64 (shrB k.1 n))), (2, .t (.int .i64 m)), (7, .own 0), (8, .t (.int .i64 (k.1 : Int)))], [.by (b ++ le k.1 n)]⟩)
    (fun k => m.toNat - k.1) ⟨0, by omega⟩ (Wt (And.intro (And.intro @shrB.eq_1 <| @shrB.eq_2) <| (And.intro @le.eq_1 <| @le.eq_2)) [1, 2, 7, 8] [1]) ?_
  intro ⟨k, hk⟩
  dsimp only
  by_cases hlt : (k : Int) < m
  · have hl : (b ++ le k n).length ≤ 549755813100 := by simp [le_len]; omega
    have hr := shrB_range k n hn.1 hn.2
    have hq : IntKind.u64.wrap ((shrB k n).tdiv 256) = (shrB k n).fdiv 256 := by
      rw [tdiv_256 hr.1]
      have := shrB_range (k + 1) n hn.1 hn.2
      exact wrap_u64 this.1 this.2
    repeat refine St (And.intro hq <| @le_len) ct73 ?_
    exact ⟨⟨k + 1, by omega⟩, (Wt (And.intro (And.intro @shrB.eq_1 <| @shrB.eq_2) <| And.intro (And.intro @le.eq_1 <| @le.eq_2) <| @List.append_assoc.{0}) [1, 2, 7, 8] [2]), by simp only; omega⟩
  · obtain rfl : k = m.toNat := by omega
    repeat refine St trivial ct73 ?_
    exact AWP.ret (Fin trivial [] [0])

theorem put_c {b : List UInt8} (n : Int) (m : Int) (hb : b.length ≤ 549755813000) (h0 : 0 ≤ m) (h1 : m ≤ 16) : F73 [.by b, .int .u64 n, .int .i64 m] = some ([.by (b ++ le m.toNat n)], .own 0) := if_pos ⟨hb, h0, h1⟩

def F74 : Fun
  | [.by b, .int .u64 n] => if b.length ≤ 549755812000 then some ([.by (b ++ sizeB n)], .own 0) else none
  | _ => none

theorem ct74 : CT [(73, ⟨[false, false, false], treeG F73⟩)] [0, 1, 4, 5, 11, 18] [] := ⟨(.cons c73.g (.nil _))⟩

theorem c74 : ACon Try.prog 74 F74 := by
  refine aconc E_ok (rs := [.tmp 4 22]) Try.func74 rfl Try.ntmps74 (by kernel_rfl) rfl (by decide) F74 (np := 2) ?_ ?_
  · intro ts h; unfold F74; split <;> first | rfl | (simp at h; done)
  intro ts H r hF hwf
  unfold F74 at hF
  split at hF <;> try (cases hF; done)
  rename_i b n
  split at hF
  case isFalse => cases hF
  rename_i hc
  have hb := hc
  cases hF
  have hn := inK_u64 (hwf (.int .u64 n) (by simp))
  have h8 : ∀ c : Int, F73 [.by b, .int .u64 c, .int .i64 1] = some ([.by (b ++ le 1 c)], .own 0) := fun c => put_c c 1 (by omega) (by omega) (by omega)
  have hl : ∀ c : Int, (b ++ le 1 c).length ≤ 549755813000 := fun c => by simp [le_len]; omega
  have h16 : ∀ c d : Int, F73 [.by (b ++ le 1 c), .int .u64 d, .int .i64 2] = some ([.by (b ++ le 1 c ++ le 2 d)], .own 0) := fun c d => put_c d 2 (hl c) (by omega) (by omega)
  have h32 : ∀ c d : Int, F73 [.by (b ++ le 1 c), .int .u64 d, .int .i64 4] = some ([.by (b ++ le 1 c ++ le 4 d)], .own 0) := fun c d => put_c d 4 (hl c) (by omega) (by omega)
  have h64 : ∀ c d : Int, F73 [.by (b ++ le 1 c), .int .u64 d, .int .i64 8] = some ([.by (b ++ le 1 c ++ le 8 d)], .own 0) := fun c d => put_c d 8 (hl c) (by omega) (by omega)
  by_cases h1 : n < 253
  · repeat refine St h8 ct74 ?_
    exact AWP.ret (Fin (And.intro @sizeB.eq_def <| h1) [] [0])
  by_cases h2 : n < 65536
  · repeat refine St (And.intro h8 <| h16) ct74 ?_
    exact AWP.ret (Fin (And.intro @sizeB.eq_def <| And.intro h1 <| And.intro h2 <| @List.append_assoc.{0}) [] [1])
  by_cases h3 : n < 4294967296
  · repeat refine St (And.intro h8 <| h32) ct74 ?_
    exact AWP.ret (Fin (And.intro @sizeB.eq_def <| And.intro h1 <| And.intro h2 <| And.intro h3 <| @List.append_assoc.{0}) [] [1])
  repeat refine St (And.intro h8 <| h64) ct74 ?_
  exact AWP.ret (Fin (And.intro @sizeB.eq_def <| And.intro h1 <| And.intro h2 <| And.intro h3 <| @List.append_assoc.{0}) [] [1])

def F75 : Fun
  | [.by b, .by x] => if b.length + x.length ≤ 549755800000 then some ([.by (b ++ sizeB x.length ++ x)], .own 0) else none
  | _ => none

theorem ct75 : CT [(74, ⟨[false, false], treeG F74⟩)] [0, 1, 4, 5] [] := ⟨(.cons c74.g (.nil _))⟩

theorem c75 : ACon Try.prog 75 F75 := by
  refine aconc E_ok (rs := [.tmp 4 22]) Try.func75 rfl Try.ntmps75 (by kernel_rfl) rfl (by decide) F75 (np := 2) ?_ ?_
  · intro ts h; unfold F75; split <;> first | rfl | (simp at h; done)
  intro ts H r hF hwf
  unfold F75 at hF
  split at hF <;> try (cases hF; done)
  rename_i b x
  split at hF
  case isFalse => cases hF
  rename_i hc
  have hb := hc
  cases hF
  have hs := sizeB_len (x.length : Int)
  have h : F74 [.by b, .int .u64 (x.length : Int)] = some ([.by (b ++ sizeB x.length)], .own 0) := if_pos (by omega)
  have hl : (b ++ sizeB x.length).length ≤ 549755812000 := by simp; omega
  repeat refine St h ct75 ?_
  exact AWP.ret (Fin trivial [] [1])

def F72 : Fun
  | [.by b, .sq 1 xs] => match asBys xs with
    | some l => if b.length + (flat l).length ≤ 549755700000 then some ([.by (b ++ sizeB l.length ++ flat l)], .own 0) else none
    | none => none
  | _ => none

theorem ct72 : CT [(74, ⟨[false, false], treeG F74⟩), (75, ⟨[false, false], treeG F75⟩)] [0, 1, 4, 5, 6, 15] [] := ⟨(.cons c74.g (.cons c75.g (.nil _)))⟩

theorem c72 : ACon Try.prog 72 F72 := by
  refine aconc E_ok (rs := [.tmp 4 22]) Try.func72 rfl Try.ntmps72 (by kernel_rfl) rfl (by decide) F72 (np := 2) ?_ ?_
  · intro ts h; unfold F72; split <;> first | rfl | (simp at h; done)
  intro ts H r hF hwf
  unfold F72 at hF
  split at hF <;> try (cases hF; done)
  rename_i b xs
  split at hF <;> try (cases hF; done)
  rename_i l hl
  split at hF
  case isFalse => cases hF
  rename_i hc
  have hb := hc
  cases hF
  obtain rfl := asBys_inv hl
  have hlen := len_le_flat l
  have hs := sizeB_len (l.length : Int)
  have h : F74 [.by b, .int .u64 (l.length : Int)] = some ([.by (b ++ sizeB l.length)], .own 0) := if_pos (by omega)
  repeat refine St h ct72 ?_
  refine AWP.loop (G := { k : Nat // k ≤ l.length }) (fun k => ⟨[(1, .t (.sq 1 (l.map .by))), (5, .own 0), (6, .t (.int .i64 (k.1 : Int)))], [.by (b ++ sizeB l.length ++ flat (l.take k.1))]⟩)
    (fun k => l.length - k.1) ⟨0, by omega⟩ (Wt (And.intro @List.take_zero.{0} <| (And.intro @flat.eq_1 <| @flat.eq_2)) [1, 5, 6] [0]) ?_
  intro ⟨k, hk⟩
  dsimp only
  by_cases hlt : (k : Int) < (l.length : Int)
  · have hlt' : k < l.length := by omega
    have hget := map_getD l k hlt'
    have hfl := flat_get_len l k hlt'
    have hft := flat_take l k hlt'
    have h2 : F75 [.by (b ++ sizeB l.length ++ flat (l.take k)), .by (l.getD k [])] = some ([.by (b ++ sizeB l.length ++ flat (l.take k) ++ sizeB (l.getD k []).length ++ l.getD k [])], .own 0) := if_pos (by simp only [List.length_append]; omega)
    repeat refine St (And.intro hlt' <| And.intro hget <| h2) ct72 ?_
    exact ⟨⟨k + 1, by omega⟩, (Wt (And.intro hft <| @List.append_assoc.{0}) [1, 5, 6] [1]), by simp only; omega⟩
  · obtain rfl : k = l.length := by omega
    repeat refine St trivial ct72 ?_
    exact AWP.ret (Fin (@List.take_length.{0}) [] [0])

end Go.Fw

end

section
/- compact's answer: bytes taken apart. -/
namespace Go.Fw
open Go Go.Proofs
set_option linter.unusedVariables false
set_option linter.unusedSimpArgs false

def F58 : Fun
  | [.by b, .int .i64 n] => if b.length ≤ 549755813000 then some ([], .tup [.t (.by (spA b n)), .t (.by (spB b n)), .t (.int .i64 (spE b n))]) else none
  | _ => none

theorem ct58 : CT [] [0, 1, 4, 5, 6, 7, 8, 10, 14] [] := ⟨GClOk.nil _⟩

theorem c58 : ACon Try.prog 58 F58 := by
  refine aconc E_ok (rs := [.tmp 4 22, .tmp 5 22, .tmp 6 29]) Try.func58 rfl Try.ntmps58 (by kernel_rfl) rfl (by decide) F58 (np := 2) ?_ ?_
  · intro ts h; unfold F58; split <;> first | rfl | (simp at h; done)
  intro ts H r hF hwf
  unfold F58 at hF
  split at hF <;> try (cases hF; done)
  rename_i b n
  split at hF
  case isFalse => cases hF
  rename_i hc
  have hb := hc
  cases hF
  by_cases h1 : n < 0
  · repeat refine St trivial ct58 ?_
    exact AWP.ret (Fin (And.intro @spA.eq_def <| And.intro @spB.eq_def <| And.intro @spE.eq_def <| h1) [] [])
  by_cases h2 : (b.length : Int) < n
  · repeat refine St trivial ct58 ?_
    exact AWP.ret (Fin (And.intro @spA.eq_def <| And.intro @spB.eq_def <| And.intro @spE.eq_def <| And.intro h1 <| h2) [] [])
  repeat refine St trivial ct58 ?_
  exact AWP.ret (Fin (And.intro @spA.eq_def <| And.intro @spB.eq_def <| And.intro @spE.eq_def <| And.intro h1 <| h2) [1, 3] [])

def F56 : Fun
  | [.by b, .int .i64 n] => if b.length ≤ 549755813000 ∧ n ≤ 8 then some ([], .tup [.t (.int .u64 (num (spA b n))), .t (.by (spB b n)), .t (.int .i64 (spE b n))]) else none
  | _ => none

theorem ct56 : CT [(58, ⟨[false, false], treeG F58⟩)] [0, 1, 4, 5, 6, 7, 8, 9, 10, 11, 23] [] := ⟨(.cons c58.g (.nil _))⟩

theorem c56 : ACon Try.prog 56 F56 := by
  refine aconc E_ok (rs := [.tmp 4 35, .tmp 5 22, .tmp 6 29]) Try.func56 rfl Try.ntmps56 (by kernel_rfl) rfl (by decide) F56 (np := 2) ?_ ?_
  · intro ts h; unfold F56; split <;> first | rfl | (simp at h; done)
  intro ts H r hF hwf
  unfold F56 at hF
  split at hF <;> try (cases hF; done)
  rename_i b n
  split at hF
  case isFalse => cases hF
  rename_i hc
  obtain ⟨hb, hn⟩ := hc
  cases hF
  have h8 := spA_le b n 8 hn
  have ht : F58 [.by b, .int .i64 n] = some ([], .tup [.t (.by (spA b n)), .t (.by (spB b n)), .t (.int .i64 (spE b n))]) := if_pos hb
  generalize hx : spA b n = x at *
  repeat refine St ht ct56 ?_
  have hz : num (x.drop x.length) = 0 := by simp [num]
  refine AWP.loop (G := { k : Nat // k ≤ x.length }) (fun k => ⟨[(7, .t (.by x)), (8, .t (.by (spB b n))), (9, .t (.int .i64 (spE b n))), (10, .t (.int .u64 (num (x.drop k.1)))), (11, .t (.int .i64 ((k.1 : Int) - 1)))], []⟩)
    (fun k => k.1) ⟨x.length, by omega⟩ (Wt (And.intro hz <| (And.intro @num.eq_1 <| @num.eq_2)) [7, 8, 9, 10, 11] []) ?_
  intro ⟨k, hk⟩
  dsimp only
  by_cases hlt : 0 ≤ (k : Int) - 1
  · obtain ⟨j, rfl⟩ : ∃ j, k = j + 1 := ⟨k - 1, by omega⟩
    have hj : (((j + 1 : Nat) : Int) - 1) = (j : Int) := by omega
    have hd := num_drop x j (by omega)
    have h88 := num_lt8 (x.drop j) (by simp; omega)
    have hc := (x.getD j 0).toNat_lt
    have hw1 : IntKind.u64.wrap ((num (x.drop (j + 1)) : Int) * 256) = (num (x.drop (j + 1)) : Int) * 256 := wrap_u64 (by omega) (by omega)
    have hw2 : IntKind.u64.wrap ((x.getD j 0).toNat : Int) = ((x.getD j 0).toNat : Int) := wrap_u64 (by omega) (by omega)
    have hw3 : IntKind.u64.wrap ((num (x.drop (j + 1)) : Int) * 256 + ((x.getD j 0).toNat : Int)) = (num (x.drop j) : Int) := by rw [wrap_u64 (by omega) (by omega)]; omega
    have hjx : j < x.length := by omega
    repeat refine St (And.intro hj <| And.intro hw1 <| And.intro hw2 <| And.intro hw3 <| hjx) ct56 ?_
    exact ⟨⟨j, by omega⟩, (Wt trivial [7, 8, 9, 10, 11] []), by simp only; omega⟩
  · obtain rfl : k = 0 := by omega
    repeat refine St trivial ct56 ?_
    exact AWP.ret (Fin (@List.drop_zero.{0}) [] [])

theorem number_c (l : List UInt8) (n : Int) (h0 : l.length ≤ 549755813000) (h : n ≤ 8) : F56 [.by l, .int .i64 n] = some ([], .tup [.t (.int .u64 (num (spA l n))), .t (.by (spB l n)), .t (.int .i64 (spE l n))]) := if_pos ⟨h0, h⟩

def F57 : Fun
  | [.by b] => if b.length ≤ 549755813000 then some ([], .tup [.t (.int .u64 ((sz b).1 : Nat)), .t (.by (sz b).2.1), .t (.int .i64 (sz b).2.2)]) else none
  | _ => none

theorem ct57 : CT [(56, ⟨[false, false], treeG F56⟩)] [0, 2, 3, 4, 5, 6, 7, 8, 9, 21, 26, 28, 42] [] := ⟨(.cons c56.g (.nil _))⟩

set_option maxHeartbeats 2000000 in
theorem c57 : ACon Try.prog 57 F57 := by
  refine aconc E_ok (rs := [.tmp 2 35, .tmp 3 22, .tmp 4 29]) Try.func57 rfl Try.ntmps57 (by kernel_rfl) rfl (by decide) F57 (np := 1) ?_ ?_
  · intro ts h; unfold F57; split <;> first | rfl | (simp at h; done)
  intro ts H r hF hwf
  unfold F57 at hF
  split at hF <;> try (cases hF; done)
  rename_i b
  split at hF
  case isFalse => cases hF
  rename_i hc
  have hb := hc
  cases hF
  have hl := spB_len b 1
  have r1 := number_c b 1 (by omega) (by omega)
  have r2 := number_c (spB b 1) 2 (by omega) (by omega)
  have r4 := number_c (spB b 1) 4 (by omega) (by omega)
  have r8 := number_c (spB b 1) 8 (by omega) (by omega)
  have hsz := sz.eq_1 b
  have hbad := @sp_bad b 1
  have hlt := num_lt1 (spA b 1) (spA_le b 1 1 (by omega))
  have b2 := @sp_bad (spB b 1) 2
  have b4 := @sp_bad (spB b 1) 4
  have b8 := @sp_bad (spB b 1) 8
  generalize sz b = R at *
  generalize spB b 1 = y at *
  by_cases h1 : spE b 1 = 0
  case neg =>
    simp only [h1, ne_eq, not_false_eq_true, if_true] at hsz
    obtain ⟨e1, e2⟩ := hbad h1
    subst e2
    rw [e1] at r1
    have h1' : (spE b 1 != 0) = true := by simpa using h1
    repeat refine St (And.intro r1 <| h1') ct57 ?_
    exact AWP.ret (Fin (And.intro hsz <| (And.intro @num.eq_1 <| @num.eq_2)) [] [])
  simp only [h1, ne_eq, not_true_eq_false, if_false] at hsz
  rw [h1] at r1
  obtain ⟨x, hx⟩ : ∃ x : Nat, num (spA b 1) = x := ⟨_, rfl⟩
  rw [hx] at hsz r1 hlt
  by_cases h253 : x = 253
  case pos =>
    subst h253
    simp only [Nat.reduceEqDiff, if_true, if_false] at hsz
    unfold rdR at hsz
    by_cases k1 : spE y 2 = 0
    case neg =>
      simp only [k1, ne_eq, not_false_eq_true, if_true] at hsz
      obtain ⟨e1, e2⟩ := b2 k1
      rw [e1, e2] at r2
      have k1' : (spE y 2 == 0) = false := by simpa using k1
      repeat refine St (And.intro r1 <| And.intro r2 <| k1') ct57 ?_
      exact AWP.ret (Fin (And.intro hsz <| (And.intro @num.eq_1 <| @num.eq_2)) [] [])
    simp only [k1, ne_eq, not_true_eq_false, if_false] at hsz
    rw [k1] at r2
    split at hsz
    · repeat refine St (And.intro r1 <| r2) ct57 ?_
      exact AWP.ret (Fin hsz [] [])
    · repeat refine St (And.intro r1 <| r2) ct57 ?_
      exact AWP.ret (Fin hsz [] [])
  by_cases h254 : x = 254
  case pos =>
    subst h254
    simp only [Nat.reduceEqDiff, if_true, if_false] at hsz
    unfold rdR at hsz
    by_cases k1 : spE y 4 = 0
    case neg =>
      simp only [k1, ne_eq, not_false_eq_true, if_true] at hsz
      obtain ⟨e1, e2⟩ := b4 k1
      rw [e1, e2] at r4
      have k1' : (spE y 4 == 0) = false := by simpa using k1
      repeat refine St (And.intro r1 <| And.intro r4 <| k1') ct57 ?_
      exact AWP.ret (Fin (And.intro hsz <| (And.intro @num.eq_1 <| @num.eq_2)) [] [])
    simp only [k1, ne_eq, not_true_eq_false, if_false] at hsz
    rw [k1] at r4
    split at hsz
    · repeat refine St (And.intro r1 <| r4) ct57 ?_
      exact AWP.ret (Fin hsz [] [])
    · repeat refine St (And.intro r1 <| r4) ct57 ?_
      exact AWP.ret (Fin hsz [] [])
  by_cases h255 : x = 255
  case pos =>
    subst h255
    simp only [Nat.reduceEqDiff, if_true, if_false] at hsz
    unfold rdR at hsz
    by_cases k1 : spE y 8 = 0
    case neg =>
      simp only [k1, ne_eq, not_false_eq_true, if_true] at hsz
      obtain ⟨e1, e2⟩ := b8 k1
      rw [e1, e2] at r8
      have k1' : (spE y 8 == 0) = false := by simpa using k1
      repeat refine St (And.intro r1 <| And.intro r8 <| k1') ct57 ?_
      exact AWP.ret (Fin (And.intro hsz <| (And.intro @num.eq_1 <| @num.eq_2)) [] [])
    simp only [k1, ne_eq, not_true_eq_false, if_false] at hsz
    rw [k1] at r8
    split at hsz
    · repeat refine St (And.intro r1 <| r8) ct57 ?_
      exact AWP.ret (Fin hsz [] [])
    · repeat refine St (And.intro r1 <| r8) ct57 ?_
      exact AWP.ret (Fin hsz [] [])
  simp only [h253, h254, h255, if_false] at hsz
  repeat refine St r1 ct57 ?_
  exact AWP.ret (Fin hsz [] [])

def F83 : Fun
  | [.int .u64 n, .int .i64 most] => some ([], .t (.bool (decide (most < 0 ∨ most < n))))
  | _ => none

theorem ct83 : CT [] [0, 1, 4] [] := ⟨GClOk.nil _⟩

theorem c83 : ACon Try.prog 83 F83 := by
  refine aconc E_ok (rs := [.tmp 4 4]) Try.func83 rfl Try.ntmps83 (by kernel_rfl) rfl (by decide) F83 (np := 2) ?_ ?_
  · intro ts h; unfold F83; split <;> first | rfl | (simp at h; done)
  intro ts H r hF hwf
  unfold F83 at hF
  split at hF <;> try (cases hF; done)
  rename_i n most
  cases hF
  have hm := inK_i64 (hwf (.int .i64 most) (by simp))
  by_cases h1 : most < 0
  · repeat refine St h1 ct83 ?_
    exact AWP.ret (Fin h1 [] [])
  · have hw : IntKind.u64.wrap most = most := wrap_u64 (by omega) (by omega)
    repeat refine St (And.intro h1 <| hw) ct83 ?_
    exact AWP.ret (Fin h1 [] [])

def F60 : Fun
  | [.by b, .int .i64 most] => if b.length ≤ 549755813000 then some ([], .tup [.t (.by (lim b most).1), .t (.by (lim b most).2.1), .t (.int .i64 (lim b most).2.2)]) else none
  | _ => none

theorem ct60 : CT [(57, ⟨[false], treeG F57⟩), (58, ⟨[false, false], treeG F58⟩), (83, ⟨[false, false], treeG F83⟩)] [0, 1, 4, 5, 6, 7, 8, 9, 17, 21, 26] [] := ⟨(.cons c57.g (.cons c58.g (.cons c83.g (.nil _))))⟩

theorem c60 : ACon Try.prog 60 F60 := by
  refine aconc E_ok (rs := [.tmp 4 22, .tmp 5 22, .tmp 6 29]) Try.func60 rfl Try.ntmps60 (by kernel_rfl) rfl (by decide) F60 (np := 2) ?_ ?_
  · intro ts h; unfold F60; split <;> first | rfl | (simp at h; done)
  intro ts H r hF hwf
  unfold F60 at hF
  split at hF <;> try (cases hF; done)
  rename_i b most
  split at hF
  case isFalse => cases hF
  rename_i hc
  have hb := hc
  cases hF
  have hm := inK_i64 (hwf (.int .i64 most) (by simp))
  have hsl := sz_len b
  have hs : F57 [.by b] = some ([], .tup [.t (.int .u64 ((sz b).1 : Nat)), .t (.by (sz b).2.1), .t (.int .i64 (sz b).2.2)]) := if_pos hb
  have hl := lim.eq_1 b most
  unfold bnd at hl
  generalize lim b most = R at *
  generalize sz b = Z at *
  obtain ⟨n, q, e⟩ := Z
  dsimp only at hsl hs hl
  by_cases h1 : e = 0
  case neg =>
    simp only [h1, ne_eq, not_false_eq_true, if_true] at hl
    repeat refine St (And.intro hs <| h1) ct60 ?_
    exact AWP.ret (Fin hl [] [])
  subst h1
  simp only [ne_eq, not_true_eq_false, if_false] at hl
  by_cases h2 : most < 0 ∨ most < (n : Int)
  · simp only [h2, if_true, show ¬ (4 : Int) = 0 by omega, not_false_eq_true] at hl
    repeat refine St (And.intro hs <| And.intro @F83.eq_def <| h2) ct60 ?_
    exact AWP.ret (Fin hl [] [])
  simp only [h2, if_false, not_true_eq_false] at hl
  by_cases h3 : (q.length : Int) < (n : Int)
  · repeat refine St (And.intro hs <| And.intro @F83.eq_def <| And.intro h2 <| h3) ct60 ?_
    exact AWP.ret (Fin (And.intro hl <| And.intro @spA.eq_def <| And.intro @spB.eq_def <| And.intro @spE.eq_def <| And.intro h3 <| (show ¬ (n : Int) < 0 by omega)) [] [])
  have ht : F58 [.by q, .int .i64 (n : Int)] = some ([], .tup [.t (.by (spA q n)), .t (.by (spB q n)), .t (.int .i64 (spE q n))]) := if_pos (by omega)
  repeat refine St (And.intro hs <| And.intro @F83.eq_def <| And.intro h2 <| And.intro h3 <| ht) ct60 ?_
  exact AWP.ret (Fin hl [] [])

def F61 : Fun
  | [.by b, .int .i64 many, .int .i64 most] => if b.length ≤ 549755812000 then some ([], .tup [.t (.sq 1 ((lst b many most).1.map .by)), .t (.by (lst b many most).2.1), .t (.int .i64 (lst b many most).2.2)]) else none
  | _ => none

theorem ct61 : CT [(57, ⟨[false], treeG F57⟩), (60, ⟨[false, false], treeG F60⟩), (83, ⟨[false, false], treeG F83⟩)] [0, 1, 2, 6, 7, 8, 9, 10, 11, 12, 13, 14, 15, 16, 24, 28, 32, 43] [] := ⟨(.cons c57.g (.cons c60.g (.cons c83.g (.nil _))))⟩

theorem c61 : ACon Try.prog 61 F61 := by
  refine aconc E_ok (rs := [.tmp 6 46, .tmp 7 22, .tmp 8 29]) Try.func61 rfl Try.ntmps61 (by kernel_rfl) rfl (by decide) F61 (np := 3) ?_ ?_
  · intro ts h; unfold F61; split <;> first | rfl | (simp at h; done)
  intro ts H r hF hwf
  unfold F61 at hF
  split at hF <;> try (cases hF; done)
  rename_i b many most
  split at hF
  case isFalse => cases hF
  rename_i hc
  have hb := hc
  cases hF
  have hm := inK_i64 (hwf (.int .i64 many) (by simp))
  have hsl := sz_len b
  have hs : F57 [.by b] = some ([], .tup [.t (.int .u64 ((sz b).1 : Nat)), .t (.by (sz b).2.1), .t (.int .i64 (sz b).2.2)]) := if_pos (by omega)
  have hl := lst.eq_1 b many most
  unfold bnd at hl
  generalize lst b many most = R at *
  generalize sz b = Z at *
  obtain ⟨n, q, e⟩ := Z
  dsimp only at hsl hs hl
  by_cases h1 : e = 0
  case neg =>
    simp only [h1, ne_eq, not_false_eq_true, if_true] at hl
    repeat refine St (And.intro hs <| h1) ct61 ?_
    exact AWP.ret (Fin (And.intro hl <| @List.map_nil.{0, 0}) [] [])
  subst h1
  simp only [ne_eq, not_true_eq_false, if_false] at hl
  by_cases h2 : many < 0 ∨ many < (n : Int)
  · simp only [h2, if_true, show ¬ (4 : Int) = 0 by omega, not_false_eq_true] at hl
    repeat refine St (And.intro hs <| And.intro @F83.eq_def <| h2) ct61 ?_
    exact AWP.ret (Fin (And.intro hl <| @List.map_nil.{0, 0}) [] [])
  simp only [h2, if_false, not_true_eq_false] at hl
  subst hl
  repeat refine St (And.intro hs <| And.intro @F83.eq_def <| h2) ct61 ?_
  refine AWP.loop (G := { p : Nat × List (List UInt8) × List UInt8 // p.1 ≤ n ∧ p.2.1.length = p.1 ∧ p.2.1.length + p.2.2.length ≤ q.length ∧ tkF most (n - p.1) p.2.1 p.2.2 = tkF most n [] q })
    (fun p => ⟨[(2, .t (.int .i64 most)), (9, .t (.int .u64 n)), (10, .t (.by p.1.2.2)), (12, .own 0), (13, .t (.int .u64 (p.1.1 : Int)))], [.sq 1 (p.1.2.1.map .by)]⟩)
    (fun p => n - p.1.1) ⟨(0, [], q), by simp⟩ (Wt trivial [2, 9, 10, 12, 13] [0]) ?_
  intro ⟨⟨k, acc, r⟩, hk, ha, hr, ht⟩
  dsimp only at hk ha hr ht ⊢
  by_cases hkn : (k : Int) < (n : Int)
  · have hs : n - k = (n - (k + 1)) + 1 := by omega
    rw [hs, tkF_succ] at ht
    obtain ⟨hlm1, hlm2⟩ := lim_len r most
    have htb : F60 [.by r, .int .i64 most] = some ([], .tup [.t (.by (lim r most).1), .t (.by (lim r most).2.1), .t (.int .i64 (lim r most).2.2)]) := if_pos (by omega)
    by_cases h3 : (lim r most).2.2 = 0
    · rw [if_neg (by simp [h3])] at ht
      have he := lim_eat h3
      have hal : (acc.map T.by).length ≤ 549755812000 := by simp; omega
      repeat refine St (And.intro htb <| hal) ct61 ?_
      exact ⟨⟨(k + 1, acc ++ [(lim r most).1], (lim r most).2.1), by omega, by simp; omega, by simp; omega, ht⟩, (Wt @map_snoc [2, 9, 10, 12, 13] [2]), by simp only; omega⟩
    · rw [if_pos h3] at ht
      repeat refine St htb ct61 ?_
      exact AWP.ret (Fin (And.intro ht.symm <| @List.map_nil.{0, 0}) [] [])
  · obtain rfl : k = n := by omega
    rw [Nat.sub_self] at ht
    repeat refine St trivial ct61 ?_
    exact AWP.ret (Fin (And.intro ht.symm <| (And.intro @tkF.eq_1 <| @tkF.eq_2)) [0] [])

def F37 : Fun
  | [.sq 1 xs, .sq 1 ys] => match asBys xs, asBys ys with
    | some l, some k => some ([], .t (.bool (l == k)))
    | _, _ => none
  | _ => none

theorem ct37 : CT [] [0, 1, 4, 5, 10, 14, 27] [(6, [⟨0, [0], [], []⟩, ⟨0, [5], [], []⟩, ⟨1, [17, 18], [], []⟩, ⟨1, [19], [2], []⟩, ⟨1, [20], [2, 3], []⟩, ⟨0, [1], [], []⟩, ⟨0, [5], [], []⟩, ⟨1, [22, 23], [], []⟩, ⟨1, [24], [7], []⟩, ⟨1, [25], [7, 8], []⟩, ⟨0, [21, 26], [2, 3, 4, 7, 8, 9], []⟩])] := ⟨GClOk.nil _⟩

theorem c37 : ACon Try.prog 37 F37 := by
  refine aconc E_ok (rs := [.tmp 4 4]) Try.func37 rfl Try.ntmps37 (by kernel_rfl) rfl (by decide) F37 (np := 2) ?_ ?_
  · intro ts h; unfold F37; split <;> first | rfl | (simp at h; done)
  intro ts H r hF hwf
  unfold F37 at hF
  split at hF <;> try (cases hF; done)
  rename_i xs ys
  split at hF <;> try (cases hF; done)
  rename_i l m hl hm
  cases hF
  obtain rfl := asBys_inv hl
  obtain rfl := asBys_inv hm
  have hg : l.length ≤ maxLen := wf_rows (hwf (.sq 1 (l.map .by)) (by simp))
  unfold maxLen at hg
  by_cases hlen : l.length = m.length
  case neg =>
    have hb : ((l.length : Int) != (m.length : Int)) = true := by simp; omega
    have hne : (l == m) = false := by simp; intro h; exact hlen (by rw [h])
    repeat refine St hb ct37 ?_
    exact AWP.ret (Fin hne [] [])
  have hb : ((l.length : Int) != (m.length : Int)) = false := by simp; omega
  repeat refine St hb ct37 ?_
  refine AWP.loop (G := { k : Nat // k ≤ l.length ∧ l.take k = m.take k }) (fun k => ⟨[(0, .t (.sq 1 (l.map .by))), (1, .t (.sq 1 (m.map .by))), (5, .t (.int .i64 (k.1 : Int)))], []⟩)
    (fun k => l.length - k.1) ⟨0, by simp⟩ (Wt trivial [0, 1, 5] []) ?_
  intro ⟨k, hk, heq⟩
  dsimp only
  by_cases hlt : (k : Int) < (l.length : Int)
  · have hlt' : k < l.length := by omega
    have hlt2 : k < m.length := by omega
    have hget := map_getD l k hlt'
    have hget2 := map_getD m k hlt2
    by_cases he : l.getD k [] = m.getD k []
    · have hbe : (m.getD k [] == m.getD k []) = true := beq_self_eq_true _
      rw [he] at hget
      repeat refine St (And.intro hlt' <| And.intro hlt2 <| And.intro hget <| And.intro hget2 <| hbe) ct37 ?_
      exact ⟨⟨k + 1, by omega, by rw [take_getD l k hlt', take_getD m k hlt2, heq, he]⟩, (Wt trivial [0, 1, 5] []), by simp only; omega⟩
    · have hbe : (l.getD k [] == m.getD k []) = false := by simpa using he
      have hne : (l == m) = false := by simp only [beq_eq_false_iff_ne]; intro h; exact he (by rw [h])
      repeat refine St (And.intro hlt' <| And.intro hlt2 <| And.intro hget <| And.intro hget2 <| hbe) ct37 ?_
      exact AWP.ret (Fin hne [] [])
  · obtain rfl : k = l.length := by omega
    have hlm : l = m := by rw [List.take_length, hlen, List.take_length] at heq; exact heq
    have hne : (l == m) = true := by rw [hlm]; exact beq_self_eq_true _
    repeat refine St trivial ct37 ?_
    exact AWP.ret (Fin hne [] [])

end Go.Fw

end

section
/- compact: bytes laid. -/
namespace Go.Fw
open Go Go.Proofs
set_option linter.unusedVariables false
set_option linter.unusedSimpArgs false

def F96 : Fun
  | [.by b] => if b.length ≤ 549755813888 then some ([.by b], .own 0) else none
  | _ => none

theorem ct96 : CT [] [0, 2] [] := ⟨GClOk.nil _⟩

theorem c96 : ACon Try.prog 96 F96 := by
  refine aconc E_ok (rs := [.tmp 2 22]) Try.func96 rfl Try.ntmps96 (by kernel_rfl) rfl (by decide) F96 (np := 1) ?_ ?_
  · intro ts h; unfold F96; split <;> first | rfl | (simp at h; done)
  intro ts H r hF hwf
  unfold F96 at hF
  split at hF <;> try (cases hF; done)
  rename_i b
  split at hF
  case isFalse => cases hF
  rename_i hc
  have hb := hc
  cases hF
  repeat refine St trivial ct96 ?_
  exact AWP.ret (Fin trivial [] [0])

def F89 : Fun
  | [.by b, .int .u8 n, .int .i64 m] => if b.length ≤ 549755813000 ∧ 0 ≤ m ∧ m ≤ 16 then some ([.by (b ++ le m.toNat n)], .own 0) else none
  | _ => none

theorem ct89 : CT [] [0, 1, 2, 6, 7, 8, 21, 22, 23] [] := ⟨GClOk.nil _⟩

theorem c89 : ACon Try.prog 89 F89 := by
  refine aconc E_ok (rs := [.tmp 6 22]) Try.func89 rfl Try.ntmps89 (by kernel_rfl) rfl (by decide) F89 (np := 3) ?_ ?_
  · intro ts h; unfold F89; split <;> first | rfl | (simp at h; done)
  intro ts H r hF hwf
  unfold F89 at hF
  split at hF <;> try (cases hF; done)
  rename_i b n m
  split at hF
  case isFalse => cases hF
  rename_i hc
  obtain ⟨hb, h0, h1⟩ := hc
  cases hF
  have hn := inK_u8 (hwf (.int .u8 n) (by simp))
  repeat refine St trivial ct89 ?_
  refine AWP.loop (G := { k : Nat // k ≤ m.toNat }) (fun k => ⟨[(7, .own 0), (8, .t (.int .u64 (shrB k.1 n))), (21, .t (.int .i64 m)), (22, .t (.int .i64 (k.1 : Int)))], [.by (b ++ le k.1 n)]⟩)
    (fun k => m.toNat - k.1) ⟨0, by omega⟩ (Wt (And.intro (And.intro @shrB.eq_1 <| @shrB.eq_2) <| (And.intro @le.eq_1 <| @le.eq_2)) [7, 8, 21, 22] [0]) ?_
  intro ⟨k, hk⟩
  dsimp only
  by_cases hlt : (k : Int) < m
  · have hl : (b ++ le k n).length ≤ 549755813100 := by simp [le_len]; omega
    have hr := shrB_range k n (by omega) (by omega)
    repeat refine St (And.intro @shr8 <| @le_len) ct89 ?_
    exact ⟨⟨k + 1, by omega⟩, (Wt (And.intro (And.intro @shrB.eq_1 <| @shrB.eq_2) <| And.intro (And.intro @le.eq_1 <| @le.eq_2) <| @List.append_assoc.{0}) [7, 8, 21, 22] [2]), by simp only; omega⟩
  · obtain rfl : k = m.toNat := by omega
    repeat refine St trivial ct89 ?_
    exact AWP.ret (Fin trivial [] [0])

def F90 : Fun
  | [.by b, .int .u16 n, .int .i64 m] => if b.length ≤ 549755813000 ∧ 0 ≤ m ∧ m ≤ 16 then some ([.by (b ++ le m.toNat n)], .own 0) else none
  | _ => none

theorem ct90 : CT [] [0, 1, 2, 6, 7, 8, 21, 22, 23] [] := ⟨GClOk.nil _⟩

theorem c90 : ACon Try.prog 90 F90 := by
  refine aconc E_ok (rs := [.tmp 6 22]) Try.func90 rfl Try.ntmps90 (by kernel_rfl) rfl (by decide) F90 (np := 3) ?_ ?_
  · intro ts h; unfold F90; split <;> first | rfl | (simp at h; done)
  intro ts H r hF hwf
  unfold F90 at hF
  split at hF <;> try (cases hF; done)
  rename_i b n m
  split at hF
  case isFalse => cases hF
  rename_i hc
  obtain ⟨hb, h0, h1⟩ := hc
  cases hF
  have hn := inK_u16 (hwf (.int .u16 n) (by simp))
  repeat refine St trivial ct90 ?_
  refine AWP.loop (G := { k : Nat // k ≤ m.toNat }) (fun k => ⟨[(7, .own 0), (8, .t (.int .u64 (shrB k.1 n))), (21, .t (.int .i64 m)), (22, .t (.int .i64 (k.1 : Int)))], [.by (b ++ le k.1 n)]⟩)
    (fun k => m.toNat - k.1) ⟨0, by omega⟩ (Wt (And.intro (And.intro @shrB.eq_1 <| @shrB.eq_2) <| (And.intro @le.eq_1 <| @le.eq_2)) [7, 8, 21, 22] [0]) ?_
  intro ⟨k, hk⟩
  dsimp only
  by_cases hlt : (k : Int) < m
  · have hl : (b ++ le k n).length ≤ 549755813100 := by simp [le_len]; omega
    have hr := shrB_range k n (by omega) (by omega)
    repeat refine St (And.intro @shr8 <| @le_len) ct90 ?_
    exact ⟨⟨k + 1, by omega⟩, (Wt (And.intro (And.intro @shrB.eq_1 <| @shrB.eq_2) <| And.intro (And.intro @le.eq_1 <| @le.eq_2) <| @List.append_assoc.{0}) [7, 8, 21, 22] [2]), by simp only; omega⟩
  · obtain rfl : k = m.toNat := by omega
    repeat refine St trivial ct90 ?_
    exact AWP.ret (Fin trivial [] [0])

def F88 : Fun
  | [.by b, .int .u32 n, .int .i64 m] => if b.length ≤ 549755813000 ∧ 0 ≤ m ∧ m ≤ 16 then some ([.by (b ++ le m.toNat n)], .own 0) else none
  | _ => none

theorem ct88 : CT [] [0, 1, 2, 6, 7, 8, 21, 22, 23] [] := ⟨GClOk.nil _⟩

theorem c88 : ACon Try.prog 88 F88 := by
  refine aconc E_ok (rs := [.tmp 6 22]) Try.func88 rfl Try.ntmps88 (by kernel_rfl) rfl (by decide) F88 (np := 3) ?_ ?_
  · intro ts h; unfold F88; split <;> first | rfl | (simp at h; done)
  intro ts H r hF hwf
  unfold F88 at hF
  split at hF <;> try (cases hF; done)
  rename_i b n m
  split at hF
  case isFalse => cases hF
  rename_i hc
  obtain ⟨hb, h0, h1⟩ := hc
  cases hF
  have hn := inK_u32 (hwf (.int .u32 n) (by simp))
  repeat refine St trivial ct88 ?_
  refine AWP.loop (G := { k : Nat // k ≤ m.toNat }) (fun k => ⟨[(7, .own 0), (8, .t (.int .u64 (shrB k.1 n))), (21, .t (.int .i64 m)), (22, .t (.int .i64 (k.1 : Int)))], [.by (b ++ le k.1 n)]⟩)
    (fun k => m.toNat - k.1) ⟨0, by omega⟩ (Wt (And.intro (And.intro @shrB.eq_1 <| @shrB.eq_2) <| (And.intro @le.eq_1 <| @le.eq_2)) [7, 8, 21, 22] [0]) ?_
  intro ⟨k, hk⟩
  dsimp only
  by_cases hlt : (k : Int) < m
  · have hl : (b ++ le k n).length ≤ 549755813100 := by simp [le_len]; omega
    have hr := shrB_range k n (by omega) (by omega)
    repeat refine St (And.intro @shr8 <| @le_len) ct88 ?_
    exact ⟨⟨k + 1, by omega⟩, (Wt (And.intro (And.intro @shrB.eq_1 <| @shrB.eq_2) <| And.intro (And.intro @le.eq_1 <| @le.eq_2) <| @List.append_assoc.{0}) [7, 8, 21, 22] [2]), by simp only; omega⟩
  · obtain rfl : k = m.toNat := by omega
    repeat refine St trivial ct88 ?_
    exact AWP.ret (Fin trivial [] [0])

def F91 : Fun
  | [.by b, .int .u64 n, .int .i64 m] => if b.length ≤ 549755813000 ∧ 0 ≤ m ∧ m ≤ 16 then some ([.by (b ++ le m.toNat n)], .own 0) else none
  | _ => none

theorem ct91 : CT [] [0, 1, 2, 6, 7, 8, 20, 21, 22] [] := ⟨GClOk.nil _⟩

theorem c91 : ACon Try.prog 91 F91 := by
  refine aconc E_ok (rs := [.tmp 6 22]) Try.func91 rfl Try.ntmps91 (by kernel_rfl) rfl (by decide) F91 (np := 3) ?_ ?_
  · intro ts h; unfold F91; split <;> first | rfl | (simp at h; done)
  intro ts H r hF hwf
  unfold F91 at hF
  split at hF <;> try (cases hF; done)
  rename_i b n m
  split at hF
  case isFalse => cases hF
  rename_i hc
  obtain ⟨hb, h0, h1⟩ := hc
  cases hF
  have hn := inK_u64 (hwf (.int .u64 n) (by simp))
  repeat refine St trivial ct91 ?_
  refine AWP.loop (G := { k : Nat // k ≤ m.toNat }) (fun k => ⟨[(7, .own 0), (8, .t (.int .u64 (shrB k.1 n))), (20, .t (.int .i64 m)), (21, .t (.int .i64 (k.1 : Int)))], [.by (b ++ le k.1 n)]⟩)
    (fun k => m.toNat - k.1) ⟨0, by omega⟩ (Wt (And.intro (And.intro @shrB.eq_1 <| @shrB.eq_2) <| (And.intro @le.eq_1 <| @le.eq_2)) [7, 8, 20, 21] [0]) ?_
  intro ⟨k, hk⟩
  dsimp only
  by_cases hlt : (k : Int) < m
  · have hl : (b ++ le k n).length ≤ 549755813100 := by simp [le_len]; omega
    have hr := shrB_range k n (by omega) (by omega)
    repeat refine St (And.intro @shr8 <| @le_len) ct91 ?_
    exact ⟨⟨k + 1, by omega⟩, (Wt (And.intro (And.intro @shrB.eq_1 <| @shrB.eq_2) <| And.intro (And.intro @le.eq_1 <| @le.eq_2) <| @List.append_assoc.{0}) [7, 8, 20, 21] [2]), by simp only; omega⟩
  · obtain rfl : k = m.toNat := by omega
    repeat refine St trivial ct91 ?_
    exact AWP.ret (Fin trivial [] [0])

def F68 : Fun
  | [.by b, .int .u32 n] => if b.length ≤ 549755812000 then some ([.by (b ++ le 4 n)], .own 0) else none
  | _ => none

theorem ct68 : CT [(88, ⟨[false, false, false], treeG F88⟩)] [0, 1, 4] [] := ⟨(.cons c88.g (.nil _))⟩

theorem c68 : ACon Try.prog 68 F68 := by
  refine aconc E_ok (rs := [.tmp 4 22]) Try.func68 rfl Try.ntmps68 (by kernel_rfl) rfl (by decide) F68 (np := 2) ?_ ?_
  · intro ts h; unfold F68; split <;> first | rfl | (simp at h; done)
  intro ts H r hF hwf
  unfold F68 at hF
  split at hF <;> try (cases hF; done)
  rename_i b n
  split at hF
  case isFalse => cases hF
  rename_i hc
  have hb := hc
  cases hF
  have h : F88 [.by b, .int .u32 n, .int .i64 4] = some ([.by (b ++ le 4 n)], .own 0) := if_pos (by omega)
  repeat refine St h ct68 ?_
  exact AWP.ret (Fin trivial [] [0])

def F70 : Fun
  | [.by b, .int .u64 n] => if b.length ≤ 549755812000 then some ([.by (b ++ le 8 n)], .own 0) else none
  | _ => none

theorem ct70 : CT [(91, ⟨[false, false, false], treeG F91⟩)] [0, 1, 4] [] := ⟨(.cons c91.g (.nil _))⟩

theorem c70 : ACon Try.prog 70 F70 := by
  refine aconc E_ok (rs := [.tmp 4 22]) Try.func70 rfl Try.ntmps70 (by kernel_rfl) rfl (by decide) F70 (np := 2) ?_ ?_
  · intro ts h; unfold F70; split <;> first | rfl | (simp at h; done)
  intro ts H r hF hwf
  unfold F70 at hF
  split at hF <;> try (cases hF; done)
  rename_i b n
  split at hF
  case isFalse => cases hF
  rename_i hc
  have hb := hc
  cases hF
  have h : F91 [.by b, .int .u64 n, .int .i64 8] = some ([.by (b ++ le 8 n)], .own 0) := if_pos (by omega)
  repeat refine St h ct70 ?_
  exact AWP.ret (Fin trivial [] [0])

theorem put64_c {b : List UInt8} (n : Int) (h : b.length ≤ 549755812000) : F70 [.by b, .int .u64 n] = some ([.by (b ++ le 8 n)], .own 0) := if_pos h
theorem put32_c {b : List UInt8} (n : Int) (h : b.length ≤ 549755812000) : F68 [.by b, .int .u32 n] = some ([.by (b ++ le 4 n)], .own 0) := if_pos h
def F69 : Fun
  | [.by b, .int .u64 n] => if b.length ≤ 549755812000 then some ([.by (b ++ sizeB n)], .own 0) else none
  | _ => none

theorem ct69 : CT [(88, ⟨[false, false, false], treeG F88⟩), (89, ⟨[false, false, false], treeG F89⟩), (90, ⟨[false, false, false], treeG F90⟩), (91, ⟨[false, false, false], treeG F91⟩)] [0, 1, 4, 5, 12, 20] [] := ⟨(.cons c88.g (.cons c89.g (.cons c90.g (.cons c91.g (.nil _)))))⟩

theorem c69 : ACon Try.prog 69 F69 := by
  refine aconc E_ok (rs := [.tmp 4 22]) Try.func69 rfl Try.ntmps69 (by kernel_rfl) rfl (by decide) F69 (np := 2) ?_ ?_
  · intro ts h; unfold F69; split <;> first | rfl | (simp at h; done)
  intro ts H r hF hwf
  unfold F69 at hF
  split at hF <;> try (cases hF; done)
  rename_i b n
  split at hF
  case isFalse => cases hF
  rename_i hc
  have hb := hc
  cases hF
  have hn := inK_u64 (hwf (.int .u64 n) (by simp))
  have h8 : ∀ c : Int, F89 [.by b, .int .u8 c, .int .i64 1] = some ([.by (b ++ le 1 c)], .own 0) := fun c => if_pos (by omega)
  have hl : ∀ c : Int, (b ++ le 1 c).length ≤ 549755813000 := fun c => by simp [le_len]; omega
  have h16 : ∀ c d : Int, F90 [.by (b ++ le 1 c), .int .u16 d, .int .i64 2] = some ([.by (b ++ le 1 c ++ le 2 d)], .own 0) := fun c d => if_pos ⟨hl c, by omega⟩
  have h32 : ∀ c d : Int, F88 [.by (b ++ le 1 c), .int .u32 d, .int .i64 4] = some ([.by (b ++ le 1 c ++ le 4 d)], .own 0) := fun c d => if_pos ⟨hl c, by omega⟩
  have h64 : ∀ c d : Int, F91 [.by (b ++ le 1 c), .int .u64 d, .int .i64 8] = some ([.by (b ++ le 1 c ++ le 8 d)], .own 0) := fun c d => if_pos ⟨hl c, by omega⟩
  by_cases h1 : n < 253
  · have hw : IntKind.u8.wrap n = n := wrap_u8 (by omega) (by omega)
    repeat refine St (And.intro hw <| h8) ct69 ?_
    exact AWP.ret (Fin (And.intro @sizeB.eq_def <| h1) [] [0])
  by_cases h2 : n < 65536
  · have hw : IntKind.u16.wrap n = n := wrap_u16 (by omega) (by omega)
    repeat refine St (And.intro hw <| And.intro h8 <| h16) ct69 ?_
    exact AWP.ret (Fin (And.intro @sizeB.eq_def <| And.intro h1 <| And.intro h2 <| @List.append_assoc.{0}) [] [1])
  by_cases h3 : n < 4294967296
  · have hw : IntKind.u32.wrap n = n := wrap_u32 (by omega) (by omega)
    repeat refine St (And.intro hw <| And.intro h8 <| h32) ct69 ?_
    exact AWP.ret (Fin (And.intro @sizeB.eq_def <| And.intro h1 <| And.intro h2 <| And.intro h3 <| @List.append_assoc.{0}) [] [1])
  repeat refine St (And.intro h8 <| h64) ct69 ?_
  exact AWP.ret (Fin (And.intro @sizeB.eq_def <| And.intro h1 <| And.intro h2 <| And.intro h3 <| @List.append_assoc.{0}) [] [1])

theorem putsize_c {b : List UInt8} (n : Int) (h : b.length ≤ 549755812000) : F69 [.by b, .int .u64 n] = some ([.by (b ++ sizeB n)], .own 0) := if_pos h

def F71 : Fun
  | [.by b, .by x] => if b.length + x.length ≤ 549755800000 then some ([.by (b ++ sizeB x.length ++ x)], .own 0) else none
  | _ => none

theorem ct71 : CT [(69, ⟨[false, false], treeG F69⟩)] [0, 1, 4] [] := ⟨(.cons c69.g (.nil _))⟩

theorem c71 : ACon Try.prog 71 F71 := by
  refine aconc E_ok (rs := [.tmp 4 22]) Try.func71 rfl Try.ntmps71 (by kernel_rfl) rfl (by decide) F71 (np := 2) ?_ ?_
  · intro ts h; unfold F71; split <;> first | rfl | (simp at h; done)
  intro ts H r hF hwf
  unfold F71 at hF
  split at hF <;> try (cases hF; done)
  rename_i b x
  split at hF
  case isFalse => cases hF
  rename_i hc
  have hb := hc
  cases hF
  have hs := sizeB_len (x.length : Int)
  have h : F69 [.by b, .int .u64 (x.length : Int)] = some ([.by (b ++ sizeB x.length)], .own 0) := if_pos (by omega)
  have hl : (b ++ sizeB x.length).length ≤ 549755812000 := by simp; omega
  repeat refine St h ct71 ?_
  exact AWP.ret (Fin trivial [] [1])

theorem putbytes_c {b x : List UInt8} (h : b.length + x.length ≤ 549755800000) : F71 [.by b, .by x] = some ([.by (b ++ sizeB x.length ++ x)], .own 0) := if_pos h

def F64 : Fun
  | [.by b, .sq 1 xs] => match asBys xs with
    | some l => if b.length + (flat l).length ≤ 549755700000 then some ([.by (b ++ sizeB l.length ++ flat l)], .own 0) else none
    | none => none
  | _ => none

theorem ct64 : CT [(69, ⟨[false, false], treeG F69⟩), (71, ⟨[false, false], treeG F71⟩)] [0, 1, 4, 5, 7, 13, 14, 15, 16] [] := ⟨(.cons c69.g (.cons c71.g (.nil _)))⟩

theorem c64 : ACon Try.prog 64 F64 := by
  refine aconc E_ok (rs := [.tmp 4 22]) Try.func64 rfl Try.ntmps64 (by kernel_rfl) rfl (by decide) F64 (np := 2) ?_ ?_
  · intro ts h; unfold F64; split <;> first | rfl | (simp at h; done)
  intro ts H r hF hwf
  unfold F64 at hF
  split at hF <;> try (cases hF; done)
  rename_i b xs
  split at hF <;> try (cases hF; done)
  rename_i l hl
  split at hF
  case isFalse => cases hF
  rename_i hc
  have hb := hc
  cases hF
  obtain rfl := asBys_inv hl
  have hlen := len_le_flat l
  have hs := sizeB_len (l.length : Int)
  have h : F69 [.by b, .int .u64 (l.length : Int)] = some ([.by (b ++ sizeB l.length)], .own 0) := if_pos (by omega)
  repeat refine St h ct64 ?_
  refine AWP.loop (G := { k : Nat // k ≤ l.length }) (fun k => ⟨[(5, .own 0), (13, .t (.sq 1 (l.map .by))), (14, .t (.int .i64 l.length)), (15, .t (.int .i64 (k.1 : Int)))], [.by (b ++ sizeB l.length ++ flat (l.take k.1))]⟩)
    (fun k => l.length - k.1) ⟨0, by omega⟩ (Wt (And.intro @List.take_zero.{0} <| (And.intro @flat.eq_1 <| @flat.eq_2)) [5, 13, 14, 15] [0]) ?_
  intro ⟨k, hk⟩
  dsimp only
  by_cases hlt : (k : Int) < (l.length : Int)
  · have hlt' : k < l.length := by omega
    have hget := map_getD l k hlt'
    have hfl := flat_get_len l k hlt'
    have hft := flat_take l k hlt'
    have h2 : F71 [.by (b ++ sizeB l.length ++ flat (l.take k)), .by (l.getD k [])] = some ([.by (b ++ sizeB l.length ++ flat (l.take k) ++ sizeB (l.getD k []).length ++ l.getD k [])], .own 0) := if_pos (by simp only [List.length_append]; omega)
    repeat refine St (And.intro hlt' <| And.intro hget <| h2) ct64 ?_
    exact ⟨⟨k + 1, by omega⟩, (Wt (And.intro hft <| @List.append_assoc.{0}) [5, 13, 14, 15] [1]), by simp only; omega⟩
  · obtain rfl : k = l.length := by omega
    repeat refine St trivial ct64 ?_
    exact AWP.ret (Fin (@List.take_length.{0}) [] [0])

theorem putlist_c {b : List UInt8} {l : List (List UInt8)} (h : b.length + (flat l).length ≤ 549755700000) : F64 [.by b, .sq 1 (l.map .by)] = some ([.by (b ++ sizeB l.length ++ flat l)], .own 0) := by
  simp only [F64, asBys_map]; exact if_pos h

end Go.Fw

end

section
/- Chapter 7: turning, the numbers of the steps. -/
namespace Go.Fw
open Go Go.Proofs
set_option linter.unusedVariables false
set_option linter.unusedSimpArgs false

theorem u32_of {n : Int} (h : inK .u32 n) : n = ((UInt32.ofNat n.toNat).toNat : Int) := by
  obtain ⟨h1, h2⟩ := h
  have h2' : n ≤ 4294967295 := h2
  have h1' : 0 ≤ n := h1
  rw [UInt32.toNat_ofNat', Nat.mod_eq_of_lt (by omega)]; omega

theorem rot_s : ∀ r : Nat, r < 32 → 1 ≤ r → abits .and .u64 (IntKind.u64.wrap (-(r : Int))) 31 = ((32 - r : Nat) : Int) ∧ IntKind.u64.wrap (32 - ((32 - r : Nat) : Int)) = (r : Int) := by decide +kernel

def F106 : Fun
  | [.int .u32 n, .int .i64 k] => if -31 ≤ k ∧ k ≤ -1 then some ([], .t (u32T (tr (UInt32.ofNat n.toNat) (-k).toNat))) else none
  | _ => none

theorem ct106 : CT [] [0, 1, 4, 5] [] := ⟨GClOk.nil _⟩

theorem c106 : ACon Try.prog 106 F106 := by
  refine aconc E_ok (rs := [.tmp 4 24]) Try.func106 rfl Try.ntmps106 (by kernel_rfl) rfl (by decide) F106 (np := 2) ?_ ?_
  · intro ts h; unfold F106; split <;> first | rfl | (simp at h; done)
  intro ts H r hF hwf
  unfold F106 at hF
  split at hF <;> try (cases hF; done)
  rename_i n k
  split at hF
  case isFalse => cases hF
  rename_i hk
  have hn : inK .u32 n := by have := hwf _ (List.mem_cons_self); simpa only [T.wf] using this
  have hn' := u32_of hn
  generalize UInt32.ofNat n.toNat = x at *
  subst hn'
  obtain ⟨r, hr, hr1⟩ : ∃ r : Nat, k = -(r : Int) ∧ (-k).toNat = r := ⟨(-k).toNat, by omega, rfl⟩
  rw [hr1] at hF
  cases hF
  subst hr
  obtain ⟨h1, h2⟩ := rot_s r (by omega) (by omega)
  have h0 : ¬ ((32 - r : Nat) : Int) < 0 := by omega
  have h3 : ¬ (r : Int) < 0 := by omega
  have h4 := u32_shl x (32 - r) (by omega)
  have h5 := u32_shr x r (by omega)
  repeat refine St (And.intro h1 <| And.intro h2 <| And.intro h0 <| And.intro h3 <| And.intro h4 <| And.intro h5 <| @u32_or) ct106 ?_
  have e : tr x r = x <<< UInt32.ofNat (32 - r) ||| x >>> UInt32.ofNat r := UInt32.or_comm _ _
  exact AWP.ret (Fin (And.intro e <| @u32T.eq_def) [] [])

theorem u32_ofNat (x : UInt32) : UInt32.ofNat x.toNat = x := by simp
theorem rot_c (x : UInt32) (r : Nat) (h : r ≤ 31) (h1 : 1 ≤ r) : F106 [.int .u32 (x.toNat : Int), .int .i64 (-(r : Int))] = some ([], .t (.int .u32 ((tr x r).toNat : Int))) := by
  simp only [F106]
  rw [if_pos ⟨by omega, by omega⟩]
  simp [u32T]
theorem rotc2 (x : UInt32) : F106 [.int .u32 (x.toNat : Int), .int .i64 (-2)] = some ([], .t (.int .u32 ((tr x 2).toNat : Int))) := rot_c x 2 (by omega) (by omega)
theorem rotc6 (x : UInt32) : F106 [.int .u32 (x.toNat : Int), .int .i64 (-6)] = some ([], .t (.int .u32 ((tr x 6).toNat : Int))) := rot_c x 6 (by omega) (by omega)
theorem rotc7 (x : UInt32) : F106 [.int .u32 (x.toNat : Int), .int .i64 (-7)] = some ([], .t (.int .u32 ((tr x 7).toNat : Int))) := rot_c x 7 (by omega) (by omega)
theorem rotc11 (x : UInt32) : F106 [.int .u32 (x.toNat : Int), .int .i64 (-11)] = some ([], .t (.int .u32 ((tr x 11).toNat : Int))) := rot_c x 11 (by omega) (by omega)
theorem rotc13 (x : UInt32) : F106 [.int .u32 (x.toNat : Int), .int .i64 (-13)] = some ([], .t (.int .u32 ((tr x 13).toNat : Int))) := rot_c x 13 (by omega) (by omega)
theorem rotc17 (x : UInt32) : F106 [.int .u32 (x.toNat : Int), .int .i64 (-17)] = some ([], .t (.int .u32 ((tr x 17).toNat : Int))) := rot_c x 17 (by omega) (by omega)
theorem rotc18 (x : UInt32) : F106 [.int .u32 (x.toNat : Int), .int .i64 (-18)] = some ([], .t (.int .u32 ((tr x 18).toNat : Int))) := rot_c x 18 (by omega) (by omega)
theorem rotc19 (x : UInt32) : F106 [.int .u32 (x.toNat : Int), .int .i64 (-19)] = some ([], .t (.int .u32 ((tr x 19).toNat : Int))) := rot_c x 19 (by omega) (by omega)
theorem rotc22 (x : UInt32) : F106 [.int .u32 (x.toNat : Int), .int .i64 (-22)] = some ([], .t (.int .u32 ((tr x 22).toNat : Int))) := rot_c x 22 (by omega) (by omega)
theorem rotc25 (x : UInt32) : F106 [.int .u32 (x.toNat : Int), .int .i64 (-25)] = some ([], .t (.int .u32 ((tr x 25).toNat : Int))) := rot_c x 25 (by omega) (by omega)

theorem kT_eq : List.map u32T kS = [T.int .u32 1116352408, T.int .u32 1899447441, T.int .u32 3049323471, T.int .u32 3921009573, T.int .u32 961987163, T.int .u32 1508970993, T.int .u32 2453635748, T.int .u32 2870763221, T.int .u32 3624381080, T.int .u32 310598401, T.int .u32 607225278, T.int .u32 1426881987, T.int .u32 1925078388, T.int .u32 2162078206, T.int .u32 2614888103, T.int .u32 3248222580, T.int .u32 3835390401, T.int .u32 4022224774, T.int .u32 264347078, T.int .u32 604807628, T.int .u32 770255983, T.int .u32 1249150122, T.int .u32 1555081692, T.int .u32 1996064986, T.int .u32 2554220882, T.int .u32 2821834349, T.int .u32 2952996808, T.int .u32 3210313671, T.int .u32 3336571891, T.int .u32 3584528711, T.int .u32 113926993, T.int .u32 338241895, T.int .u32 666307205, T.int .u32 773529912, T.int .u32 1294757372, T.int .u32 1396182291, T.int .u32 1695183700, T.int .u32 1986661051, T.int .u32 2177026350, T.int .u32 2456956037, T.int .u32 2730485921, T.int .u32 2820302411, T.int .u32 3259730800, T.int .u32 3345764771, T.int .u32 3516065817, T.int .u32 3600352804, T.int .u32 4094571909, T.int .u32 275423344, T.int .u32 430227734, T.int .u32 506948616, T.int .u32 659060556, T.int .u32 883997877, T.int .u32 958139571, T.int .u32 1322822218, T.int .u32 1537002063, T.int .u32 1747873779, T.int .u32 1955562222, T.int .u32 2024104815, T.int .u32 2227730452, T.int .u32 2361852424, T.int .u32 2428436474, T.int .u32 2756734187, T.int .u32 3204031479, T.int .u32 3329325298] := rfl
theorem hT_eq : List.map u32T hS = [T.int .u32 1779033703, T.int .u32 3144134277, T.int .u32 1013904242, T.int .u32 2773480762, T.int .u32 1359893119, T.int .u32 2600822924, T.int .u32 528734635, T.int .u32 1541459225] := rfl

def F105 : Fun
  | [] => some ([], .t (.ar 64 1 (kS.map u32T)))
  | _ => none

theorem ct105 : CT [] [0] [] := ⟨GClOk.nil _⟩

theorem c105 : ACon Try.prog 105 F105 := by
  refine aconc E_ok (rs := [.cell 0 114]) Try.func105 rfl Try.ntmps105 (by kernel_rfl) rfl (by decide) F105 (np := 0) ?_ ?_
  · intro ts h; unfold F105; split <;> first | rfl | (simp at h; done)
  intro ts H r hF hwf
  unfold F105 at hF
  split at hF <;> try (cases hF; done)
  cases hF
  repeat refine St @zar_len ct105 ?_
  exact AWP.ret (Fin @kT_eq [] [])

def F101 : Fun
  | [] => some ([], .t (.ar 8 1 (hS.map u32T)))
  | _ => none

theorem ct101 : CT [] [0] [] := ⟨GClOk.nil _⟩

theorem c101 : ACon Try.prog 101 F101 := by
  refine aconc E_ok (rs := [.cell 0 108]) Try.func101 rfl Try.ntmps101 (by kernel_rfl) rfl (by decide) F101 (np := 0) ?_ ?_
  · intro ts h; unfold F101; split <;> first | rfl | (simp at h; done)
  intro ts H r hF hwf
  unfold F101 at hF
  split at hF <;> try (cases hF; done)
  cases hF
  repeat refine St trivial ct101 ?_
  exact AWP.ret (Fin @hT_eq [] [])

end Go.Fw

end

section
/- Chapter 7: a block's numbers. -/
namespace Go.Fw
open Go Go.Proofs
set_option linter.unusedVariables false
set_option linter.unusedSimpArgs false

def F104 : Fun
  | [.by b] => if b.length = 64 then some ([], .t (.ar 64 1 ((sch b 64).map u32T))) else none
  | _ => none

theorem ct104 : CT [(106, ⟨[false, false], treeG F106⟩)] [0, 2, 3, 4, 6, 7, 8, 9, 10, 11, 12, 13, 21, 22, 23, 24, 39] [(14, [⟨0, [7], [], []⟩, ⟨0, [42], [], []⟩, ⟨1, [3, 43], [], []⟩, ⟨1, [44], [2], []⟩, ⟨0, [7], [], []⟩, ⟨0, [46], [], []⟩, ⟨1, [3, 47], [], []⟩, ⟨1, [48], [6], []⟩, ⟨0, [45], [2, 3], []⟩, ⟨0, [49], [2, 3, 6, 7], []⟩]), (17, [⟨0, [7], [], []⟩, ⟨0, [7], [], []⟩, ⟨0, [67], [], []⟩, ⟨1, [3, 68], [], []⟩, ⟨1, [69], [3], []⟩, ⟨0, [10], [], []⟩, ⟨0, [70, 71], [3, 4], []⟩, ⟨0, [7], [], []⟩, ⟨0, [73], [], []⟩, ⟨1, [3, 74], [], []⟩, ⟨1, [75], [9], []⟩, ⟨0, [72, 76], [3, 4, 9, 10], []⟩, ⟨0, [11], [], []⟩, ⟨0, [77, 78], [3, 4, 9, 10], []⟩, ⟨1, [3, 66], [3, 4, 9, 10], []⟩, ⟨2, [79, 80], [3, 4, 9, 10, 14], []⟩])] := ⟨(.cons c106.g (.nil _))⟩

/-- The array so far: so many numbers, then noughts. -/
def arS (l : List UInt32) (n : Nat) : List T := (l ++ List.replicate (n - l.length) 0).map u32T
theorem arS_len {l : List UInt32} {n : Nat} (h : l.length ≤ n) : (arS l n).length = n := by simp [arS]; omega
theorem arS_get {l : List UInt32} {n i : Nat} (h : i < l.length) : (arS l n).getD i default = .int .u32 ((l.getD i 0).toNat : Int) := by
  simp [arS, List.getD_eq_getElem?_getD, List.getElem?_append_left, h, u32T]
theorem rep_pad {l : List UInt32} {n : Nat} (h : l.length < n) : l ++ List.replicate (n - l.length) 0 = l ++ 0 :: List.replicate (n - (l.length + 1)) 0 := by
  have e : n - l.length = (n - (l.length + 1)) + 1 := by omega
  rw [e, List.replicate_succ]
theorem arS_set {l : List UInt32} {n : Nat} {x y : UInt32} (h : l.length < n) : (arS (l ++ [y]) n).set l.length (.int .u32 (x.toNat : Int)) = arS (l ++ [x]) n := by
  have e : T.int .u32 (x.toNat : Int) = u32T x := rfl
  rw [e]
  simp only [arS, ← List.map_set]
  simp
theorem arS_zero {l : List UInt32} {n : Nat} (h : l.length < n) : arS l n = arS (l ++ [0]) n := by
  unfold arS
  rw [rep_pad h]
  simp
theorem arS_nil (n : Nat) : arS [] n = zar n (.int .u32 0) := by simp [arS, zar, u32T]
theorem arS_full {l : List UInt32} {n : Nat} (h : l.length = n) : arS l n = l.map u32T := by simp [arS, h]

theorem arS_size (l : List UInt32) (n i : Nat) (h : i < (arS l n).length) : ((arS l n).getD i default).size = 1 := by
  unfold arS at *
  rw [List.length_map] at h
  rw [u32T_getD h]; rfl

theorem sl8 (x : UInt32) : IntKind.u32.wrap ((x.toNat : Int) * 2 ^ (min 8 IntKind.u32.bits)) = ((x <<< 8).toNat : Int) := u32_shl x 8 (by omega)
theorem sr3 (x : UInt32) : Int.fdiv (x.toNat : Int) (2 ^ (min 3 IntKind.u32.bits)) = ((x >>> 3).toNat : Int) := u32_shr x 3 (by omega)
theorem sr10 (x : UInt32) : Int.fdiv (x.toNat : Int) (2 ^ (min 10 IntKind.u32.bits)) = ((x >>> 10).toNat : Int) := u32_shr x 10 (by omega)

def wacc (b : List UInt8) (t : Nat) : Nat → UInt32
  | 0 => 0
  | j + 1 => wacc b t j <<< 8 ||| (b.getD (4 * t + j) 0).toUInt32
theorem wacc4 (b : List UInt8) (t : Nat) : wacc b t 4 = word b t := by
  simp only [wacc, word, Nat.add_zero]
  congr 6
  simp

theorem fsg0 (x : UInt32) : tr x 7 ^^^ tr x 18 ^^^ x >>> 3 = sg0 x := rfl
theorem fsg1 (x : UInt32) : tr x 17 ^^^ tr x 19 ^^^ x >>> 10 = sg1 x := rfl

set_option maxHeartbeats 1000000 in
theorem c104 : ACon Try.prog 104 F104 := by
  refine aconc E_ok (rs := [.cell 2 114]) Try.func104 rfl Try.ntmps104 (by kernel_rfl) rfl (by decide) F104 (np := 1) ?_ ?_
  · intro ts h; unfold F104; split <;> first | rfl | (simp at h; done)
  intro ts H r hF hwf
  unfold F104 at hF
  split at hF <;> try (cases hF; done)
  rename_i b
  split at hF
  case isFalse => cases hF
  rename_i hb
  cases hF
  repeat refine St trivial ct104 ?_
  refine AWP.loop (G := { t : Nat // t ≤ 16 }) (fun t => ⟨[(0, .t (.by b)), (2, .ptr 0 0 []), (3, .ptr 1 0 []), (12, .t (.int .i64 (t.1 : Int)))], [.bx (.t (.ar 64 1 (zar 64 (.int .u32 0)))), .bx (.t (.ar 64 1 (arS (sch b t.1) 64)))]⟩) (fun t => 16 - t.1) ⟨0, by omega⟩ ((Wt (And.intro (And.intro @sch.eq_1 <| @sch.eq_2) <| @arS_nil) [0, 2, 3, 12] [0, 1])) ?_
  · intro ⟨t, ht⟩
    dsimp only
    have hsl := sch_len b t
    by_cases hlt : (t : Int) < 16
    case neg =>
      obtain rfl : t = 16 := by omega
      repeat refine St hlt ct104 ?_
      refine AWP.loop (G := { t : Nat // 16 ≤ t ∧ t ≤ 64 }) (fun t => ⟨[(0, .t (.by b)), (2, .ptr 0 0 []), (3, .ptr 1 0 []), (7, .t (.int .i64 (t.1 : Int)))], [.bx (.t (.ar 64 1 (zar 64 (.int .u32 0)))), .bx (.t (.ar 64 1 (arS (sch b t.1) 64)))]⟩) (fun t => 64 - t.1) ⟨16, by omega⟩ ((Wt trivial [0, 2, 3, 7] [0, 1])) ?_
      intro ⟨t, ht1, ht2⟩
      dsimp only
      have hsl := sch_len b t
      by_cases hlt2 : (t : Int) < 64
      case neg =>
        obtain rfl : t = 64 := by omega
        have hf := arS_full hsl
        have harl : (List.map u32T (sch b 64)).length = 64 := by simp [hsl]
        repeat refine St (And.intro hlt2 <| And.intro hf <| And.intro harl <| And.intro @T.size.eq_def <| @zar_len) ct104 ?_
        exact AWP.ret (Fin trivial [] [])
      have ht64 : t < 64 := by omega
      have hm15 : IntKind.i64.wrap ((t : Int) - 15) = ((t - 15 : Nat) : Int) := by rw [wrap_i64 (by omega) (by omega)]; omega
      have hm2 : IntKind.i64.wrap ((t : Int) - 2) = ((t - 2 : Nat) : Int) := by rw [wrap_i64 (by omega) (by omega)]; omega
      have hm16 : IntKind.i64.wrap ((t : Int) - 16) = ((t - 16 : Nat) : Int) := by rw [wrap_i64 (by omega) (by omega)]; omega
      have hm7 : IntKind.i64.wrap ((t : Int) - 7) = ((t - 7 : Nat) : Int) := by rw [wrap_i64 (by omega) (by omega)]; omega
      have hk1 : IntKind.i64.wrap ((t : Int) + 1) = ((t + 1 : Nat) : Int) := by rw [wrap_i64 (by omega) (by omega)]; omega
      have harl : (arS (sch b t) 64).length = 64 := arS_len (by omega)
      have g15 := arS_get (n := 64) (l := sch b t) (i := t - 15) (by omega)
      have g2 := arS_get (n := 64) (l := sch b t) (i := t - 2) (by omega)
      have g16 := arS_get (n := 64) (l := sch b t) (i := t - 16) (by omega)
      have g7 := arS_get (n := 64) (l := sch b t) (i := t - 7) (by omega)
      have l15 : t - 15 < 64 := by omega
      have l2 : t - 2 < 64 := by omega
      have l16 : t - 16 < 64 := by omega
      have l7 : t - 7 < 64 := by omega
      have i15 : ((t - 15 : Nat) : Int) < 64 := by omega
      have i2 : ((t - 2 : Nat) : Int) < 64 := by omega
      have i16 : ((t - 16 : Nat) : Int) < 64 := by omega
      have i7 : ((t - 7 : Nat) : Int) < 64 := by omega
      have hars : ∀ y : UInt32, (arS (sch b t) 64).set t (.int .u32 (y.toNat : Int)) = arS (sch b t ++ [y]) 64 := fun y => by
        have := arS_set (l := sch b t) (n := 64) (x := y) (y := 0) (by omega)
        rw [← arS_zero (by omega), hsl] at this
        exact this
      have gsz := arS_size (sch b t) 64 t (by omega)
      have hnx : sch b t ++ [(sch b t).getD (t - 16) 0 + sg0 ((sch b t).getD (t - 15) 0) + (sch b t).getD (t - 7) 0 + sg1 ((sch b t).getD (t - 2) 0)] = sch b (t + 1) := by simp only [sch, next]; rw [if_neg (by omega)]
      repeat refine St (And.intro hlt2 <| And.intro hm15 <| And.intro hm2 <| And.intro hm16 <| And.intro hm7 <| And.intro harl <| And.intro g15 <| And.intro g2 <| And.intro g16 <| And.intro g7 <| And.intro l15 <| And.intro l2 <| And.intro l16 <| And.intro l7 <| And.intro i15 <| And.intro i2 <| And.intro i16 <| And.intro i7 <| And.intro ht64 <| And.intro @rotc7 <| And.intro @rotc18 <| And.intro @rotc17 <| And.intro @rotc19 <| And.intro @u32_xor <| And.intro @u32_add <| And.intro @sr3 <| And.intro @sr10 <| And.intro @fsg0 <| And.intro @fsg1 <| And.intro hars <| And.intro hk1 <| gsz) ct104 ?_
      exact ⟨⟨t + 1, by omega, by omega⟩, (Wt hnx [0, 2, 3, 7] [0, 1]), by simp only; omega⟩
    have hm1 : IntKind.i64.wrap (4 * (t : Int)) = ((4 * t : Nat) : Int) := by rw [wrap_i64 (by omega) (by omega)]; omega
    have hm2 : IntKind.i64.wrap (((4 * t : Nat) : Int) + 4) = ((4 * t + 4 : Nat) : Int) := by rw [wrap_i64 (by omega) (by omega)]; omega
    repeat refine St (And.intro hlt <| And.intro hm1 <| And.intro hm2 <| hb) ct104 ?_
    have hdl : (List.drop (4 * t) (List.take (4 * t + 4) b)).length = 4 := by simp; omega
    generalize hR : List.drop (4 * t) (List.take (4 * t + 4) b) = R at hdl
    have ht64 : t < 64 := by omega
    have harl : ∀ z, (arS (sch b t ++ [z]) 64).length = 64 := fun z => arS_len (by simp [hsl]; omega)
    have harg : ∀ z, (arS (sch b t ++ [z]) 64).getD t default = .int .u32 (z.toNat : Int) := fun z => by
      rw [arS_get (by simp [hsl])]
      simp [List.getD_eq_getElem?_getD, hsl]
    have hars : ∀ z y : UInt32, (arS (sch b t ++ [z]) 64).set t (.int .u32 (y.toNat : Int)) = arS (sch b t ++ [y]) 64 := fun z y => by
      have := arS_set (l := sch b t) (n := 64) (x := y) (y := z) (by omega)
      rwa [hsl] at this
    have hsn : sch b t ++ [word b t] = sch b (t + 1) := by simp only [sch, next]; rw [if_pos (by omega)]
    have hk2 : IntKind.i64.wrap ((t : Int) + 1) = ((t + 1 : Nat) : Int) := by rw [wrap_i64 (by omega) (by omega)]; omega
    refine AWP.loop (G := { j : Nat // j ≤ 4 }) (fun j => ⟨[(0, .t (.by b)), (2, .ptr 0 0 []), (3, .ptr 1 0 []), (4, .t (.int .i64 (t : Int))), (12, .t (.int .i64 (t : Int))), (21, .t (.by R)), (22, .t (.int .i64 4)), (23, .t (.int .i64 (j.1 : Int)))], [.bx (.t (.ar 64 1 (zar 64 (.int .u32 0)))), .bx (.t (.ar 64 1 (arS (sch b t ++ [wacc b t j.1]) 64)))]⟩) (fun j => 4 - j.1) ⟨0, by omega⟩ (Wt (And.intro (arS_zero (show (sch b t).length < 64 by omega)) <| And.intro (And.intro @wacc.eq_1 <| @wacc.eq_2) <| hdl) [0, 2, 3, 4, 12, 21, 22, 23] [0, 1]) ?_
    intro ⟨j, hj⟩
    dsimp only
    by_cases hlt4 : (j : Int) < 4
    · have hRg : R.getD j 0 = b.getD (4 * t + j) 0 := by
        rw [← hR]; simp only [List.getD_eq_getElem?_getD, List.getElem?_drop, List.getElem?_take]
        rw [if_pos (by omega)]
      have hj4 : j < 4 := by omega
      have hk1 : IntKind.i64.wrap ((j : Int) + 1) = ((j + 1 : Nat) : Int) := by rw [wrap_i64 (by omega) (by omega)]; omega
      repeat refine St (And.intro hlt4 <| And.intro hRg <| And.intro hj4 <| And.intro hdl <| And.intro harl <| And.intro harg <| And.intro hars <| And.intro ht64 <| And.intro @sl8 <| And.intro @u32_of_u8 <| And.intro @u32_or <| And.intro hk1 <| @u8.eq_def) ct104 ?_
      exact ⟨⟨j + 1, by omega⟩, (Wt (And.intro @wacc.eq_1 <| @wacc.eq_2) [0, 2, 3, 4, 12, 21, 22, 23] [0, 1]), by simp only; omega⟩
    · obtain rfl : j = 4 := by omega
      repeat refine St (And.intro hlt4 <| hk2) ct104 ?_
      exact ⟨⟨t + 1, by omega⟩, (Wt (And.intro @wacc4 <| hsn) [0, 2, 3, 12] [0, 1]), by simp only; omega⟩

end Go.Fw

end

section
/- Chapter 7: a block taken. -/
namespace Go.Fw
open Go Go.Proofs
set_option linter.unusedVariables false
set_option linter.unusedSimpArgs false

theorem u32T_inj {a b : UInt32} (h : u32T a = u32T b) : a = b := by
  simp only [u32T, T.int.injEq, true_and] at h
  exact UInt32.toNat_inj.1 (by omega)
noncomputable def asS8 (xs : List T) : Option S8 := inv (fun s : S8 => s.l.map u32T) xs
theorem asS8_map (s : S8) : asS8 (s.l.map u32T) = some s := inv_of (f := fun s : S8 => s.l.map u32T) (fun a b h => by
  simp only [S8.l, List.map_cons, List.map_nil, List.cons.injEq, and_true] at h
  obtain ⟨h1, h2, h3, h4, h5, h6, h7, h8⟩ := h
  cases a; cases b
  simp only [S8.mk.injEq]
  exact ⟨u32T_inj h1, u32T_inj h2, u32T_inj h3, u32T_inj h4, u32T_inj h5, u32T_inj h6, u32T_inj h7, u32T_inj h8⟩) s
theorem asS8_inv {xs : List T} {s : S8} (h : asS8 xs = some s) : xs = s.l.map u32T := inv_inv (f := fun s : S8 => s.l.map u32T) h

/-- A variable of eight numbers, or a hash that begins with them. -/
noncomputable def G102 : GFun
  | [.bx (.t (.ar 8 1 xs))], [.ptr 0 0 [], .t (.by b)] => match asS8 xs with
    | some s => if b.length = 64 then some ([.bx (.t (.ar 8 1 ((blkS s b).l.map u32T)))], .tup []) else none
    | none => none
  | [.bx (.t (.st [.ar 8 1 xs, .by r, .int .u64 n]))], [.ptr 0 0 [0], .t (.by b)] => match asS8 xs with
    | some s => if b.length = 64 then some ([.bx (.t (.st [.ar 8 1 ((blkS s b).l.map u32T), .by r, .int .u64 n]))], .tup []) else none
    | none => none
  | _, _ => none

theorem ct102 : CT [(104, ⟨[false], treeG F104⟩), (105, ⟨[], treeG F105⟩), (106, ⟨[false, false], treeG F106⟩)] [0, 1, 4, 5, 6, 7, 8, 9, 10, 11, 12, 19, 20, 101, 102] [(6, (List.cons (⟨1, [6], [], []⟩ : Info) <| List.cons (⟨1, [24], [0], []⟩ : Info) <| List.cons (⟨0, [8], [], []⟩ : Info) <| List.cons (⟨1, [26], [], []⟩ : Info) <| List.cons (⟨0, [8], [], []⟩ : Info) <| List.cons (⟨1, [28], [3], []⟩ : Info) <| List.cons (⟨0, [27, 29], [3, 5], []⟩ : Info) <| List.cons (⟨0, [8], [], []⟩ : Info) <| List.cons (⟨1, [31], [3, 5], []⟩ : Info) <| List.cons (⟨0, [30, 32], [3, 5, 8], []⟩ : Info) <| List.cons (⟨0, [25, 33], [0, 1, 3, 5, 8], []⟩ : Info) <| List.cons (⟨0, [8], [], []⟩ : Info) <| List.cons (⟨1, [6], [], []⟩ : Info) <| List.cons (⟨1, [36], [12], []⟩ : Info) <| List.cons (⟨0, [35, 37], [12, 13], []⟩ : Info) <| List.cons (⟨0, [8], [], []⟩ : Info) <| List.cons (⟨0, [39], [], []⟩ : Info) <| List.cons (⟨1, [6], [], []⟩ : Info) <| List.cons (⟨1, [41], [17], []⟩ : Info) <| List.cons (⟨0, [40, 42], [17, 18], []⟩ : Info) <| List.cons (⟨0, [38, 43], [12, 13, 17, 18], []⟩ : Info) <| List.cons (⟨0, [34, 44], [0, 1, 3, 5, 8, 12, 13, 17, 18], []⟩ : Info) <| List.cons (⟨0, [7], [], []⟩ : Info) <| List.cons (⟨1, [5, 46], [], []⟩ : Info) <| List.cons (⟨1, [47], [23], []⟩ : Info) <| List.cons (⟨0, [45, 48], [0, 1, 3, 5, 8, 12, 13, 17, 18, 23, 24], []⟩ : Info) <| List.cons (⟨0, [7], [], []⟩ : Info) <| List.cons (⟨1, [4, 50], [], []⟩ : Info) <| List.cons (⟨1, [51], [27], []⟩ : Info) <| List.cons (⟨0, [49, 52], [0, 1, 3, 5, 8, 12, 13, 17, 18, 23, 24, 27, 28], []⟩ : Info) <| List.cons (⟨0, [53], [0, 1, 3, 5, 8, 12, 13, 17, 18, 23, 24, 27, 28], []⟩ : Info) <| [])), (8, [⟨0, [10], [], []⟩, ⟨1, [56], [], []⟩, ⟨0, [10], [], []⟩, ⟨1, [58], [1], []⟩, ⟨0, [57, 59], [1, 3], []⟩, ⟨0, [10], [], []⟩, ⟨1, [61], [1, 3], []⟩, ⟨0, [60, 62], [1, 3, 6], []⟩, ⟨0, [10], [], []⟩, ⟨1, [6], [], []⟩, ⟨1, [65], [9], []⟩, ⟨0, [64, 66], [9, 10], []⟩, ⟨0, [10], [], []⟩, ⟨1, [6], [], []⟩, ⟨1, [69], [13], []⟩, ⟨0, [68, 70], [13, 14], []⟩, ⟨0, [67, 71], [9, 10, 13, 14], []⟩, ⟨1, [6], [], []⟩, ⟨1, [73], [17], []⟩, ⟨1, [6], [], []⟩, ⟨1, [75], [19], []⟩, ⟨0, [74, 76], [17, 18, 19, 20], []⟩, ⟨0, [72, 77], [9, 10, 13, 14, 17, 18, 19, 20], []⟩, ⟨0, [63, 78], [1, 3, 6, 9, 10, 13, 14, 17, 18, 19, 20], []⟩, ⟨0, [79], [1, 3, 6, 9, 10, 13, 14, 17, 18, 19, 20], []⟩]), (14, [⟨0, [0], [], []⟩, ⟨0, [12], [], []⟩, ⟨0, [104], [], []⟩, ⟨1, [105, 106], [], []⟩, ⟨1, [107], [3], []⟩, ⟨0, [12], [], []⟩, ⟨1, [6, 109], [], []⟩, ⟨1, [110], [6], []⟩, ⟨0, [108, 111], [3, 4, 6, 7], []⟩, ⟨0, [104], [], []⟩, ⟨1, [105, 113], [3, 4, 6, 7], []⟩, ⟨2, [112, 114], [3, 4, 6, 7, 10], []⟩])] := ⟨(.cons c104.g (.cons c105.g (.cons c106.g (.nil _))))⟩

def a8 (v : S8) : List T := [.int .u32 (v.a.toNat : Int), .int .u32 (v.b.toNat : Int), .int .u32 (v.c.toNat : Int), .int .u32 (v.d.toNat : Int), .int .u32 (v.e.toNat : Int), .int .u32 (v.f.toNat : Int), .int .u32 (v.g.toNat : Int), .int .u32 (v.h.toNat : Int)]
theorem a8_eq (v : S8) : v.l.map u32T = a8 v := rfl

theorem kS_len : kS.length = 64 := rfl

/-- The first so many numbers added. -/
def mixS (s v : S8) (i : Nat) : List T := ((s.add v).l.take i ++ s.l.drop i).map u32T
theorem mixS_len (s v : S8) : ∀ i, i ≤ 8 → (mixS s v i).length = 8
  | 0, _ => rfl | 1, _ => rfl | 2, _ => rfl | 3, _ => rfl | 4, _ => rfl | 5, _ => rfl | 6, _ => rfl | 7, _ => rfl | 8, _ => rfl
  | i + 9, h => by omega
theorem mixS_get (s v : S8) : ∀ i, i < 8 → (mixS s v i).getD i default = .int .u32 ((s.l.getD i 0).toNat : Int)
  | 0, _ => rfl | 1, _ => rfl | 2, _ => rfl | 3, _ => rfl | 4, _ => rfl | 5, _ => rfl | 6, _ => rfl | 7, _ => rfl
  | i + 8, h => by omega
theorem a8_get (v : S8) : ∀ i, i < 8 → (List.map u32T v.l).getD i default = .int .u32 ((v.l.getD i 0).toNat : Int)
  | 0, _ => rfl | 1, _ => rfl | 2, _ => rfl | 3, _ => rfl | 4, _ => rfl | 5, _ => rfl | 6, _ => rfl | 7, _ => rfl
  | i + 8, h => by omega
theorem mixS_set (s v : S8) : ∀ i, i < 8 → (mixS s v i).set i (.int .u32 ((s.l.getD i 0 + v.l.getD i 0).toNat : Int)) = mixS s v (i + 1)
  | 0, _ => rfl | 1, _ => rfl | 2, _ => rfl | 3, _ => rfl | 4, _ => rfl | 5, _ => rfl | 6, _ => rfl | 7, _ => rfl
  | i + 8, h => by omega
theorem mixS_0 (s v : S8) : mixS s v 0 = s.l.map u32T := rfl
theorem mixS_8 (s v : S8) : mixS s v 8 = (s.add v).l.map u32T := rfl

set_option maxHeartbeats 4000000 in
theorem g102 : GCon Try.prog 102 G102 := by
  refine gconc E_ok (rs := []) Try.func102 rfl Try.ntmps102 (by kernel_rfl) rfl (by decide) G102 (np := 2) ?_ ?_
  · intro HB xs h; unfold G102; split <;> first | rfl | (simp at h; done)
  intro HB xs H r hG hwf hex
  unfold G102 at hG
  split at hG <;> try (cases hG; done)
  · rename_i xs b
    split at hG
    case h_2 => cases hG
    rename_i s hs
    split at hG
    case isFalse => cases hG
    rename_i hb
    cases hG
    obtain rfl := asS8_inv hs
    have hsp : F104 [.by b] = some ([], .t (.ar 64 1 ((sch b 64).map u32T))) := if_pos hb
    repeat refine St (And.intro (And.intro @gentry.eq_1 <| @gentry.eq_2) <| And.intro hsp <| @F105.eq_def) ct102 ?_
    refine AWP.loop (G := { t : Nat // t ≤ 64 }) (fun t => ⟨[(0, .ptr 0 0 []), (4, .ptr 1 0 []), (5, .ptr 2 0 []), (6, .ptr 3 0 []), (19, .t (.int .i64 (t.1 : Int)))], [.bx (.t (.ar 8 1 (s.l.map u32T))), .bx (.t (.ar 64 1 ((sch b 64).map u32T))), .bx (.t (.ar 64 1 (kS.map u32T))), .bx (.t (.ar 8 1 ((rnds b s t.1).l.map u32T)))]⟩) (fun t => 64 - t.1) ⟨0, by omega⟩ ((Wt (And.intro @rnds.eq_1 <| @rnds.eq_2) [0, 4, 5, 6, 19] [0, 1, 2, 3])) ?_
    intro ⟨t, ht⟩
    dsimp only
    by_cases hlt : (t : Int) < 64
    case neg =>
      obtain rfl : t = 64 := by omega
      repeat refine St hlt ct102 ?_
      refine AWP.loop (G := { i : Nat // i ≤ 8 }) (fun i => ⟨[(0, .ptr 0 0 []), (6, .ptr 1 0 []), (101, .t (.int .i64 (i.1 : Int)))], [.bx (.t (.ar 8 1 (mixS s (rnds b s 64) i.1))), .bx (.t (.ar 8 1 ((rnds b s 64).l.map u32T)))]⟩) (fun i => 8 - i.1) ⟨0, by omega⟩ ((Wt @mixS_0 [0, 6, 101] [0, 3])) ?_
      intro ⟨i, hi⟩
      dsimp only
      generalize hv : rnds b s 64 = v
      by_cases hl8 : (i : Int) < 8
      case neg =>
        obtain rfl : i = 8 := by omega
        have hfin : blkS s b = s.add v := by rw [← hv]; rfl
        repeat refine St hl8 ct102 ?_
        exact Fin (And.intro @mixS_8 <| hfin) [] [0]
      have hi8 : i < 8 := by omega
      have hml := mixS_len s v i (by omega)
      have hvl : (List.map u32T v.l).length = 8 := rfl
      have g1 := mixS_get s v i hi8
      have g2 := a8_get v i hi8
      have g3 := mixS_set s v i hi8
      have hk1 : IntKind.i64.wrap ((i : Int) + 1) = ((i + 1 : Nat) : Int) := by rw [wrap_i64 (by omega) (by omega)]; omega
      repeat refine St (And.intro hl8 <| And.intro hi8 <| And.intro hml <| And.intro hvl <| And.intro g1 <| And.intro g2 <| And.intro g3 <| And.intro @u32_add <| And.intro hk1 <| @T.size.eq_def) ct102 ?_
      exact ⟨⟨i + 1, by omega⟩, (Wt trivial [0, 6, 101] [0, 1]), by simp only; omega⟩
    have ht64 : t < 64 := by omega
    have hk1 : IntKind.i64.wrap ((t : Int) + 1) = ((t + 1 : Nat) : Int) := by rw [wrap_i64 (by omega) (by omega)]; omega
    have hkl : (List.map u32T kS).length = 64 := by simp [kS_len]
    have hwl : (List.map u32T (sch b 64)).length = 64 := by simp [sch_len]
    have hkg : (List.map u32T kS).getD t default = .int .u32 ((kS.getD t 0).toNat : Int) := u32T_getD (by rw [kS_len]; exact ht64)
    have hwg : (List.map u32T (sch b 64)).getD t default = .int .u32 (((sch b 64).getD t 0).toNat : Int) := u32T_getD (by rw [sch_len]; exact ht64)
    have hnx : rnds b s (t + 1) = rnd (rnds b s t) (kS.getD t 0) ((sch b 64).getD t 0) := rfl
    generalize rnds b s t = v at *
    generalize kS.getD t 0 = k at *
    generalize (sch b 64).getD t 0 = w at *
    repeat refine St (And.intro hlt <| And.intro (a8_eq v) <| And.intro @a8.eq_def <| And.intro hkl <| And.intro hwl <| And.intro hkg <| And.intro hwg <| And.intro ht64 <| And.intro hk1 <| And.intro @rotc2 <| And.intro @rotc6 <| And.intro @rotc11 <| And.intro @rotc13 <| And.intro @rotc22 <| And.intro @rotc25 <| And.intro @u32_xor <| And.intro @u32_and <| And.intro @u32_add <| And.intro @u32_not <| @T.size.eq_def) ct102 ?_
    exact ⟨⟨t + 1, by omega⟩, (Wt (And.intro hnx <| And.intro @rnd.eq_def <| And.intro @t1S.eq_def <| And.intro @t2S.eq_def <| And.intro @S8.l.eq_def <| @u32T.eq_def) [0, 4, 5, 6, 19] [0, 1, 2, 3]), by simp only; omega⟩
  · rename_i xs r n b
    split at hG
    case h_2 => cases hG
    rename_i s hs
    split at hG
    case isFalse => cases hG
    rename_i hb
    cases hG
    obtain rfl := asS8_inv hs
    have hsp : F104 [.by b] = some ([], .t (.ar 64 1 ((sch b 64).map u32T))) := if_pos hb
    repeat refine St (And.intro (And.intro @gentry.eq_1 <| @gentry.eq_2) <| And.intro hsp <| @F105.eq_def) ct102 ?_
    refine AWP.loop (G := { t : Nat // t ≤ 64 }) (fun t => ⟨[(0, .ptr 0 0 [0]), (4, .ptr 1 0 []), (5, .ptr 2 0 []), (6, .ptr 3 0 []), (19, .t (.int .i64 (t.1 : Int)))], [.bx (.t (.st [.ar 8 1 (s.l.map u32T), .by r, .int .u64 n])), .bx (.t (.ar 64 1 ((sch b 64).map u32T))), .bx (.t (.ar 64 1 (kS.map u32T))), .bx (.t (.ar 8 1 ((rnds b s t.1).l.map u32T)))]⟩) (fun t => 64 - t.1) ⟨0, by omega⟩ ((Wt (And.intro @rnds.eq_1 <| @rnds.eq_2) [0, 4, 5, 6, 19] [0, 1, 2, 3])) ?_
    intro ⟨t, ht⟩
    dsimp only
    by_cases hlt : (t : Int) < 64
    case neg =>
      obtain rfl : t = 64 := by omega
      repeat refine St hlt ct102 ?_
      refine AWP.loop (G := { i : Nat // i ≤ 8 }) (fun i => ⟨[(0, .ptr 0 0 [0]), (6, .ptr 1 0 []), (101, .t (.int .i64 (i.1 : Int)))], [.bx (.t (.st [.ar 8 1 (mixS s (rnds b s 64) i.1), .by r, .int .u64 n])), .bx (.t (.ar 8 1 ((rnds b s 64).l.map u32T)))]⟩) (fun i => 8 - i.1) ⟨0, by omega⟩ ((Wt @mixS_0 [0, 6, 101] [0, 3])) ?_
      intro ⟨i, hi⟩
      dsimp only
      generalize hv : rnds b s 64 = v
      by_cases hl8 : (i : Int) < 8
      case neg =>
        obtain rfl : i = 8 := by omega
        have hfin : blkS s b = s.add v := by rw [← hv]; rfl
        repeat refine St hl8 ct102 ?_
        exact Fin (And.intro @mixS_8 <| hfin) [] [0]
      have hi8 : i < 8 := by omega
      have hml := mixS_len s v i (by omega)
      have hvl : (List.map u32T v.l).length = 8 := rfl
      have g1 := mixS_get s v i hi8
      have g2 := a8_get v i hi8
      have g3 := mixS_set s v i hi8
      have hk1 : IntKind.i64.wrap ((i : Int) + 1) = ((i + 1 : Nat) : Int) := by rw [wrap_i64 (by omega) (by omega)]; omega
      repeat refine St (And.intro hl8 <| And.intro hi8 <| And.intro hml <| And.intro hvl <| And.intro g1 <| And.intro g2 <| And.intro g3 <| And.intro @u32_add <| And.intro hk1 <| @T.size.eq_def) ct102 ?_
      exact ⟨⟨i + 1, by omega⟩, (Wt trivial [0, 6, 101] [0, 1]), by simp only; omega⟩
    have ht64 : t < 64 := by omega
    have hk1 : IntKind.i64.wrap ((t : Int) + 1) = ((t + 1 : Nat) : Int) := by rw [wrap_i64 (by omega) (by omega)]; omega
    have hkl : (List.map u32T kS).length = 64 := by simp [kS_len]
    have hwl : (List.map u32T (sch b 64)).length = 64 := by simp [sch_len]
    have hkg : (List.map u32T kS).getD t default = .int .u32 ((kS.getD t 0).toNat : Int) := u32T_getD (by rw [kS_len]; exact ht64)
    have hwg : (List.map u32T (sch b 64)).getD t default = .int .u32 (((sch b 64).getD t 0).toNat : Int) := u32T_getD (by rw [sch_len]; exact ht64)
    have hnx : rnds b s (t + 1) = rnd (rnds b s t) (kS.getD t 0) ((sch b 64).getD t 0) := rfl
    generalize rnds b s t = v at *
    generalize kS.getD t 0 = k at *
    generalize (sch b 64).getD t 0 = w at *
    repeat refine St (And.intro hlt <| And.intro (a8_eq v) <| And.intro @a8.eq_def <| And.intro hkl <| And.intro hwl <| And.intro hkg <| And.intro hwg <| And.intro ht64 <| And.intro hk1 <| And.intro @rotc2 <| And.intro @rotc6 <| And.intro @rotc11 <| And.intro @rotc13 <| And.intro @rotc22 <| And.intro @rotc25 <| And.intro @u32_xor <| And.intro @u32_and <| And.intro @u32_add <| And.intro @u32_not <| @T.size.eq_def) ct102 ?_
    exact ⟨⟨t + 1, by omega⟩, (Wt (And.intro hnx <| And.intro @rnd.eq_def <| And.intro @t1S.eq_def <| And.intro @t2S.eq_def <| And.intro @S8.l.eq_def <| @u32T.eq_def) [0, 4, 5, 6, 19] [0, 1, 2, 3]), by simp only; omega⟩

end Go.Fw

end

section
/- Chapter 7: New, Write, Len. -/
namespace Go.Fw
open Go Go.Proofs
set_option linter.unusedVariables false
set_option linter.unusedSimpArgs false

/-- A hash that goes on. -/
abbrev hB (s : S8) (r : List UInt8) (n : Nat) : Blk := .bx (.t (.st [.ar 8 1 (s.l.map u32T), .by r, .int .u64 (n : Int)]))

def F85 : Fun
  | [] => some ([.bx (.t (.st [.ar 8 1 (hS.map u32T), .by [], .int .u64 0]))], .ptr 0 0 [])
  | _ => none

theorem ct85 : CT [(101, ⟨[], treeG F101⟩)] [0] [] := ⟨(.cons c101.g (.nil _))⟩

theorem c85 : ACon Try.prog 85 F85 := by
  refine aconc E_ok (rs := [.tmp 0 93]) Try.func85 rfl Try.ntmps85 (by kernel_rfl) rfl (by decide) F85 (np := 0) ?_ ?_
  · intro ts h; unfold F85; split <;> first | rfl | (simp at h; done)
  intro ts H r hF hwf
  unfold F85 at hF
  split at hF <;> try (cases hF; done)
  cases hF
  repeat refine St @F101.eq_def ct85 ?_
  refine AWP.weak (Wn 0 [1] 8 (.by [])) ?_
  exact AWP.ret (Fin trivial [] [0])

/-- The eight numbers behind so many blocks of some bytes. -/
def eatS (s : S8) (l : List UInt8) : Nat → S8
  | 0 => s
  | k + 1 => blkS (eatS s l k) ((l.drop (64 * k)).take 64)

theorem take_c1 (s : S8) {b : List UInt8} (h : b.length = 64) : G102 [.bx (.t (.ar 8 1 (s.l.map u32T)))] [.ptr 0 0 [], .t (.by b)] = some ([.bx (.t (.ar 8 1 ((blkS s b).l.map u32T)))], .tup []) := by
  simp only [G102, asS8_map]; rw [if_pos h]
theorem take_c2 (s : S8) (r : List UInt8) (n : Int) {b : List UInt8} (h : b.length = 64) : G102 [.bx (.t (.st [.ar 8 1 (s.l.map u32T), .by r, .int .u64 n]))] [.ptr 0 0 [0], .t (.by b)] = some ([.bx (.t (.st [.ar 8 1 ((blkS s b).l.map u32T), .by r, .int .u64 n]))], .tup []) := by
  simp only [G102, asS8_map]; rw [if_pos h]

noncomputable def G86 : GFun
  | [], [.t .nilp, .t (.by b)] => some ([], .tup [])
  | [.bx (.t (.st [.ar 8 1 xs, .by r, .int .u64 n]))], [.ptr 0 0 [], .t (.by b)] => match asS8 xs with
    | some s => if 0 ≤ n ∧ n ≤ 1000000000000 ∧ r.length ≤ 64 ∧ b.length ≤ 1000000000 then
        some ([.bx (.t (.st [.ar 8 1 ((eatS s (r ++ b) ((r ++ b).length / 64)).l.map u32T), .by ((r ++ b).drop (64 * ((r ++ b).length / 64))), .int .u64 (n + b.length)]))], .tup []) else none
    | none => none
  | _, _ => none

theorem ct86 : CT [(102, ⟨[true, false], G102⟩)] [0, 1, 5, 41] [(2, [⟨0, [0], [], []⟩, ⟨0, [0], [], []⟩, ⟨0, [17], [], []⟩, ⟨0, [18], [], []⟩, ⟨1, [19], [], []⟩, ⟨0, [0], [], []⟩, ⟨0, [21], [], []⟩, ⟨0, [22], [], []⟩, ⟨1, [23], [], []⟩, ⟨1, [24], [8], []⟩, ⟨0, [0], [], []⟩, ⟨0, [26], [], []⟩, ⟨0, [27], [], []⟩, ⟨1, [28], [], []⟩, ⟨1, [29], [13], []⟩, ⟨1, [20, 25, 30], [4, 8, 9, 13, 14], []⟩, ⟨0, [1], [], []⟩, ⟨2, [31, 32], [4, 8, 9, 13, 14, 15], []⟩, ⟨0, [16], [4, 8, 9, 13, 14, 15, 17], []⟩, ⟨0, [34], [4, 8, 9, 13, 14, 15, 17], []⟩, ⟨2, [33, 35], [4, 8, 9, 13, 14, 15, 17], []⟩]), (4, [⟨0, [0], [], []⟩, ⟨0, [42], [], []⟩, ⟨0, [43], [], []⟩, ⟨0, [0], [], []⟩, ⟨0, [45], [], []⟩, ⟨0, [46], [], []⟩, ⟨1, [47], [], []⟩, ⟨1, [48], [6], []⟩, ⟨2, [44, 49], [6, 7], []⟩])] := ⟨(.cons g102 (.nil _))⟩


set_option maxHeartbeats 1000000 in
theorem g86 : GCon Try.prog 86 G86 := by
  refine gconc E_ok (rs := []) Try.func86 rfl Try.ntmps86 (by kernel_rfl) rfl (by decide) G86 (np := 2) ?_ ?_
  · intro HB xs h; unfold G86; split <;> first | rfl | (simp at h; done)
  intro HB xs H r hG hwf hex
  unfold G86 at hG
  split at hG <;> try (cases hG; done)
  · cases hG
    repeat refine St (And.intro @gentry.eq_1 <| @gentry.eq_2) ct86 ?_
    exact AWP.ret (Fin trivial [] [])
  · rename_i xs r n b
    split at hG
    case h_2 => cases hG
    rename_i s hs
    split at hG
    case isFalse => cases hG
    rename_i hc
    obtain ⟨hn0, hn1, hr, hb⟩ := hc
    cases hG
    obtain rfl := asS8_inv hs
    have hw1 : IntKind.u64.wrap (b.length : Int) = (b.length : Int) := wrap_u64 (by omega) (by omega)
    have hw2 : IntKind.u64.wrap (n + (b.length : Int)) = n + (b.length : Int) := wrap_u64 (by omega) (by omega)
    have hr1 : r.length ≤ r.length := Nat.le_refl _
    repeat refine St (And.intro (And.intro @gentry.eq_1 <| @gentry.eq_2) <| And.intro hw1 <| And.intro hw2 <| And.intro hr <| hb) ct86 ?_
    obtain ⟨N, hN⟩ : ∃ N, n + (b.length : Int) = N := ⟨_, rfl⟩
    rw [hN]
    have hrl : (r ++ b).length ≤ 2000000000 := by simp; omega
    obtain ⟨l, hl⟩ : ∃ l, r ++ b = l := ⟨_, rfl⟩
    rw [hl] at hrl ⊢
    refine AWP.loop (G := { k : Nat // 64 * k ≤ l.length }) (fun k => ⟨[(0, .ptr 0 0 [])], [.bx (.t (.st [.ar 8 1 ((eatS s l k.1).l.map u32T), .by (l.drop (64 * k.1)), .int .u64 N]))]⟩) (fun k => l.length - 64 * k.1) ⟨0, by omega⟩ ((Wt (And.intro (And.intro @eatS.eq_1 <| @eatS.eq_2) <| @Nat.mul_zero) [0] [0])) ?_
    intro ⟨k, hk⟩
    dsimp only
    have hdl : (l.drop (64 * k)).length = l.length - 64 * k := by simp
    have hnx : eatS s l (k + 1) = blkS (eatS s l k) ((l.drop (64 * k)).take 64) := rfl
    obtain ⟨v, hv⟩ : ∃ v, eatS s l k = v := ⟨_, rfl⟩
    rw [hv] at hnx ⊢
    have hdd : (l.drop (64 * k)).drop 64 = l.drop (64 * (k + 1)) := by rw [List.drop_drop]; congr 1
    obtain ⟨d, hd⟩ : ∃ d, l.drop (64 * k) = d := ⟨_, rfl⟩
    rw [hd] at hdd hdl hnx ⊢
    by_cases h64 : 64 ≤ (d.length : Int)
    · have h64' : 64 ≤ d.length := by omega
      have htl : (d.take 64).length = 64 := by simp; omega
      have htk := take_c2 v d N htl
      repeat refine St (And.intro h64 <| And.intro h64' <| And.intro hdd <| htk) ct86 ?_
      exact ⟨⟨k + 1, by omega⟩, (Wt hnx [0] [0]), by simp only; omega⟩
    · obtain rfl : k = l.length / 64 := by omega
      repeat refine St h64 ct86 ?_
      exact Fin (And.intro hv <| hd) [] [0]

end Go.Fw

end

section
/- Chapter 7: the hash's end. -/
namespace Go.Fw
open Go Go.Proofs
set_option linter.unusedVariables false
set_option linter.unusedSimpArgs false

/-- How many noughts are put behind so many bytes and one. -/
def padK (m : Nat) : Nat := (119 - m % 64) % 64
def beB (N j : Nat) : UInt8 := UInt8.ofNat (N / 2 ^ (56 - 8 * j))
def be8 (N j : Nat) : List UInt8 := (List.range j).map (beB N)
theorem be8_snoc (N j : Nat) : be8 N j ++ [beB N j] = be8 N (j + 1) := by simp [be8, List.range_succ]
theorem be8_len (N j : Nat) : (be8 N j).length = j := by simp [be8]
def padS (r : List UInt8) (n : Nat) : List UInt8 := r ++ (128 :: repl (padK r.length) 0) ++ be8 (n * 8) 8
theorem padS_len (r : List UInt8) (n : Nat) : (padS r n).length % 64 = 0 := by
  simp only [padS, List.length_append, List.length_cons, repl_len, be8_len, padK]; omega

def outB (s : S8) (p : Nat) : UInt8 := ((s.l.getD (p / 4) 0) >>> UInt32.ofNat (24 - 8 * (p % 4))).toUInt8
def outM (s : S8) (p : Nat) : List UInt8 := (List.range 32).map fun j => if j < p then outB s j else 0
def outS (s : S8) : List UInt8 := (List.range 32).map (outB s)
theorem outM_0 (s : S8) : outM s 0 = zby 32 := rfl
theorem outM_32 (s : S8) : outM s 32 = outS s := by
  simp only [outM, outS]
  apply List.map_congr_left
  intro j hj
  rw [if_pos (by simpa using hj)]
theorem outM_len (s : S8) (p : Nat) : (outM s p).length = 32 := by simp [outM]
theorem outM_set (s : S8) {p : Nat} (h : p < 32) : (outM s p).set p (outB s p) = outM s (p + 1) := by
  apply List.ext_getElem
  · simp [outM]
  · intro j h1 h2
    simp only [List.length_set, outM_len] at h1
    rw [List.getElem_set]
    simp only [outM, List.getElem_map, List.getElem_range]
    by_cases e : p = j
    · subst e; simp
    · simp only [e, if_false]
      by_cases h3 : j < p
      · rw [if_pos h3, if_pos (by omega)]
      · rw [if_neg h3, if_neg (by omega)]

/-- The hash of what was taken, and of what is left. -/
def finS (s : S8) (r : List UInt8) (n : Nat) : List UInt8 := outS (eatS s (padS r n) ((padS r n).length / 64))

noncomputable def G87r : GFun
  | [.bx (.t (.st [.ar 8 1 xs, .by r, .int .u64 n]))], [.ptr 0 0 []] => match asS8 xs with
    | some s => if 0 ≤ n ∧ n ≤ 1000000000000 ∧ r.length ≤ 64 then some ([.bx (.t (.st [.ar 8 1 xs, .by r, .int .u64 n]))], .t (.ba 32 (finS s r n.toNat))) else none
    | none => none
  | _, _ => none

theorem ct87 : CT [(85, ⟨[], treeG F85⟩), (102, ⟨[true, false], G102⟩)] [0, 2, 3, 4, 5, 6, 7, 8, 9, 10, 12, 27, 37, 53, 59, 60, 61, 64, 65] [] := ⟨(.cons c85.g (.cons g102 (.nil _)))⟩

theorem beB_eq (n j : Nat) (h : n ≤ 1000000000000) (hj : j < 8) : UInt8.ofNat (IntKind.u8.wrap (Int.fdiv ((n * 8 : Nat) : Int) (2 ^ (min (56 - 8 * j) IntKind.u64.bits)))).toNat = beB (n * 8) j := by
  have e : min (56 - 8 * j) IntKind.u64.bits = 56 - 8 * j := by rw [bits_u64]; omega
  rw [e, Int.fdiv_eq_ediv_of_nonneg _ (by exact_mod_cast Nat.zero_le _)]
  have e2 : (2 : Int) ^ (56 - 8 * j) = ((2 ^ (56 - 8 * j) : Nat) : Int) := by rw [Int.natCast_pow]; rfl
  rw [e2, ← Int.natCast_ediv, wrapu8]
  unfold beB
  generalize n * 8 / 2 ^ (56 - 8 * j) = m
  have : ((m : Int) % 256).toNat = m % 256 := by omega
  rw [this]
  apply UInt8.toNat_inj.1
  simp

set_option maxHeartbeats 2000000 in
theorem g87r : GCon Try.prog 87 G87r := by
  refine gconc E_ok (rs := [.cell 2 43]) Try.func87 rfl Try.ntmps87 (by kernel_rfl) rfl (by decide) G87r (np := 1) ?_ ?_
  · intro HB xs h; unfold G87r; split <;> first | rfl | (simp at h; done)
  intro HB xs H r hG hwf hex
  unfold G87r at hG
  split at hG <;> try (cases hG; done)
  rename_i xs r n
  split at hG
  case h_2 => cases hG
  rename_i s hs
  split at hG
  case isFalse => cases hG
  rename_i hc
  obtain ⟨hn0, hn1, hr⟩ := hc
  cases hG
  obtain rfl := asS8_inv hs
  obtain ⟨N, rfl⟩ : ∃ N : Nat, n = (N : Int) := ⟨n.toNat, by omega⟩
  simp only [Int.toNat_natCast]
  have e128 : ∀ l : List UInt8, (l ++ [128]).length = l.length + 1 := fun l => by simp
  repeat refine St (And.intro (And.intro @gentry.eq_1 <| @gentry.eq_2) <| And.intro hr <| e128) ct87 ?_
  have hp64 : (r ++ UInt8.ofNat 128 :: repl (padK r.length) 0).length % 64 = 56 := by simp only [List.length_append, List.length_cons, repl_len, padK]; omega
  refine AWP.loop (G := { k : Nat // k ≤ padK r.length }) (fun k => ⟨[(0, .ptr 0 0 []), (2, .ptr 1 0 []), (3, .own 2)], [hB s r N, .bx (.t (.ba 32 (zby 32))), .by (r ++ (UInt8.ofNat 128 :: repl k.1 0))]⟩) (fun k => padK r.length - k.1) ⟨0, by omega⟩ ((Wt @repl_0 [0, 2, 3] [0, 1, 5])) ?_
  intro ⟨k, hk⟩
  dsimp only
  obtain ⟨L, hL⟩ : ∃ L, r ++ (UInt8.ofNat 128 :: repl k (0 : UInt8)) = L := ⟨_, rfl⟩
  have hLl : L.length = r.length + 1 + k := by rw [← hL]; simp only [List.length_append, List.length_cons, repl_len]; omega
  have hnx : L ++ [UInt8.ofNat 0] = r ++ (UInt8.ofNat 128 :: repl (k + 1) 0) := by rw [← hL, ← repl_snoc]; simp
  rw [hL]
  have hrem : IntKind.i64.wrap (Int.tmod (L.length : Int) 64) = ((L.length % 64 : Nat) : Int) := by
    have : Int.tmod (L.length : Int) 64 = ((L.length % 64 : Nat) : Int) := by rw [Int.tmod_eq_emod_of_nonneg (by omega)]; omega
    rw [this, wrap_i64 (by omega) (by omega)]
  have hkK : padK r.length = (119 - r.length % 64) % 64 := rfl
  have hLs : L.length ≤ 200 := by omega
  by_cases hd : L.length % 64 = 56
  · have hkk : k = padK r.length := by omega
    have hd' : (((L.length % 64 : Nat) : Int) != 56) = false := by simp; omega
    rw [← hkk] at hp64
    have hpad : padS r N = L ++ be8 (N * 8) 8 := by rw [← hL, hkk]; rfl
    have hmul : IntKind.u64.wrap ((N : Int) * 8) = ((N * 8 : Nat) : Int) := by rw [wrap_u64 (by omega) (by omega)]; omega
    repeat refine St (And.intro hrem <| And.intro hd' <| hmul) ct87 ?_
    have hLs' : L.length ≤ 200 := by omega
    refine AWP.loop (G := { x : Nat × Int // x.1 ≤ 8 ∧ x.2 = 56 - 8 * (x.1 : Int) }) (fun x => ⟨[(0, .ptr 0 0 []), (2, .ptr 1 0 []), (3, .own 2), (4, .t (.int .u64 ((N * 8 : Nat) : Int))), (5, .t (.int .i64 x.1.2))], [hB s r N, .bx (.t (.ba 32 (zby 32))), .by (L ++ be8 (N * 8) x.1.1)]⟩) (fun x => 8 - x.1.1) ⟨(0, 56), by omega, rfl⟩ ((Wt (show be8 (N * 8) 0 = [] from rfl) [0, 2, 3, 4, 5] [0, 1, 2])) ?_
    intro ⟨⟨j, q⟩, hj, hq⟩
    dsimp only at hj hq ⊢
    have hbl := be8_len (N * 8) j
    by_cases hq0 : 0 ≤ q
    · have hj8 : j < 8 := by omega
      have hqn : q = ((56 - 8 * j : Nat) : Int) := by omega
      have hbyte := beB_eq N j (by omega) hj8
      have hqt : q.toNat = 56 - 8 * j := by omega
      have hq0' : ¬ q < 0 := by omega
      have hk8 : IntKind.i64.wrap (q - 8) = q - 8 := wrap_i64 (by omega) (by omega)
      have hal : (L ++ be8 (N * 8) j).length ≤ 300 := by simp [hbl]; omega
      have hsn : (L ++ be8 (N * 8) j) ++ [beB (N * 8) j] = L ++ be8 (N * 8) (j + 1) := by rw [List.append_assoc, be8_snoc]
      obtain ⟨M, hM⟩ : ∃ M, L ++ be8 (N * 8) j = M := ⟨_, rfl⟩
      rw [hM] at hal hsn ⊢
      repeat refine St (And.intro hq0 <| And.intro hq0' <| And.intro hqt <| And.intro hbyte <| And.intro hk8 <| hal) ct87 ?_
      exact ⟨⟨(j + 1, q - 8), by omega, by simp only; omega⟩, (Wt hsn [0, 2, 3, 4, 5] [0, 1, 4]), by simp only; omega⟩
    · obtain rfl : j = 8 := by omega
      rw [← hpad]
      have hpl := padS_len r N
      have hfin : finS s r N = outS (eatS s (padS r N) ((padS r N).length / 64)) := rfl
      have hps : (padS r N).length ≤ 300 := by rw [hpad]; simp [hbl]; omega
      obtain ⟨P, hP⟩ : ∃ P, padS r N = P := ⟨_, rfl⟩
      rw [hP] at hpl hfin hps ⊢
      repeat refine St (And.intro hq0 <| @T.size.eq_def) ct87 ?_
      refine AWP.weak (Weak.freeze 2) ?_
      refine AWP.weak (Weak.thawS (y := .by P) 3 rfl) ?_
      refine AWP.loop (G := { k : Nat // 64 * k ≤ P.length }) (fun k => ⟨[(2, .ptr 1 0 []), (3, .t (.by (P.drop (64 * k.1)))), (6, .ptr 2 0 [])], [hB s r N, .bx (.t (.ba 32 (zby 32))), .bx (.t (.ar 8 1 ((eatS s P k.1).l.map u32T)))]⟩) (fun k => P.length - 64 * k.1) ⟨0, by omega⟩ ((Wt (And.intro @freezeOne.eq_def <| And.intro (And.intro @eatS.eq_1 <| @eatS.eq_2) <| @Nat.mul_zero) [2, 3, 6] [0, 1, 3])) ?_
      intro ⟨k, hk⟩
      dsimp only
      have hdl : (P.drop (64 * k)).length = P.length - 64 * k := by simp
      have hnx : eatS s P (k + 1) = blkS (eatS s P k) ((P.drop (64 * k)).take 64) := rfl
      have hdd : (P.drop (64 * k)).drop 64 = P.drop (64 * (k + 1)) := by rw [List.drop_drop]; congr 1
      obtain ⟨v, hv⟩ : ∃ v, eatS s P k = v := ⟨_, rfl⟩
      obtain ⟨d, hd⟩ : ∃ d, P.drop (64 * k) = d := ⟨_, rfl⟩
      rw [hv, hd] at hnx
      rw [hd] at hdl hdd
      rw [hv, hd]
      by_cases h64 : 0 < (d.length : Int)
      · have h64' : 64 ≤ d.length := by omega
        have h64i : 64 ≤ (d.length : Int) := by omega
        have htl : (d.take 64).length = 64 := by simp; omega
        have htk := take_c1 v htl
        repeat refine St (And.intro h64 <| And.intro h64' <| And.intro h64i <| And.intro hdd <| htk) ct87 ?_
        exact ⟨⟨k + 1, by omega⟩, (Wt hnx [2, 3, 6] [0, 1, 2]), by simp only; omega⟩
      · have hkk : k = P.length / 64 := by omega
        rw [← hkk, hv] at hfin
        repeat refine St h64 ct87 ?_
        refine AWP.loop (G := { i : Nat // i ≤ 8 }) (fun i => ⟨[(2, .ptr 1 0 []), (7, .ptr 2 0 []), (59, .t (.ar 8 1 (v.l.map u32T))), (60, .t (.int .i64 (i.1 : Int)))], [hB s r N, .bx (.t (.ba 32 (zby 32))), .bx (.t (.ba 32 (outM v (4 * i.1))))]⟩) (fun i => 8 - i.1) ⟨0, by omega⟩ ((Wt (And.intro @Nat.mul_zero <| @outM_0) [2, 7, 59, 60] [0, 1, 3])) ?_
        intro ⟨i, hi⟩
        dsimp only
        by_cases hi8 : (i : Int) < 8
        case neg =>
          obtain rfl : i = 8 := by omega
          have ho := outM_32 v
          have hol := outM_len v 32
          repeat refine St (And.intro hi8 <| And.intro @T.size.eq_def <| And.intro (show 4 * 8 = 32 from rfl) <| ho) ct87 ?_
          exact AWP.ret (Fin hfin [] [0])
        have hi8' : i < 8 := by omega
        have hvl : (List.map u32T v.l).length = 8 := rfl
        have hvg := a8_get v i hi8'
        have hki : IntKind.i64.wrap ((i : Int) + 1) = ((i + 1 : Nat) : Int) := by rw [wrap_i64 (by omega) (by omega)]; omega
        repeat refine St (And.intro hi8 <| And.intro hi8' <| And.intro hvl <| hvg) ct87 ?_
        refine AWP.loop (G := { j : Nat // j ≤ 4 }) (fun j => ⟨[(2, .ptr 1 0 []), (7, .ptr 2 0 []), (8, .t (.int .i64 (i : Int))), (9, .t (.int .u32 ((v.l.getD i 0).toNat : Int))), (59, .t (.ar 8 1 (v.l.map u32T))), (60, .t (.int .i64 (i : Int))), (64, .t (.int .i64 (j.1 : Int)))], [hB s r N, .bx (.t (.ba 32 (zby 32))), .bx (.t (.ba 32 (outM v (4 * i + j.1))))]⟩) (fun j => 4 - j.1) ⟨0, by omega⟩ ((Wt trivial [2, 7, 8, 9, 59, 60, 64] [0, 1, 2])) ?_
        intro ⟨j, hj⟩
        dsimp only
        by_cases hj4 : (j : Int) < 4
        · have hj4' : j < 4 := by omega
          have hm4 : IntKind.i64.wrap (4 * (i : Int)) = ((4 * i : Nat) : Int) := by rw [wrap_i64 (by omega) (by omega)]; omega
          have hm4j : IntKind.i64.wrap (((4 * i : Nat) : Int) + (j : Int)) = ((4 * i + j : Nat) : Int) := by rw [wrap_i64 (by omega) (by omega)]; omega
          have hm8 : IntKind.i64.wrap (8 * (j : Int)) = ((8 * j : Nat) : Int) := by rw [wrap_i64 (by omega) (by omega)]; omega
          have hm24 : IntKind.i64.wrap (24 - ((8 * j : Nat) : Int)) = ((24 - 8 * j : Nat) : Int) := by rw [wrap_i64 (by omega) (by omega)]; omega
          have hnn : ¬ ((24 - 8 * j : Nat) : Int) < 0 := by omega
          have hsh := u32_shr (v.l.getD i 0) (24 - 8 * j) (by omega)
          have hob : ((v.l.getD i 0) >>> UInt32.ofNat (24 - 8 * j)).toUInt8 = outB v (4 * i + j) := by
            unfold outB
            rw [show (4 * i + j) / 4 = i by omega, show (4 * i + j) % 4 = j by omega]
          have hp32 : 4 * i + j < 32 := by omega
          have hp32i : ((4 * i + j : Nat) : Int) < 32 := by omega
          have hset := outM_set v hp32
          have hol := outM_len v (4 * i + j)
          have hkj : IntKind.i64.wrap ((j : Int) + 1) = ((j + 1 : Nat) : Int) := by rw [wrap_i64 (by omega) (by omega)]; omega
          have hof : ∀ c : UInt8, UInt8.ofNat c.toNat = c := fun c => by simp
          obtain ⟨p, hp⟩ : ∃ p, 4 * i + j = p := ⟨_, rfl⟩
          have hpn : p + 1 = 4 * i + (j + 1) := by omega
          rw [hp] at hm4j hob hp32 hp32i hset hol ⊢
          repeat refine St (And.intro hj4 <| And.intro hj4' <| And.intro hm4 <| And.intro hm4j <| And.intro hm8 <| And.intro hm24 <| And.intro hnn <| And.intro hsh <| And.intro @u8_of_u32 <| And.intro hob <| And.intro hp32 <| And.intro hp32i <| And.intro hof <| And.intro hset <| And.intro hol <| And.intro hkj <| @T.size.eq_def) ct87 ?_
          exact ⟨⟨j + 1, by omega⟩, (Wt hpn [2, 7, 8, 9, 59, 60, 64] [0, 1, 2]), by simp only; omega⟩
        · obtain rfl : j = 4 := by omega
          have hpn : 4 * i + 4 = 4 * (i + 1) := by omega
          repeat refine St (And.intro hj4 <| hki) ct87 ?_
          exact ⟨⟨i + 1, by omega⟩, (Wt hpn [2, 7, 59, 60] [0, 1, 2]), by simp only; omega⟩
  · have hd' : (((L.length % 64 : Nat) : Int) != 56) = true := by simp; omega
    repeat refine St (And.intro hrem <| And.intro hd' <| hLs) ct87 ?_
    exact ⟨⟨k + 1, by omega⟩, (Wt hnx [0, 2, 3] [0, 1, 4]), by simp only; omega⟩

end Go.Fw

end

section
/- Chapter 7: the hash of a whole message. -/
namespace Go.Fw
open Go Go.Proofs
set_option linter.unusedVariables false
set_option linter.unusedSimpArgs false

theorem eatS_app (s : S8) (l m : List UInt8) : ∀ k, 64 * k ≤ l.length → eatS s (l ++ m) k = eatS s l k
  | 0, _ => rfl
  | k + 1, h => by
    simp only [eatS]
    rw [eatS_app s l m k (by omega), List.drop_append_of_le_length (by omega), List.take_append_of_le_length (by simp; omega)]
theorem eatS_add (s : S8) (l : List UInt8) (k : Nat) : ∀ j, eatS (eatS s l k) (l.drop (64 * k)) j = eatS s l (k + j)
  | 0 => rfl
  | j + 1 => by
    rw [show k + (j + 1) = (k + j) + 1 by omega]
    simp only [eatS]
    rw [eatS_add s l k j, List.drop_drop]
    congr 3; omega

/-- A hash behind some bytes. -/
def restS (l : List UInt8) : List UInt8 := l.drop (64 * (l.length / 64))
def eatenS (l : List UInt8) : S8 := eatS h0S l (l.length / 64)
abbrev msgB (l : List UInt8) : Blk := hB (eatenS l) (restS l) l.length
def shaL (l : List UInt8) : List UInt8 := finS h0S l l.length

theorem restS_len (l : List UInt8) : (restS l).length ≤ 64 := by simp [restS]; omega
theorem rest_app (l b : List UInt8) : restS l ++ b = (l ++ b).drop (64 * (l.length / 64)) := by
  unfold restS; rw [List.drop_append_of_le_length (by omega)]

theorem write_c (l b : List UInt8) (h : l.length ≤ 1000000000000) (hb : b.length ≤ 1000000000) :
    G86 [.bx (.t (.st [.ar 8 1 ((eatenS l).l.map u32T), .by (restS l), .int .u64 (l.length : Int)]))] [.ptr 0 0 [], .t (.by b)] = some ([msgB (l ++ b)], .tup []) := by
  simp only [G86, asS8_map]
  rw [if_pos ⟨by omega, by omega, restS_len l, hb⟩]
  have hq : (l ++ b).length / 64 = l.length / 64 + (restS l ++ b).length / 64 := by simp [restS]; omega
  have h1 : eatS (eatenS l) (restS l ++ b) ((restS l ++ b).length / 64) = eatenS (l ++ b) := by
    unfold eatenS
    rw [hq, ← eatS_add, rest_app l b, eatS_app h0S l b _ (by omega)]
  have h2 : (restS l ++ b).drop (64 * ((restS l ++ b).length / 64)) = restS (l ++ b) := by
    show _ = (l ++ b).drop (64 * ((l ++ b).length / 64))
    rw [hq, rest_app l b, List.drop_drop]; congr 1; omega
  rw [h1, h2]
  simp only [msgB, hB, List.length_append, Int.natCast_add]

theorem fin_c (l : List UInt8) : finS (eatenS l) (restS l) l.length = shaL l := by
  have hk : padK (restS l).length = padK l.length := by simp [restS, padK]; omega
  have hp : padS (restS l) l.length = (padS l l.length).drop (64 * (l.length / 64)) := by
    simp only [padS, hk]
    rw [List.append_assoc, rest_app, List.append_assoc]
  have hl : (padS l l.length).length / 64 = l.length / 64 + (padS (restS l) l.length).length / 64 := by
    rw [hp]
    have : l.length ≤ (padS l l.length).length := by simp only [padS, List.length_append]; omega
    simp only [List.length_drop]; omega
  have he : eatenS l = eatS h0S (padS l l.length) (l.length / 64) := by
    simp only [eatenS, padS]
    rw [List.append_assoc, eatS_app h0S l _ _ (by omega)]
  simp only [shaL, finS]
  rw [hl, ← eatS_add, ← he, ← hp]

noncomputable def G87 : GFun
  | [], [.t .nilp] => some ([], .t (.ba 32 (shaL [])))
  | [.bx (.t (.st [.ar 8 1 xs, .by r, .int .u64 n]))], [.ptr 0 0 []] => G87r [.bx (.t (.st [.ar 8 1 xs, .by r, .int .u64 n]))] [.ptr 0 0 []]
  | _, _ => none

theorem sum_c (l : List UInt8) (h : l.length ≤ 1000000000000) :
    G87r [.bx (.t (.st [.ar 8 1 ((eatenS l).l.map u32T), .by (restS l), .int .u64 (l.length : Int)]))] [.ptr 0 0 []] = some ([msgB l], .t (.ba 32 (shaL l))) := by
  simp only [G87r, asS8_map]
  rw [if_pos ⟨by omega, by omega, restS_len l⟩, Int.toNat_natCast, fin_c]
theorem sum_0 : G87r [.bx (.t (.st [.ar 8 1 (hS.map u32T), .by [], .int .u64 0]))] [.ptr 0 0 []] = some ([.bx (.t (.st [.ar 8 1 (hS.map u32T), .by [], .int .u64 0]))], .t (.ba 32 (shaL []))) := sum_c [] (by simp)

theorem ct87b : CT [(85, ⟨[], treeG F85⟩), (87, ⟨[true], G87r⟩), (102, ⟨[true, false], G102⟩)] [0, 2, 3, 4, 5, 6, 7, 8, 9, 10, 12, 27, 37, 53, 59, 60, 61, 64, 65] [] := ⟨(.cons c85.g (.cons g87r (.cons g102 (.nil _))))⟩

noncomputable def G87n : GFun
  | [], [.t .nilp] => some ([], .t (.ba 32 (shaL [])))
  | _, _ => none

theorem g87n : GCon Try.prog 87 G87n := by
  refine gconc E_ok (rs := [.cell 2 43]) Try.func87 rfl Try.ntmps87 (by kernel_rfl) rfl (by decide) G87n (np := 1) ?_ ?_
  · intro HB xs h; unfold G87n; split <;> first | rfl | (simp at h; done)
  intro HB xs H r hG hwf hex
  unfold G87n at hG
  split at hG <;> try (cases hG; done)
  
  cases hG
  repeat refine St (And.intro @F85.eq_def <| And.intro (And.intro @gentry.eq_1 <| @gentry.eq_2) <| @sum_0) ct87b ?_
  exact AWP.ret (Fin trivial [] [])


theorem g87 : GCon Try.prog 87 G87 := by
  refine ⟨g87r.1, fun HB xs H' r hG => ?_⟩
  unfold G87 at hG
  split at hG
  · exact g87n.2 [] [.t .nilp] H' r hG
  · exact g87r.2 _ _ H' r hG
  · cases hG

end Go.Fw

end

section
/- Chapter 7: Sum, Double, Tagged. -/
namespace Go.Fw
open Go Go.Proofs
set_option linter.unusedVariables false
set_option linter.unusedSimpArgs false

theorem shaL_len (l : List UInt8) : (shaL l).length = 32 := by simp [shaL, finS, outS]

noncomputable def F67 : Fun
  | [.by b] => if b.length ≤ 1000000000 then some ([], .t (.ba 32 (shaL b))) else none
  | _ => none

theorem ct67 : CT [(85, ⟨[], treeG F85⟩), (86, ⟨[true, false], G86⟩), (87, ⟨[true], G87⟩)] [0, 2, 3] [] := ⟨(.cons c85.g (.cons g86 (.cons g87 (.nil _))))⟩

theorem msg_0 : msgB [] = .bx (.t (.st [.ar 8 1 (hS.map u32T), .by [], .int .u64 0])) := rfl

theorem c67 : ACon Try.prog 67 F67 := by
  refine aconc E_ok (rs := [.cell 2 43]) Try.func67 rfl Try.ntmps67 (by kernel_rfl) rfl (by decide) F67 (np := 1) ?_ ?_
  · intro ts h; unfold F67; split <;> first | rfl | (simp at h; done)
  intro ts H r hF hwf
  unfold F67 at hF
  split at hF <;> try (cases hF; done)
  rename_i b
  split at hF
  case isFalse => cases hF
  rename_i hb
  cases hF
  have hw : G86 [.bx (.t (.st [.ar 8 1 (hS.map u32T), .by [], .int .u64 0]))] [.ptr 0 0 [], .t (.by b)] = some ([msgB b], .tup []) := write_c [] b (by simp) hb
  have hs : G87 [msgB b] [.ptr 0 0 []] = some ([msgB b], .t (.ba 32 (shaL b))) := sum_c b (by omega)
  repeat refine St (And.intro @F85.eq_def <| hw) ct67 ?_
  repeat refine St hs ct67 ?_
  exact AWP.ret (Fin trivial [] [])

theorem shasum_c {b : List UInt8} (h : b.length ≤ 1000000000) : F67 [.by b] = some ([], .t (.ba 32 (shaL b))) := if_pos h

noncomputable def F44 : Fun
  | [.by b] => if b.length ≤ 1000000000 then some ([], .t (.ba 32 (shaL (shaL b)))) else none
  | _ => none

theorem ct44 : CT [(67, ⟨[false], treeG F67⟩)] [0, 2, 3] [] := ⟨(.cons c67.g (.nil _))⟩

theorem c44 : ACon Try.prog 44 F44 := by
  refine aconc E_ok (rs := [.cell 2 43]) Try.func44 rfl Try.ntmps44 (by kernel_rfl) rfl (by decide) F44 (np := 1) ?_ ?_
  · intro ts h; unfold F44; split <;> first | rfl | (simp at h; done)
  intro ts H r hF hwf
  unfold F44 at hF
  split at hF <;> try (cases hF; done)
  rename_i b
  split at hF
  case isFalse => cases hF
  rename_i hb
  cases hF
  have h1 := shasum_c hb
  have hl := shaL_len b
  have h2 : F67 [.by (shaL b)] = some ([], .t (.ba 32 (shaL (shaL b)))) := shasum_c (by omega)
  generalize shaL (shaL b) = y at *
  obtain ⟨x, hx⟩ : ∃ x, shaL b = x := ⟨_, rfl⟩
  rw [hx] at h1 hl h2
  have ht : x.take 32 = x := List.take_of_length_le (by omega)
  repeat refine St (And.intro h1 <| And.intro hl <| And.intro h2 <| ht) ct44 ?_
  exact AWP.ret (Fin trivial [] [])

/-- The hash of bytes behind a tag. -/
def tagL (tag b : List UInt8) : List UInt8 := shaL (shaL tag ++ shaL tag ++ b)

theorem write_c' {l b : List UInt8} (h : l.length ≤ 1000000000000) (hb : b.length ≤ 1000000000) :
    G86 [msgB l] [.ptr 0 0 [], .t (.by b)] = some ([msgB (l ++ b)], .tup []) := write_c l b h hb

end Go.Fw

end

section
/- tx: the forms. -/
namespace Go.Fw
open Go Go.Proofs
set_option linter.unusedVariables false
set_option linter.unusedSimpArgs false

theorem take32 (h : H32) : h.1.take 32 = h.1 := List.take_of_length_le (by rw [h.2]; omega)
theorem put32_t (b : List UInt8) (n : UInt32) (h : b.length ≤ 549755812000) : F68 [.by b, .int .u32 (n.toNat : Int)] = some ([.by (b ++ le 4 (n.toNat : Int))], .own 0) := put32_c _ h
theorem put64_t (b : List UInt8) (n : UInt64) (h : b.length ≤ 549755812000) : F70 [.by b, .int .u64 (n.toNat : Int)] = some ([.by (b ++ le 8 (n.toNat : Int))], .own 0) := put64_c _ h
theorem putsize_t (b : List UInt8) (n : Int) (h : b.length ≤ 549755812000) : F69 [.by b, .int .u64 n] = some ([.by (b ++ sizeB n)], .own 0) := if_pos h
theorem putbytes_t (b x : List UInt8) (h : b.length + x.length ≤ 549755800000) : F71 [.by b, .by x] = some ([.by (b ++ sizeB x.length ++ x)], .own 0) := if_pos h

noncomputable def F45 : Fun
  | [y] => match inv txT y with
    | some t => @ite _ (countsB t = true) (Classical.propDecidable _) (some ([.by (bareB t)], .own 0)) none
    | none => none
  | _ => none

theorem ct45 : CT [(68, ⟨[false, false], treeG F68⟩), (69, ⟨[false, false], treeG F69⟩), (70, ⟨[false, false], treeG F70⟩), (71, ⟨[false, false], treeG F71⟩)] [0, 1, 2, 3, 5, 7, 18, 19, 20, 21, 46, 47, 48, 49] [] := ⟨(.cons c68.g (.cons c69.g (.cons c70.g (.cons c71.g (.nil _)))))⟩

theorem scr_cat (l : List TOut) (k : Nat) (h : ∀ x ∈ l, x.scr.length ≤ 1000) (hl : l.length ≤ 20) : (cat tOutB (l.take k)).length ≤ 20340 := by
  have h1 := cat_take_le tOutB l k
  have h2 := cat_len tOutB 1017 l (fun x hx => by
    have b1 := h x hx
    have b2 := sizeB_len (x.scr.length : Int)
    simp only [tOutB, List.length_append, le_len]; omega)
  omega

set_option maxHeartbeats 2000000 in
theorem c45 : ACon Try.prog 45 F45 := by
  refine aconc E_ok (rs := [.tmp 2 22]) Try.func45 rfl Try.ntmps45 (by kernel_rfl) rfl (by decide) F45 (np := 1) ?_ ?_
  · intro ts h; unfold F45; split <;> first | rfl | (simp at h; done)
  intro ts H r hF hwf
  unfold F45 at hF
  split at hF <;> try (cases hF; done)
  split at hF <;> try (cases hF; done)
  rename_i t ht
  split at hF
  case isFalse => cases hF
  rename_i hc
  have hc := hc
  cases hF
  obtain rfl := inv_inv ht
  obtain ⟨c1, c2, c3, c4⟩ := countsB_ok hc
  obtain ⟨v, is, os, k⟩ := t
  dsimp only at c1 c2 c3 c4
  have hp := put32_t [] v (by simp)
  have hs := putsize_t (le 4 (v.toNat : Int)) is.length (by simp [le_len])
  simp only [List.nil_append] at hp
  have hw : IntKind.u64.wrap (is.length : Int) = (is.length : Int) := wrap_u64 (by omega) (by omega)
  have hw2 : IntKind.u64.wrap (os.length : Int) = (os.length : Int) := wrap_u64 (by omega) (by omega)
  have hsl := sizeB_len (is.length : Int)
  have hsl2 := sizeB_len (os.length : Int)
  repeat refine St (And.intro @txT.eq_def <| And.intro hp <| And.intro hs <| hw) ct45 ?_
  refine AWP.loop (G := { i : Nat // i ≤ is.length }) (fun i => ⟨[(1, .ptr 0 0 []), (3, .own 1), (18, .t (.sq 35 (is.map inT))), (19, .t (.int .i64 (is.length : Int))), (20, .t (.int .i64 (i.1 : Int)))], [.bx (.t (txT ⟨v, is, os, k⟩)), .by (le 4 (v.toNat : Int) ++ sizeB is.length ++ cat tInB (is.take i.1))]⟩) (fun i => is.length - i.1) ⟨0, by omega⟩ (Wt (And.intro @txT.eq_def <| And.intro @cat_nil <| @List.take_zero.{0}) [1, 3, 18, 19, 20] [0, 2]) ?_
  intro ⟨i, hi⟩
  dsimp only
  have hcl := cat_in_len (is.take i)
  have hil : (is.take i).length = i := by simp; omega
  have h4 := le_len 4 (v.toNat : Int)
  by_cases hlt : (i : Int) < (is.length : Int)
  · have hlt' : i < is.length := by omega
    have hget := in_getD is i hlt'
    have hcat := cat_take tInB dIn is i hlt'
    generalize is.getD i dIn = x at *
    have hbl : (le 4 (v.toNat : Int) ++ sizeB is.length ++ cat tInB (is.take i)).length ≤ 2000 := by simp only [List.length_append]; omega
    have p1 := put32_t (le 4 (v.toNat : Int) ++ sizeB is.length ++ cat tInB (is.take i) ++ x.prev.1) x.idx (by rw [List.length_append, x.prev.2]; omega)
    have p2 := put32_t (le 4 (v.toNat : Int) ++ sizeB is.length ++ cat tInB (is.take i) ++ x.prev.1 ++ le 4 (x.idx.toNat : Int)) x.seq (by rw [List.length_append, List.length_append, x.prev.2, le_len]; omega)
    have h32 := x.prev.2
    have htk := take32 x.prev
    have hin : tInB x = x.prev.1 ++ le 4 (x.idx.toNat : Int) ++ le 4 (x.seq.toNat : Int) := rfl
    repeat refine St (And.intro hlt <| And.intro hlt' <| And.intro hget <| And.intro @inT.eq_def <| And.intro @refT.eq_def <| And.intro @txT.eq_def <| And.intro h32 <| And.intro htk <| And.intro hbl <| And.intro p1 <| p2) ct45 ?_
    exact ⟨⟨i + 1, by omega⟩, (Wt (And.intro @txT.eq_def <| And.intro hcat <| And.intro hin <| @List.append_assoc.{0}) [1, 3, 18, 19, 20] [0, 5]), by simp only; omega⟩
  obtain rfl : i = is.length := by omega
  rw [List.take_length]
  rw [List.take_length] at hcl
  obtain ⟨A, hA⟩ : ∃ A, le 4 (v.toNat : Int) ++ sizeB is.length ++ cat tInB is = A := ⟨_, rfl⟩
  have hAl : A.length ≤ 2000 := by rw [← hA]; simp only [List.length_append]; omega
  rw [hA]
  have hps := putsize_t A os.length (by omega)
  repeat refine St (And.intro hlt <| And.intro @txT.eq_def <| And.intro hps <| hw2) ct45 ?_
  refine AWP.loop (G := { i : Nat // i ≤ os.length }) (fun i => ⟨[(1, .ptr 0 0 []), (3, .own 1), (46, .t (.sq 2 (os.map outT))), (47, .t (.int .i64 (os.length : Int))), (48, .t (.int .i64 (i.1 : Int)))], [.bx (.t (txT ⟨v, is, os, k⟩)), .by (A ++ sizeB os.length ++ cat tOutB (os.take i.1))]⟩) (fun i => os.length - i.1) ⟨0, by omega⟩ (Wt (And.intro @txT.eq_def <| And.intro @cat_nil <| @List.take_zero.{0}) [1, 3, 46, 47, 48] [0, 2]) ?_
  intro ⟨i, hi⟩
  dsimp only
  have hcl2 := scr_cat os i c3 c2
  by_cases hlt : (i : Int) < (os.length : Int)
  · have hlt' : i < os.length := by omega
    have hget := out_getD os i hlt'
    have hcat := cat_take tOutB dOut os i hlt'
    have hscr : (os.getD i dOut).scr.length ≤ 1000 := c3 _ (by simp [hlt'])
    generalize os.getD i dOut = x at *
    have p1 := put64_t (A ++ sizeB os.length ++ cat tOutB (os.take i)) x.val (by simp only [List.length_append]; omega)
    have p2 := putbytes_t (A ++ sizeB os.length ++ cat tOutB (os.take i) ++ le 8 (x.val.toNat : Int)) x.scr (by simp only [List.length_append, le_len]; omega)
    have hin : tOutB x = le 8 (x.val.toNat : Int) ++ (sizeB x.scr.length ++ x.scr) := rfl
    repeat refine St (And.intro hlt <| And.intro hlt' <| And.intro hget <| And.intro @outT.eq_def <| And.intro @txT.eq_def <| And.intro p1 <| p2) ct45 ?_
    exact ⟨⟨i + 1, by omega⟩, (Wt (And.intro @txT.eq_def <| And.intro hcat <| And.intro hin <| @List.append_assoc.{0}) [1, 3, 46, 47, 48] [0, 4]), by simp only; omega⟩
  obtain rfl : i = os.length := by omega
  rw [List.take_length]
  rw [List.take_length] at hcl2
  have p1 := put32_t (A ++ sizeB os.length ++ cat tOutB os) k (by simp only [List.length_append]; omega)
  have hb : bareB ⟨v, is, os, k⟩ = A ++ sizeB os.length ++ cat tOutB os ++ le 4 (k.toNat : Int) := by unfold bareB; rw [← hA]
  repeat refine St (And.intro hlt <| And.intro @txT.eq_def <| p1) ct45 ?_
  exact AWP.ret (Fin hb [] [2])

end Go.Fw

end

section
/- tx: the whole form, whether it fits, names, weights. -/
namespace Go.Fw
open Go Go.Proofs
set_option linter.unusedVariables false
set_option linter.unusedSimpArgs false

noncomputable def F42 : Fun
  | [y] => match inv txT y with
    | some t => @ite _ (countsB t = true) (Classical.propDecidable _) (some ([.by (wholeB t)], .own 0)) none
    | none => none
  | _ => none

theorem ct42 : CT [(45, ⟨[false], treeG F45⟩), (64, ⟨[false, false], treeG F64⟩)] [0, 1, 2, 3, 5, 9, 10, 11, 12] [] := ⟨(.cons c45.g (.cons c64.g (.nil _)))⟩

theorem bare_c {t : TTx} (h : countsB t = true) : F45 [txT t] = some ([.by (bareB t)], .own 0) := by
  simp only [F45, inv_of txT_inj]; exact if_pos h

set_option maxHeartbeats 1000000 in
theorem c42 : ACon Try.prog 42 F42 := by
  refine aconc E_ok (rs := [.tmp 2 22]) Try.func42 rfl Try.ntmps42 (by kernel_rfl) rfl (by decide) F42 (np := 1) ?_ ?_
  · intro ts h; unfold F42; split <;> first | rfl | (simp at h; done)
  intro ts H r hF hwf
  unfold F42 at hF
  split at hF <;> try (cases hF; done)
  split at hF <;> try (cases hF; done)
  rename_i t ht
  split at hF
  case isFalse => cases hF
  rename_i hc
  have hc := hc
  cases hF
  obtain rfl := inv_inv ht
  have hb := bare_c hc
  obtain ⟨hbl, hwl⟩ := counts_len hc
  have hcw : ∀ i, (cat witB (t.ins.take i)).length ≤ (wholeB t).length := fun i => by
    have := cat_take_le witB t.ins i
    unfold wholeB; rw [List.length_append]; omega
  have hwh : wholeB t = bareB t ++ cat witB t.ins := rfl
  obtain ⟨c1, c2, c3, c4⟩ := countsB_ok hc
  generalize bareB t = B at *
  generalize wholeB t = W0 at *
  obtain ⟨v, is, os, k⟩ := t
  dsimp only at c1 c2 c3 c4 hcw hwh
  have hyu : txT ⟨v, is, os, k⟩ = .st [.int .u32 (v.toNat : Int), .sq 35 (is.map inT), .sq 2 (os.map outT), .int .u32 (k.toNat : Int)] := rfl
  rw [hyu] at hb
  rw [hyu]
  repeat refine St hb ct42 ?_
  refine AWP.loop (G := { i : Nat // i ≤ is.length }) (fun i => ⟨[(3, .own 0), (9, .t (.sq 35 (is.map inT))), (10, .t (.int .i64 (is.length : Int))), (11, .t (.int .i64 (i.1 : Int)))], [.by (B ++ cat witB (is.take i.1))]⟩) (fun i => is.length - i.1) ⟨0, by omega⟩ (Wt (And.intro @cat_nil <| @List.take_zero.{0}) [3, 9, 10, 11] [1]) ?_
  intro ⟨i, hi⟩
  dsimp only
  have hci := hcw i
  by_cases hlt : (i : Int) < (is.length : Int)
  · have hlt' : i < is.length := by omega
    have hget := in_getD is i hlt'
    have hcat := cat_take witB dIn is i hlt'
    have hwx := c4 (is.getD i dIn) (by simp [hlt'])
    generalize is.getD i dIn = x at *
    have hfx := flat_le 1000 x.wit hwx.2
    have hfx2 : (flat x.wit).length ≤ 30 * 1009 := Nat.le_trans hfx (Nat.mul_le_mul_right _ hwx.1)
    have p1 := putlist_c (b := B ++ cat witB (is.take i)) (l := x.wit) (by simp only [List.length_append]; omega)
    have hin : witB x = sizeB x.wit.length ++ flat x.wit := rfl
    repeat refine St (And.intro hlt <| And.intro hlt' <| And.intro hget <| And.intro @inT.eq_def <| And.intro @refT.eq_def <| p1) ct42 ?_
    exact ⟨⟨i + 1, by omega⟩, (Wt (And.intro hcat <| And.intro hin <| @List.append_assoc.{0}) [3, 9, 10, 11] [2]), by simp only; omega⟩
  obtain rfl : i = is.length := by omega
  rw [List.take_length]
  repeat refine St hlt ct42 ?_
  exact AWP.ret (Fin hwh [] [0])

theorem whole_c {t : TTx} (h : countsB t = true) : F42 [txT t] = some ([.by (wholeB t)], .own 0) := by
  simp only [F42, inv_of txT_inj]; exact if_pos h

def F65 : Fun
  | [.by b] => some ([], .t (.bool (longB b)))
  | _ => none

theorem ct65 : CT [] [0, 2] [] := ⟨GClOk.nil _⟩

theorem c65 : ACon Try.prog 65 F65 := by
  refine aconc E_ok (rs := [.tmp 2 4]) Try.func65 rfl Try.ntmps65 (by kernel_rfl) rfl (by decide) F65 (np := 1) ?_ ?_
  · intro ts h; unfold F65; split <;> first | rfl | (simp at h; done)
  intro ts H r hF hwf
  unfold F65 at hF
  split at hF <;> try (cases hF; done)
  rename_i b
  cases hF
  have h : longB b = decide (1000 < (b.length : Int)) := rfl
  repeat refine St trivial ct65 ?_
  exact AWP.ret (Fin h [] [])

theorem long_c (b : List UInt8) : F65 [.by b] = some ([], .t (.bool (longB b))) := rfl

def F84 : Fun
  | [.sq 1 xs, .fn f] => match asBys xs with
    | some l => if f = 65 then some ([], .t (.int .i64 (fstI longB l 0))) else none
    | none => none
  | _ => none

theorem ct84 : CT [(65, ⟨[false], treeG F65⟩)] [0, 1, 4, 5, 7, 8, 9, 16] [] := ⟨(.cons c65.g (.nil _))⟩

theorem c84 : ACon Try.prog 84 F84 := by
  refine aconc E_ok (rs := [.tmp 4 3]) Try.func84 rfl Try.ntmps84 (by kernel_rfl) rfl (by decide) F84 (np := 2) ?_ ?_
  · intro ts h; unfold F84; split <;> first | rfl | (simp at h; done)
  intro ts H r hF hwf
  unfold F84 at hF
  split at hF <;> try (cases hF; done)
  split at hF <;> try (cases hF; done)
  rename_i l hl
  split at hF
  case isFalse => cases hF
  rename_i hc
  have hf := hc
  cases hF
  obtain rfl := asBys_inv hl
  subst hf
  obtain ⟨R, hR⟩ : ∃ R, fstI longB l 0 = R := ⟨_, rfl⟩
  rw [hR]
  have hg : l.length ≤ maxLen := wf_rows (hwf (.sq 1 (l.map .by)) (by simp))
  unfold maxLen at hg
  repeat refine St trivial ct84 ?_
  refine AWP.loop (G := { i : Nat // i ≤ l.length ∧ fstI longB (l.drop i) i = R }) (fun i => ⟨[(0, .t (.sq 1 (l.map .by))), (1, .t (.fn 65)), (7, .t (.int .i64 (l.length : Int))), (8, .t (.int .i64 (i.1 : Int)))], []⟩) (fun i => l.length - i.1) ⟨0, by omega, by simpa using hR⟩ (Wt trivial [0, 1, 7, 8] []) ?_
  intro ⟨i, hi, hRi⟩
  dsimp only
  by_cases hlt : (i : Int) < (l.length : Int)
  · have hlt' : i < l.length := by omega
    have hget := map_getD l i hlt'
    have hl1 := long_c (l.getD i [])
    by_cases hb : longB (l.getD i []) = true
    · rw [fstI_yes longB [] l i hlt' hb] at hRi
      rw [hb] at hl1
      repeat refine St (And.intro hlt <| And.intro hlt' <| And.intro hget <| hl1) ct84 ?_
      exact AWP.ret (Fin hRi [] [])
    · have hb' : longB (l.getD i []) = false := by simpa using hb
      rw [fstI_no longB [] l i hlt' hb'] at hRi
      rw [hb'] at hl1
      repeat refine St (And.intro hlt <| And.intro hlt' <| And.intro hget <| hl1) ct84 ?_
      exact ⟨⟨i + 1, by omega, hRi⟩, (Wt trivial [0, 1, 7, 8] []), by simp only; omega⟩
  obtain rfl : i = l.length := by omega
  rw [fstI_end] at hRi
  repeat refine St hlt ct84 ?_
  exact AWP.ret (Fin hRi [] [])

def F66 : Fun
  | [.sq 1 xs, .fn f] => match asBys xs with
    | some l => if f = 65 then some ([], .t (.bool (l.any longB))) else none
    | none => none
  | _ => none

theorem ct66 : CT [(84, ⟨[false, false], treeG F84⟩)] [0, 1, 4] [] := ⟨(.cons c84.g (.nil _))⟩

theorem c66 : ACon Try.prog 66 F66 := by
  refine aconc E_ok (rs := [.tmp 4 4]) Try.func66 rfl Try.ntmps66 (by kernel_rfl) rfl (by decide) F66 (np := 2) ?_ ?_
  · intro ts h; unfold F66; split <;> first | rfl | (simp at h; done)
  intro ts H r hF hwf
  unfold F66 at hF
  split at hF <;> try (cases hF; done)
  split at hF <;> try (cases hF; done)
  rename_i l hl
  split at hF
  case isFalse => cases hF
  rename_i hc
  have hf := hc
  cases hF
  obtain rfl := asBys_inv hl
  subst hf
  have h1 : F84 [.sq 1 (l.map .by), .fn 65] = some ([], .t (.int .i64 (fstI longB l 0))) := by
    simp only [F84, asBys_map]; first | exact if_pos rfl | exact if_pos trivial
  have h2 := fstI_any longB l 0
  repeat refine St h1 ct66 ?_
  exact AWP.ret (Fin h2 [] [])

theorem contains_c (l : List (List UInt8)) : F66 [.sq 1 (l.map .by), .fn 65] = some ([], .t (.bool (l.any longB))) := by
  simp only [F66, asBys_map]; first | exact if_pos rfl | exact if_pos trivial

noncomputable def F43 : Fun
  | [y] => match inv txT y with
    | some t => some ([], .t (.bool (countsB t)))
    | none => none
  | _ => none

theorem ct43 : CT [(65, ⟨[false], treeG F65⟩), (66, ⟨[false, false], treeG F66⟩)] [0, 1, 2, 4, 6, 16, 18, 19, 20, 21, 26, 29, 30, 31, 32, 43] [] := ⟨(.cons c65.g (.cons c66.g (.nil _)))⟩

set_option maxHeartbeats 1000000 in
theorem c43 : ACon Try.prog 43 F43 := by
  refine aconc E_ok (rs := [.tmp 2 4]) Try.func43 rfl Try.ntmps43 (by kernel_rfl) rfl (by decide) F43 (np := 1) ?_ ?_
  · intro ts h; unfold F43; split <;> first | rfl | (simp at h; done)
  intro ts H r hF hwf
  unfold F43 at hF
  split at hF <;> try (cases hF; done)
  split at hF <;> try (cases hF; done)
  rename_i t ht
  cases hF
  obtain rfl := inv_inv ht
  have hcb := countsB_eq t
  obtain ⟨c, hc⟩ : ∃ c, countsB t = c := ⟨_, rfl⟩
  rw [hc] at hcb
  rw [hc]
  obtain ⟨v, is, os, k⟩ := t
  dsimp only at hcb
  have hyu : txT ⟨v, is, os, k⟩ = .st [.int .u32 (v.toNat : Int), .sq 35 (is.map inT), .sq 2 (os.map outT), .int .u32 (k.toNat : Int)] := rfl
  rw [hyu]
  by_cases h1 : 20 < (is.length : Int)
  · have e : c = false := by rw [hcb]; have : ¬ is.length ≤ 20 := by omega
                             simp [this]
    subst e
    repeat refine St h1 ct43 ?_
    exact AWP.ret (Fin trivial [] [])
  by_cases h2 : 20 < (os.length : Int)
  · have e : c = false := by rw [hcb]; have : ¬ os.length ≤ 20 := by omega
                             simp [this]
    subst e
    repeat refine St (And.intro h1 <| h2) ct43 ?_
    exact AWP.ret (Fin trivial [] [])
  have hcb' : c = (os.all scrOk && is.all witOk) := by
    rw [hcb]
    have e1 : is.length ≤ 20 := by omega
    have e2 : os.length ≤ 20 := by omega
    simp [e1, e2]
  repeat refine St (And.intro h1 <| h2) ct43 ?_
  refine AWP.loop (G := { i : Nat // i ≤ os.length ∧ (os.take i).all scrOk = true }) (fun i => ⟨[(1, .ptr 0 0 []), (18, .t (.sq 2 (os.map outT))), (19, .t (.int .i64 (os.length : Int))), (20, .t (.int .i64 (i.1 : Int)))], [.bx (.t (.st [.int .u32 (v.toNat : Int), .sq 35 (is.map inT), .sq 2 (os.map outT), .int .u32 (k.toNat : Int)]))]⟩) (fun i => os.length - i.1) ⟨0, by omega, rfl⟩ (Wt trivial [1, 18, 19, 20] [0]) ?_
  intro ⟨i, hi, ha⟩
  dsimp only
  by_cases hlt : (i : Int) < (os.length : Int)
  · have hlt' : i < os.length := by omega
    have hget := out_getD os i hlt'
    have hal := all_take scrOk dOut os i hlt'
    have hbad := all_getD scrOk dOut os i hlt'
    have hx := scrOk_long (os.getD i dOut)
    generalize os.getD i dOut = x at *
    have hl1 := long_c x.scr
    by_cases hb : longB x.scr = true
    · rw [hb] at hl1 hx
      have e : c = false := by rw [hcb', hbad hx]; rfl
      subst e
      repeat refine St (And.intro hlt <| And.intro hlt' <| And.intro hget <| And.intro @outT.eq_def <| hl1) ct43 ?_
      exact AWP.ret (Fin trivial [] [])
    · have hb' : longB x.scr = false := by simpa using hb
      rw [hb'] at hl1 hx
      rw [ha, hx] at hal
      repeat refine St (And.intro hlt <| And.intro hlt' <| And.intro hget <| And.intro @outT.eq_def <| hl1) ct43 ?_
      exact ⟨⟨i + 1, by omega, by rw [hal]; rfl⟩, (Wt trivial [1, 18, 19, 20] [0]), by simp only; omega⟩
  obtain rfl : i = os.length := by omega
  rw [List.take_length] at ha
  rw [ha, Bool.true_and] at hcb'
  repeat refine St hlt ct43 ?_
  refine AWP.loop (G := { i : Nat // i ≤ is.length ∧ (is.take i).all witOk = true }) (fun i => ⟨[(29, .t (.sq 35 (is.map inT))), (30, .t (.int .i64 (is.length : Int))), (31, .t (.int .i64 (i.1 : Int)))], []⟩) (fun i => is.length - i.1) ⟨0, by omega, rfl⟩ (Wt trivial [29, 30, 31] []) ?_
  intro ⟨i, hi, hai⟩
  dsimp only
  by_cases hlti : (i : Int) < (is.length : Int)
  · have hlt' : i < is.length := by omega
    have hget := in_getD is i hlt'
    have hal := all_take witOk dIn is i hlt'
    have hbad := all_getD witOk dIn is i hlt'
    have hx := witOk_long (is.getD i dIn)
    generalize is.getD i dIn = x at *
    have hl1 := contains_c x.wit
    by_cases h30 : 30 < (x.wit.length : Int)
    · have e : c = false := by rw [hcb', hbad (by rw [hx]; simp [h30])]
      subst e
      repeat refine St (And.intro hlti <| And.intro hlt' <| And.intro hget <| And.intro @inT.eq_def <| And.intro @refT.eq_def <| h30) ct43 ?_
      exact AWP.ret (Fin trivial [] [])
    have h30' : decide (30 < (x.wit.length : Int)) = false := decide_eq_false h30
    by_cases hb : x.wit.any longB = true
    · rw [hb] at hl1 hx
      have e : c = false := by rw [hcb', hbad (by rw [hx]; simp)]
      subst e
      repeat refine St (And.intro hlti <| And.intro hlt' <| And.intro hget <| And.intro @inT.eq_def <| And.intro @refT.eq_def <| And.intro h30 <| hl1) ct43 ?_
      exact AWP.ret (Fin trivial [] [])
    · have hb' : x.wit.any longB = false := by simpa using hb
      rw [hb'] at hl1 hx
      rw [hai, hx, h30'] at hal
      repeat refine St (And.intro hlti <| And.intro hlt' <| And.intro hget <| And.intro @inT.eq_def <| And.intro @refT.eq_def <| And.intro h30 <| hl1) ct43 ?_
      exact ⟨⟨i + 1, by omega, by rw [hal]; rfl⟩, (Wt trivial [29, 30, 31] []), by simp only; omega⟩
  obtain rfl : i = is.length := by omega
  rw [List.take_length] at hai
  rw [hai] at hcb'
  subst hcb'
  repeat refine St hlti ct43 ?_
  exact AWP.ret (Fin trivial [] [])

theorem counts_c (t : TTx) : F43 [txT t] = some ([], .t (.bool (countsB t))) := by
  simp only [F43, inv_of txT_inj]

noncomputable def F18 : Fun
  | [y] => match inv txT y with
    | some t => some ([], .t (.int .i64 (chkE t)))
    | none => none
  | _ => none

theorem ct18 : CT [(42, ⟨[false], treeG F42⟩), (43, ⟨[false], treeG F43⟩)] [0, 1, 2, 11] [] := ⟨(.cons c42.g (.cons c43.g (.nil _)))⟩

theorem chk_cases (t : TTx) : (countsB t = false ∧ chkE t = 4) ∨ (countsB t = true ∧ 12000 < (wholeB t).length ∧ chkE t = 4) ∨ (countsB t = true ∧ (wholeB t).length ≤ 12000 ∧ chkE t = 0) := by
  unfold chkE fitsB
  cases countsB t
  · exact .inl ⟨rfl, rfl⟩
  · rcases Nat.lt_or_ge 12000 (wholeB t).length with h | h
    · refine .inr (.inl ⟨rfl, h, ?_⟩)
      have : ¬ (wholeB t).length ≤ 12000 := by omega
      simp [this]
    · refine .inr (.inr ⟨rfl, h, ?_⟩)
      have : (wholeB t).length ≤ 12000 := by omega
      simp [this]

theorem txT_st (t : TTx) : txT t = .st [.int .u32 (t.ver.toNat : Int), .sq 35 (t.ins.map inT), .sq 2 (t.outs.map outT), .int .u32 (t.lock.toNat : Int)] := rfl
theorem c18 : ACon Try.prog 18 F18 := by
  refine aconc E_ok (rs := [.tmp 2 29]) Try.func18 rfl Try.ntmps18 (by kernel_rfl) rfl (by decide) F18 (np := 1) ?_ ?_
  · intro ts h; unfold F18; split <;> first | rfl | (simp at h; done)
  intro ts H r hF hwf
  unfold F18 at hF
  split at hF <;> try (cases hF; done)
  split at hF <;> try (cases hF; done)
  rename_i t ht
  cases hF
  obtain rfl := inv_inv ht
  have h1 := counts_c t
  rcases chk_cases t with ⟨e1, e2⟩ | ⟨e1, e2, e3⟩ | ⟨e1, e2, e3⟩
  · rw [e1] at h1
    rw [txT_st] at h1 ⊢
    repeat refine St h1 ct18 ?_
    exact AWP.ret (Fin e2 [] [])
  · have h2 := whole_c e1
    rw [e1] at h1
    rw [txT_st] at h1 h2 ⊢
    generalize wholeB t = w0 at *
    have h3 : 12000 < (w0.length : Int) := by omega
    repeat refine St (And.intro h1 <| And.intro h2 <| h3) ct18 ?_
    exact AWP.ret (Fin e3 [] [])
  · have h2 := whole_c e1
    rw [e1] at h1
    rw [txT_st] at h1 h2 ⊢
    generalize wholeB t = w0 at *
    have h3 : ¬ 12000 < (w0.length : Int) := by omega
    repeat refine St (And.intro h1 <| And.intro h2 <| h3) ct18 ?_
    exact AWP.ret (Fin e3 [] [])

theorem check_c (t : TTx) : F18 [txT t] = some ([], .t (.int .i64 (chkE t))) := by
  simp only [F18, inv_of txT_inj]

theorem chk_two (t : TTx) : (chkE t = 0 ∧ countsB t = true ∧ (wholeB t).length ≤ 12000) ∨ (chkE t = 4 ∧ fitsB t = false) := by
  rcases chk_cases t with ⟨e1, e2⟩ | ⟨e1, e2, e3⟩ | ⟨e1, e2, e3⟩
  · exact .inr ⟨e2, by simp [fitsB, e1]⟩
  · exact .inr ⟨e3, by have : ¬ (wholeB t).length ≤ 12000 := by omega
                       simp [fitsB, this]⟩
  · exact .inl ⟨e3, e1, e2⟩

/-- What a form is where it fits. -/
def barO (t : TTx) : List UInt8 := if fitsB t = true then bareB t else []
def whoO (t : TTx) : List UInt8 := if fitsB t = true then wholeB t else []
theorem fit_of {t : TTx} (h1 : countsB t = true) (h2 : (wholeB t).length ≤ 12000) : fitsB t = true := by simp [fitsB, h1, h2]

noncomputable def F20 : Fun
  | [y] => match inv txT y with
    | some t => some ([], .t (.by (barO t)))
    | none => none
  | _ => none

theorem ct20 : CT [(18, ⟨[false], treeG F18⟩), (45, ⟨[false], treeG F45⟩)] [0, 1, 2, 5] [] := ⟨(.cons c18.g (.cons c45.g (.nil _)))⟩

theorem c20 : ACon Try.prog 20 F20 := by
  refine aconc E_ok (rs := [.tmp 2 22]) Try.func20 rfl Try.ntmps20 (by kernel_rfl) rfl (by decide) F20 (np := 1) ?_ ?_
  · intro ts h; unfold F20; split <;> first | rfl | (simp at h; done)
  intro ts H r hF hwf
  unfold F20 at hF
  split at hF <;> try (cases hF; done)
  split at hF <;> try (cases hF; done)
  rename_i t ht
  cases hF
  obtain rfl := inv_inv ht
  have h1 := check_c t
  rcases chk_two t with ⟨e1, e2, e3⟩ | ⟨e1, e2⟩
  · have h2 := bare_c e2
    have e4 : barO t = bareB t := if_pos (fit_of e2 e3)
    rw [e1] at h1
    rw [e4]
    rw [txT_st] at h1 h2 ⊢
    generalize bareB t = w0 at *
    repeat refine St (And.intro h1 <| h2) ct20 ?_
    exact AWP.ret (Fin trivial [1] [])
  · have e4 : barO t = [] := if_neg (by simp [e2])
    rw [e1] at h1
    rw [e4]
    rw [txT_st] at h1 ⊢
    repeat refine St h1 ct20 ?_
    exact AWP.ret (Fin trivial [] [])

noncomputable def F17 : Fun
  | [y] => match inv txT y with
    | some t => some ([], .t (.by (whoO t)))
    | none => none
  | _ => none

theorem ct17 : CT [(18, ⟨[false], treeG F18⟩), (42, ⟨[false], treeG F42⟩)] [0, 1, 2, 5] [] := ⟨(.cons c18.g (.cons c42.g (.nil _)))⟩

theorem c17 : ACon Try.prog 17 F17 := by
  refine aconc E_ok (rs := [.tmp 2 22]) Try.func17 rfl Try.ntmps17 (by kernel_rfl) rfl (by decide) F17 (np := 1) ?_ ?_
  · intro ts h; unfold F17; split <;> first | rfl | (simp at h; done)
  intro ts H r hF hwf
  unfold F17 at hF
  split at hF <;> try (cases hF; done)
  split at hF <;> try (cases hF; done)
  rename_i t ht
  cases hF
  obtain rfl := inv_inv ht
  have h1 := check_c t
  rcases chk_two t with ⟨e1, e2, e3⟩ | ⟨e1, e2⟩
  · have h2 := whole_c e2
    have e4 : whoO t = wholeB t := if_pos (fit_of e2 e3)
    rw [e1] at h1
    rw [e4]
    rw [txT_st] at h1 h2 ⊢
    generalize wholeB t = w0 at *
    repeat refine St (And.intro h1 <| h2) ct17 ?_
    exact AWP.ret (Fin trivial [1] [])
  · have e4 : whoO t = [] := if_neg (by simp [e2])
    rw [e1] at h1
    rw [e4]
    rw [txT_st] at h1 ⊢
    repeat refine St h1 ct17 ?_
    exact AWP.ret (Fin trivial [] [])

theorem dbl_c {b : List UInt8} (h : b.length ≤ 1000000000) : F44 [.by b] = some ([], .t (.ba 32 (shaL (shaL b)))) := if_pos h
/-- The names of forms. -/
noncomputable def namO (t : TTx) : List UInt8 := if fitsB t = true then shaL (shaL (bareB t)) else zby 32
noncomputable def seaO (t : TTx) : List UInt8 := if fitsB t = true then shaL (shaL (wholeB t)) else zby 32
theorem namO_len (t : TTx) : (namO t).length = 32 := by unfold namO; split; exact shaL_len _; rfl
theorem seaO_len (t : TTx) : (seaO t).length = 32 := by unfold seaO; split; exact shaL_len _; rfl

noncomputable def F19 : Fun
  | [y] => match inv txT y with
    | some t => some ([], .t (.ba 32 (namO t)))
    | none => none
  | _ => none

theorem ct19 : CT [(18, ⟨[false], treeG F18⟩), (44, ⟨[false], treeG F44⟩), (45, ⟨[false], treeG F45⟩)] [0, 1, 2, 5] [] := ⟨(.cons c18.g (.cons c44.g (.cons c45.g (.nil _))))⟩

theorem c19 : ACon Try.prog 19 F19 := by
  refine aconc E_ok (rs := [.cell 2 43]) Try.func19 rfl Try.ntmps19 (by kernel_rfl) rfl (by decide) F19 (np := 1) ?_ ?_
  · intro ts h; unfold F19; split <;> first | rfl | (simp at h; done)
  intro ts H r hF hwf
  unfold F19 at hF
  split at hF <;> try (cases hF; done)
  split at hF <;> try (cases hF; done)
  rename_i t ht
  cases hF
  obtain rfl := inv_inv ht
  have h1 := check_c t
  rcases chk_two t with ⟨e1, e2, e3⟩ | ⟨e1, e2⟩
  · have h2 := bare_c e2
    have hl := counts_len e2
    have e4 : namO t = shaL (shaL (bareB t)) := if_pos (fit_of e2 e3)
    have h3 := dbl_c (b := bareB t) (by omega)
    rw [e1] at h1
    rw [e4]
    rw [txT_st] at h1 h2 ⊢
    generalize shaL (shaL (bareB t)) = x at *
    generalize bareB t = w0 at *
    repeat refine St (And.intro h1 <| And.intro h2 <| h3) ct19 ?_
    exact AWP.ret (Fin trivial [] [])
  · have e4 : namO t = zby 32 := if_neg (by simp [e2])
    rw [e1] at h1
    rw [e4]
    rw [txT_st] at h1 ⊢
    repeat refine St h1 ct19 ?_
    exact AWP.ret (Fin trivial [] [])

noncomputable def F27 : Fun
  | [y] => match inv txT y with
    | some t => some ([], .t (.ba 32 (seaO t)))
    | none => none
  | _ => none

theorem ct27 : CT [(18, ⟨[false], treeG F18⟩), (42, ⟨[false], treeG F42⟩), (44, ⟨[false], treeG F44⟩)] [0, 1, 2, 5] [] := ⟨(.cons c18.g (.cons c42.g (.cons c44.g (.nil _))))⟩

theorem c27 : ACon Try.prog 27 F27 := by
  refine aconc E_ok (rs := [.cell 2 43]) Try.func27 rfl Try.ntmps27 (by kernel_rfl) rfl (by decide) F27 (np := 1) ?_ ?_
  · intro ts h; unfold F27; split <;> first | rfl | (simp at h; done)
  intro ts H r hF hwf
  unfold F27 at hF
  split at hF <;> try (cases hF; done)
  split at hF <;> try (cases hF; done)
  rename_i t ht
  cases hF
  obtain rfl := inv_inv ht
  have h1 := check_c t
  rcases chk_two t with ⟨e1, e2, e3⟩ | ⟨e1, e2⟩
  · have h2 := whole_c e2
    have hl := counts_len e2
    have e4 : seaO t = shaL (shaL (wholeB t)) := if_pos (fit_of e2 e3)
    have h3 := dbl_c (b := wholeB t) (by omega)
    rw [e1] at h1
    rw [e4]
    rw [txT_st] at h1 h2 ⊢
    generalize shaL (shaL (wholeB t)) = x at *
    generalize wholeB t = w0 at *
    repeat refine St (And.intro h1 <| And.intro h2 <| h3) ct27 ?_
    exact AWP.ret (Fin trivial [] [])
  · have e4 : seaO t = zby 32 := if_neg (by simp [e2])
    rw [e1] at h1
    rw [e4]
    rw [txT_st] at h1 ⊢
    repeat refine St h1 ct27 ?_
    exact AWP.ret (Fin trivial [] [])

def weiO (t : TTx) : Int := if fitsB t = true then 3 * ((bareB t).length : Int) + ((wholeB t).length : Int) else 0
noncomputable def F21 : Fun
  | [y] => match inv txT y with
    | some t => some ([], .t (.int .i64 (weiO t)))
    | none => none
  | _ => none

theorem ct21 : CT [(18, ⟨[false], treeG F18⟩), (42, ⟨[false], treeG F42⟩), (45, ⟨[false], treeG F45⟩)] [0, 1, 2, 5] [(3, [⟨1, [1], [], []⟩, ⟨1, [6], [0], []⟩, ⟨1, [7], [0, 1], []⟩, ⟨0, [8], [0, 1, 2], []⟩, ⟨1, [1], [], []⟩, ⟨1, [10], [0, 1, 4], []⟩, ⟨1, [11], [0, 1, 4, 5], []⟩, ⟨0, [9, 12], [0, 1, 2, 4, 5, 6], []⟩, ⟨0, [13], [0, 1, 2, 4, 5, 6], []⟩])] := ⟨(.cons c18.g (.cons c42.g (.cons c45.g (.nil _))))⟩

theorem c21 : ACon Try.prog 21 F21 := by
  refine aconc E_ok (rs := [.tmp 2 3]) Try.func21 rfl Try.ntmps21 (by kernel_rfl) rfl (by decide) F21 (np := 1) ?_ ?_
  · intro ts h; unfold F21; split <;> first | rfl | (simp at h; done)
  intro ts H r hF hwf
  unfold F21 at hF
  split at hF <;> try (cases hF; done)
  split at hF <;> try (cases hF; done)
  rename_i t ht
  cases hF
  obtain rfl := inv_inv ht
  have h1 := check_c t
  rcases chk_two t with ⟨e1, e2, e3⟩ | ⟨e1, e2⟩
  · have h2 := whole_c e2
    have h3 := bare_c e2
    obtain ⟨hl1, hl2⟩ := counts_len e2
    have e4 : weiO t = 3 * ((bareB t).length : Int) + ((wholeB t).length : Int) := if_pos (fit_of e2 e3)
    rw [e1] at h1
    rw [e4]
    rw [txT_st] at h1 h2 h3 ⊢
    generalize wholeB t = w0 at *
    generalize bareB t = w1 at *
    have q1 : IntKind.i64.wrap (3 * (w1.length : Int)) = 3 * (w1.length : Int) := wrap_i64 (by omega) (by omega)
    have q2 : IntKind.i64.wrap (3 * (w1.length : Int) + (w0.length : Int)) = 3 * (w1.length : Int) + (w0.length : Int) := wrap_i64 (by omega) (by omega)
    repeat refine St (And.intro h1 <| And.intro h2 <| And.intro h3 <| And.intro q1 <| q2) ct21 ?_
    exact AWP.ret (Fin trivial [] [])
  · have e4 : weiO t = 0 := if_neg (by simp [e2])
    rw [e1] at h1
    rw [e4]
    rw [txT_st] at h1 ⊢
    repeat refine St h1 ct21 ?_
    exact AWP.ret (Fin trivial [] [])

end Go.Fw

end

section
/- Chapter 7's answer: turning, padding. -/
namespace Go.Fw
open Go Go.Proofs
set_option linter.unusedVariables false
set_option linter.unusedSimpArgs false

theorem wordR (a b c d : UInt32) : ((a <<< 8 ||| b) <<< 8 ||| c) <<< 8 ||| d = a <<< 24 ||| b <<< 16 ||| c <<< 8 ||| d := by
  have h1 : ∀ x : UInt32, x <<< 8 <<< 8 = x <<< 16 := fun x => by
    rw [← UInt32.shiftLeft_add (by decide) (by decide) (by decide)]; rfl
  have h2 : ∀ x : UInt32, x <<< 16 <<< 8 = x <<< 24 := fun x => by
    rw [← UInt32.shiftLeft_add (by decide) (by decide) (by decide)]; rfl
  simp only [UInt32.shiftLeft_or, h1, h2]

def F103 : Fun
  | [.int .u32 n, .int .u64 k] => if 1 ≤ k ∧ k ≤ 31 then some ([], .t (u32T (tr (UInt32.ofNat n.toNat) k.toNat))) else none
  | _ => none

theorem ct103 : CT [] [0, 1, 4] [] := ⟨GClOk.nil _⟩

theorem c103 : ACon Try.prog 103 F103 := by
  refine aconc E_ok (rs := [.tmp 4 24]) Try.func103 rfl Try.ntmps103 (by kernel_rfl) rfl (by decide) F103 (np := 2) ?_ ?_
  · intro ts h; unfold F103; split <;> first | rfl | (simp at h; done)
  intro ts H r hF hwf
  unfold F103 at hF
  split at hF <;> try (cases hF; done)
  rename_i n k
  split at hF
  case isFalse => cases hF
  rename_i hc
  obtain ⟨h1, h2⟩ := hc
  cases hF
  have hn := u32_of (by have := hwf _ (List.mem_cons_self); simpa only [T.wf] using this : inK .u32 n)
  generalize UInt32.ofNat n.toNat = x at *
  subst hn
  obtain ⟨r, rfl⟩ : ∃ r : Nat, k = (r : Int) := ⟨k.toNat, by omega⟩
  have hk : IntKind.u64.wrap (32 - (r : Int)) = ((32 - r : Nat) : Int) := by rw [wrap_u64 (by omega) (by omega)]; omega
  have h4 := u32_shl x (32 - r) (by omega)
  have h5 := u32_shr x r (by omega)
  have e0 : ¬ (r : Int) < 0 := by omega
  have e1 : ¬ ((32 - r : Nat) : Int) < 0 := by omega
  repeat refine St (And.intro hk <| And.intro e0 <| And.intro e1 <| And.intro h4 <| And.intro h5 <| @u32_or) ct103 ?_
  exact AWP.ret (Fin (And.intro @u32T.eq_def <| @tr.eq_def) [] [])

theorem turn_c (x : UInt32) (r : Nat) (h : 1 ≤ r) (h1 : r ≤ 31) : F103 [.int .u32 (x.toNat : Int), .int .u64 (r : Int)] = some ([], .t (.int .u32 ((tr x r).toNat : Int))) := by
  simp only [F103]
  rw [if_pos ⟨by omega, by omega⟩]
  simp [u32T]
theorem turn2 (x : UInt32) : F103 [.int .u32 (x.toNat : Int), .int .u64 2] = some ([], .t (.int .u32 ((tr x 2).toNat : Int))) := turn_c x 2 (by omega) (by omega)
theorem turn6 (x : UInt32) : F103 [.int .u32 (x.toNat : Int), .int .u64 6] = some ([], .t (.int .u32 ((tr x 6).toNat : Int))) := turn_c x 6 (by omega) (by omega)
theorem turn7 (x : UInt32) : F103 [.int .u32 (x.toNat : Int), .int .u64 7] = some ([], .t (.int .u32 ((tr x 7).toNat : Int))) := turn_c x 7 (by omega) (by omega)
theorem turn11 (x : UInt32) : F103 [.int .u32 (x.toNat : Int), .int .u64 11] = some ([], .t (.int .u32 ((tr x 11).toNat : Int))) := turn_c x 11 (by omega) (by omega)
theorem turn13 (x : UInt32) : F103 [.int .u32 (x.toNat : Int), .int .u64 13] = some ([], .t (.int .u32 ((tr x 13).toNat : Int))) := turn_c x 13 (by omega) (by omega)
theorem turn17 (x : UInt32) : F103 [.int .u32 (x.toNat : Int), .int .u64 17] = some ([], .t (.int .u32 ((tr x 17).toNat : Int))) := turn_c x 17 (by omega) (by omega)
theorem turn18 (x : UInt32) : F103 [.int .u32 (x.toNat : Int), .int .u64 18] = some ([], .t (.int .u32 ((tr x 18).toNat : Int))) := turn_c x 18 (by omega) (by omega)
theorem turn19 (x : UInt32) : F103 [.int .u32 (x.toNat : Int), .int .u64 19] = some ([], .t (.int .u32 ((tr x 19).toNat : Int))) := turn_c x 19 (by omega) (by omega)
theorem turn22 (x : UInt32) : F103 [.int .u32 (x.toNat : Int), .int .u64 22] = some ([], .t (.int .u32 ((tr x 22).toNat : Int))) := turn_c x 22 (by omega) (by omega)
theorem turn25 (x : UInt32) : F103 [.int .u32 (x.toNat : Int), .int .u64 25] = some ([], .t (.int .u32 ((tr x 25).toNat : Int))) := turn_c x 25 (by omega) (by omega)

def F93 : Fun
  | [.by b] => if b.length ≤ 1000000000 then some ([.by (padS b b.length)], .own 0) else none
  | _ => none

theorem ct93 : CT [] [0, 2, 3, 4, 5, 15, 24] [] := ⟨GClOk.nil _⟩

theorem c93 : ACon Try.prog 93 F93 := by
  refine aconc E_ok (rs := [.tmp 2 22]) Try.func93 rfl Try.ntmps93 (by kernel_rfl) rfl (by decide) F93 (np := 1) ?_ ?_
  · intro ts h; unfold F93; split <;> first | rfl | (simp at h; done)
  intro ts H r hF hwf
  unfold F93 at hF
  split at hF <;> try (cases hF; done)
  rename_i r
  split at hF
  case isFalse => cases hF
  rename_i hc
  have hr := hc
  cases hF
  have e128 : ∀ l : List UInt8, (l ++ [128]).length = l.length + 1 := fun l => by simp
  repeat refine St (And.intro hr <| e128) ct93 ?_
  have hp64 : (r ++ UInt8.ofNat 128 :: repl (padK r.length) 0).length % 64 = 56 := by simp only [List.length_append, List.length_cons, repl_len, padK]; omega
  refine AWP.loop (G := { k : Nat // k ≤ padK r.length }) (fun k => ⟨[(0, .t (.by r)), (3, .own 0)], [.by (r ++ (UInt8.ofNat 128 :: repl k.1 0))]⟩) (fun k => padK r.length - k.1) ⟨0, by omega⟩ (Wt @repl_0 [0, 3] [3]) ?_
  intro ⟨k, hk⟩
  dsimp only
  obtain ⟨L, hL⟩ : ∃ L, r ++ (UInt8.ofNat 128 :: repl k (0 : UInt8)) = L := ⟨_, rfl⟩
  have hLl : L.length = r.length + 1 + k := by rw [← hL]; simp only [List.length_append, List.length_cons, repl_len]; omega
  have hnx : L ++ [UInt8.ofNat 0] = r ++ (UInt8.ofNat 128 :: repl (k + 1) 0) := by rw [← hL, ← repl_snoc]; simp
  rw [hL]
  have hrem : IntKind.i64.wrap (Int.tmod (L.length : Int) 64) = ((L.length % 64 : Nat) : Int) := by
    have : Int.tmod (L.length : Int) 64 = ((L.length % 64 : Nat) : Int) := by rw [Int.tmod_eq_emod_of_nonneg (by omega)]; omega
    rw [this, wrap_i64 (by omega) (by omega)]
  have hkK : padK r.length = (119 - r.length % 64) % 64 := rfl
  by_cases hd : L.length % 64 = 56
  · have hkk : k = padK r.length := by omega
    have hd' : (((L.length % 64 : Nat) : Int) != 56) = false := by simp; omega
    rw [← hkk] at hp64
    have hpad : padS r r.length = L ++ be8 (r.length * 8) 8 := by rw [← hL, hkk]; rfl
    have hcv : IntKind.u64.wrap (r.length : Int) = (r.length : Int) := wrap_u64 (by omega) (by omega)
    have hmul : IntKind.u64.wrap ((r.length : Int) * 8) = ((r.length * 8 : Nat) : Int) := by rw [wrap_u64 (by omega) (by omega)]; omega
    repeat refine St (And.intro hrem <| And.intro hd' <| And.intro hcv <| hmul) ct93 ?_
    refine AWP.loop (G := { j : Nat // j ≤ 8 }) (fun j => ⟨[(3, .own 0), (4, .t (.int .u64 ((r.length * 8 : Nat) : Int))), (5, .t (.int .i64 (j.1 : Int)))], [.by (L ++ be8 (r.length * 8) j.1)]⟩) (fun j => 8 - j.1) ⟨0, by omega⟩ (Wt (show be8 (r.length * 8) 0 = [] from rfl) [3, 4, 5] [0]) ?_
    intro ⟨j, hj⟩
    dsimp only
    have hbl := be8_len (r.length * 8) j
    by_cases hj8 : (j : Int) < 8
    · have hbyte := beB_eq r.length j (by omega) (by omega)
      have hm1 : IntKind.i64.wrap (8 * (j : Int)) = ((8 * j : Nat) : Int) := by rw [wrap_i64 (by omega) (by omega)]; omega
      have hm2 : IntKind.i64.wrap (56 - ((8 * j : Nat) : Int)) = ((56 - 8 * j : Nat) : Int) := by rw [wrap_i64 (by omega) (by omega)]; omega
      have hm3 : IntKind.u64.wrap ((56 - 8 * j : Nat) : Int) = ((56 - 8 * j : Nat) : Int) := wrap_u64 (by omega) (by omega)
      have hnn : ¬ ((56 - 8 * j : Nat) : Int) < 0 := by omega
      have hk8 : IntKind.i64.wrap ((j : Int) + 1) = ((j + 1 : Nat) : Int) := by rw [wrap_i64 (by omega) (by omega)]; omega
      have hsn : (L ++ be8 (r.length * 8) j) ++ [beB (r.length * 8) j] = L ++ be8 (r.length * 8) (j + 1) := by rw [List.append_assoc, be8_snoc]
      have hal : (L ++ be8 (r.length * 8) j).length ≤ 1000000300 := by simp [hbl]; omega
      obtain ⟨M, hM⟩ : ∃ M, L ++ be8 (r.length * 8) j = M := ⟨_, rfl⟩
      rw [hM] at hal hsn ⊢
      repeat refine St (And.intro hj8 <| And.intro hm1 <| And.intro hm2 <| And.intro hm3 <| And.intro hnn <| And.intro hbyte <| And.intro hk8 <| hal) ct93 ?_
      exact ⟨⟨j + 1, by omega⟩, (Wt hsn [3, 4, 5] [2]), by simp only; omega⟩
    · obtain rfl : j = 8 := by omega
      rw [← hpad]
      repeat refine St hj8 ct93 ?_
      exact AWP.ret (Fin trivial [] [0])
  · have hd' : (((L.length % 64 : Nat) : Int) != 56) = true := by simp; omega
    have hLs : L.length ≤ 1000000200 := by omega
    repeat refine St (And.intro hrem <| And.intro hd' <| hLs) ct93 ?_
    exact ⟨⟨k + 1, by omega⟩, (Wt hnx [0, 3] [2]), by simp only; omega⟩

end Go.Fw

end

section
/- Chapter 7's answer: a block. -/
namespace Go.Fw
open Go Go.Proofs
set_option linter.unusedVariables false
set_option linter.unusedSimpArgs false

/-- The first so many numbers added to. -/
def mixV (s v : S8) (i : Nat) : List T := ((s.add v).l.take i ++ v.l.drop i).map u32T
theorem mixV_len (s v : S8) : ∀ i, i ≤ 8 → (mixV s v i).length = 8
  | 0, _ => rfl | 1, _ => rfl | 2, _ => rfl | 3, _ => rfl | 4, _ => rfl | 5, _ => rfl | 6, _ => rfl | 7, _ => rfl | 8, _ => rfl
  | i + 9, h => by omega
theorem mixV_get (s v : S8) : ∀ i, i < 8 → (mixV s v i).getD i default = .int .u32 ((v.l.getD i 0).toNat : Int)
  | 0, _ => rfl | 1, _ => rfl | 2, _ => rfl | 3, _ => rfl | 4, _ => rfl | 5, _ => rfl | 6, _ => rfl | 7, _ => rfl
  | i + 8, h => by omega
theorem mixV_set0 (s v : S8) : ∀ i, i < 8 → (mixV s v i).set i (.int .u32 ((s.l.getD i 0 + v.l.getD i 0).toNat : Int)) = mixV s v (i + 1)
  | 0, _ => rfl | 1, _ => rfl | 2, _ => rfl | 3, _ => rfl | 4, _ => rfl | 5, _ => rfl | 6, _ => rfl | 7, _ => rfl
  | i + 8, h => by omega
theorem mixV_set (s v : S8) (i : Nat) (h : i < 8) : (mixV s v i).set i (.int .u32 ((v.l.getD i 0 + s.l.getD i 0).toNat : Int)) = mixV s v (i + 1) := by
  rw [UInt32.add_comm]; exact mixV_set0 s v i h
theorem mixV_0 (s v : S8) : mixV s v 0 = a8 v := rfl
theorem mixV_8 (s v : S8) : mixV s v 8 = (s.add v).l.map u32T := rfl
theorem clean_u32 (l : List UInt32) : T.cleanL (l.map u32T) = true := by
  induction l with
  | nil => rfl
  | cons x l ih => simp only [List.map_cons, T.cleanL, ih]; rfl
theorem sch_snoc (b : List UInt8) (t : Nat) : (sch b (t + 1)).map u32T = (sch b t).map u32T ++ [u32T (next b (sch b t) t)] := by simp [sch]

open Classical in
noncomputable def F94 : Fun
  | [.sq 1 hs, .sq 1 ks, .by b] => match asS8 hs with
    | some s => if ks = kS.map u32T ∧ b.length = 64 then some ([.sq 1 ((blkS s b).l.map u32T)], .own 0) else none
    | none => none
  | _ => none

theorem block_c (s : S8) {b : List UInt8} (h : b.length = 64) : F94 [.sq 1 (s.l.map u32T), .sq 1 (kS.map u32T), .by b] = some ([.sq 1 ((blkS s b).l.map u32T)], .own 0) := by
  simp only [F94, asS8_map]; rw [if_pos ⟨trivial, h⟩]

theorem ct94 : CT [(103, ⟨[false, false], treeG F103⟩)] [0, 1, 2, 6, 7, 8, 9, 10, 11, 12, 13, 14, 15, 16, 17, 18, 19, 20, 23, 27, 112, 211] [(6, (List.cons (⟨0, [7], [], []⟩ : Info) <| List.cons (⟨0, [2], [], []⟩ : Info) <| List.cons (⟨0, [8], [], []⟩ : Info) <| List.cons (⟨0, [30], [], []⟩ : Info) <| List.cons (⟨1, [29, 31], [], []⟩ : Info) <| List.cons (⟨1, [32], [4], []⟩ : Info) <| List.cons (⟨1, [33], [4, 5], []⟩ : Info) <| List.cons (⟨0, [34], [4, 5, 6], []⟩ : Info) <| List.cons (⟨0, [2], [], []⟩ : Info) <| List.cons (⟨0, [8], [], []⟩ : Info) <| List.cons (⟨0, [37], [], []⟩ : Info) <| List.cons (⟨0, [38], [], []⟩ : Info) <| List.cons (⟨1, [36, 39], [], []⟩ : Info) <| List.cons (⟨1, [40], [12], []⟩ : Info) <| List.cons (⟨1, [41], [12, 13], []⟩ : Info) <| List.cons (⟨0, [42], [12, 13, 14], []⟩ : Info) <| List.cons (⟨0, [35, 43], [4, 5, 6, 12, 13, 14], []⟩ : Info) <| List.cons (⟨0, [2], [], []⟩ : Info) <| List.cons (⟨0, [8], [], []⟩ : Info) <| List.cons (⟨0, [46], [], []⟩ : Info) <| List.cons (⟨0, [47], [], []⟩ : Info) <| List.cons (⟨1, [45, 48], [], []⟩ : Info) <| List.cons (⟨1, [49], [21], []⟩ : Info) <| List.cons (⟨1, [50], [21, 22], []⟩ : Info) <| List.cons (⟨0, [51], [21, 22, 23], []⟩ : Info) <| List.cons (⟨0, [44, 52], [4, 5, 6, 12, 13, 14, 21, 22, 23], []⟩ : Info) <| List.cons (⟨0, [2], [], []⟩ : Info) <| List.cons (⟨0, [8], [], []⟩ : Info) <| List.cons (⟨0, [55], [], []⟩ : Info) <| List.cons (⟨0, [56], [], []⟩ : Info) <| List.cons (⟨1, [54, 57], [], []⟩ : Info) <| List.cons (⟨1, [58], [30], []⟩ : Info) <| List.cons (⟨1, [59], [30, 31], []⟩ : Info) <| List.cons (⟨0, [53, 60], [4, 5, 6, 12, 13, 14, 21, 22, 23, 30, 31, 32], []⟩ : Info) <| List.cons (⟨1, [61], [4, 5, 6, 12, 13, 14, 21, 22, 23, 30, 31, 32], []⟩ : Info) <| List.cons (⟨2, [28, 62], [4, 5, 6, 12, 13, 14, 21, 22, 23, 30, 31, 32, 34], []⟩ : Info) <| List.cons (⟨0, [63], [4, 5, 6, 12, 13, 14, 21, 22, 23, 30, 31, 32, 34, 35], []⟩ : Info) <| [])), (7, [⟨0, [7], [], []⟩, ⟨0, [8], [], []⟩, ⟨0, [65], [], []⟩, ⟨1, [64, 66], [], []⟩, ⟨1, [67], [3], []⟩, ⟨0, [7], [], []⟩, ⟨0, [8], [], []⟩, ⟨0, [70], [], []⟩, ⟨1, [69, 71], [], []⟩, ⟨1, [72], [8], []⟩, ⟨0, [68], [3, 4], []⟩, ⟨0, [73], [3, 4, 8, 9], []⟩]), (10, [⟨0, [7], [], []⟩, ⟨0, [12], [], []⟩, ⟨0, [7], [], []⟩, ⟨0, [8], [], []⟩, ⟨0, [93], [], []⟩, ⟨1, [92, 94], [], []⟩, ⟨1, [95], [5], []⟩, ⟨0, [91, 96], [5, 6], []⟩, ⟨0, [11], [], []⟩, ⟨0, [97, 98], [5, 6], []⟩, ⟨0, [7], [], []⟩, ⟨0, [8], [], []⟩, ⟨0, [101], [], []⟩, ⟨1, [100, 102], [], []⟩, ⟨1, [103], [13], []⟩, ⟨0, [99, 104], [5, 6, 13, 14], []⟩, ⟨1, [105], [5, 6, 13, 14], []⟩, ⟨2, [90, 106], [5, 6, 13, 14, 16], []⟩, ⟨0, [107], [5, 6, 13, 14, 16, 17], []⟩]), (15, [⟨0, [13], [], []⟩, ⟨1, [115], [], []⟩, ⟨1, [116], [1], []⟩, ⟨0, [13], [], []⟩, ⟨1, [118], [], []⟩, ⟨1, [119], [4], []⟩, ⟨0, [13], [], []⟩, ⟨1, [121], [], []⟩, ⟨1, [122], [7], []⟩, ⟨0, [117], [1, 2], []⟩, ⟨0, [120], [1, 2, 4, 5], []⟩, ⟨0, [123], [1, 2, 4, 5, 7, 8], []⟩]), (16, (List.cons (⟨0, [13], [], []⟩ : Info) <| List.cons (⟨1, [124], [], []⟩ : Info) <| List.cons (⟨1, [125], [1], []⟩ : Info) <| List.cons (⟨0, [17], [], []⟩ : Info) <| List.cons (⟨1, [127], [], []⟩ : Info) <| List.cons (⟨0, [17], [], []⟩ : Info) <| List.cons (⟨1, [129], [4], []⟩ : Info) <| List.cons (⟨0, [128, 130], [4, 6], []⟩ : Info) <| List.cons (⟨0, [17], [], []⟩ : Info) <| List.cons (⟨1, [132], [4, 6], []⟩ : Info) <| List.cons (⟨0, [131, 133], [4, 6, 9], []⟩ : Info) <| List.cons (⟨0, [126, 134], [1, 2, 4, 6, 9], []⟩ : Info) <| List.cons (⟨0, [17], [], []⟩ : Info) <| List.cons (⟨0, [13], [], []⟩ : Info) <| List.cons (⟨1, [137], [], []⟩ : Info) <| List.cons (⟨1, [138], [14], []⟩ : Info) <| List.cons (⟨0, [136, 139], [14, 15], []⟩ : Info) <| List.cons (⟨0, [17], [], []⟩ : Info) <| List.cons (⟨0, [141], [], []⟩ : Info) <| List.cons (⟨0, [13], [], []⟩ : Info) <| List.cons (⟨1, [143], [], []⟩ : Info) <| List.cons (⟨1, [144], [20], []⟩ : Info) <| List.cons (⟨0, [142, 145], [20, 21], []⟩ : Info) <| List.cons (⟨0, [140, 146], [14, 15, 20, 21], []⟩ : Info) <| List.cons (⟨0, [135, 147], [1, 2, 4, 6, 9, 14, 15, 20, 21], []⟩ : Info) <| List.cons (⟨0, [1], [], []⟩ : Info) <| List.cons (⟨0, [14], [], []⟩ : Info) <| List.cons (⟨1, [149, 150], [], []⟩ : Info) <| List.cons (⟨1, [151], [27], []⟩ : Info) <| List.cons (⟨0, [148, 152], [1, 2, 4, 6, 9, 14, 15, 20, 21, 27, 28], []⟩ : Info) <| List.cons (⟨0, [7], [], []⟩ : Info) <| List.cons (⟨0, [14], [], []⟩ : Info) <| List.cons (⟨1, [154, 155], [], []⟩ : Info) <| List.cons (⟨1, [156], [32], []⟩ : Info) <| List.cons (⟨0, [153, 157], [1, 2, 4, 6, 9, 14, 15, 20, 21, 27, 28, 32, 33], []⟩ : Info) <| List.cons (⟨0, [158], [1, 2, 4, 6, 9, 14, 15, 20, 21, 27, 28, 32, 33], []⟩ : Info) <| [])), (17, [⟨0, [15], [], []⟩, ⟨1, [159], [], []⟩, ⟨0, [15], [], []⟩, ⟨1, [161], [1], []⟩, ⟨0, [160, 162], [1, 3], []⟩, ⟨0, [15], [], []⟩, ⟨1, [164], [1, 3], []⟩, ⟨0, [163, 165], [1, 3, 6], []⟩, ⟨0, [15], [], []⟩, ⟨0, [13], [], []⟩, ⟨1, [168], [], []⟩, ⟨1, [169], [10], []⟩, ⟨0, [167, 170], [10, 11], []⟩, ⟨0, [15], [], []⟩, ⟨0, [16], [], []⟩, ⟨0, [172, 173], [], []⟩, ⟨0, [171, 174], [10, 11], []⟩, ⟨0, [13], [], []⟩, ⟨1, [176], [], []⟩, ⟨1, [177], [18], []⟩, ⟨0, [16], [], []⟩, ⟨0, [178, 179], [18, 19], []⟩, ⟨0, [175, 180], [10, 11, 18, 19], []⟩, ⟨0, [166, 181], [1, 3, 6, 10, 11, 18, 19], []⟩, ⟨0, [182], [1, 3, 6, 10, 11, 18, 19], []⟩]), (18, [⟨0, [18], [], []⟩, ⟨0, [19], [], []⟩, ⟨0, [183, 184], [], []⟩, ⟨0, [13], [], []⟩, ⟨1, [186], [], []⟩, ⟨1, [187], [4], []⟩, ⟨0, [13], [], []⟩, ⟨1, [189], [], []⟩, ⟨1, [190], [7], []⟩, ⟨0, [13], [], []⟩, ⟨1, [192], [], []⟩, ⟨1, [193], [10], []⟩, ⟨0, [13], [], []⟩, ⟨1, [195], [], []⟩, ⟨1, [196], [13], []⟩, ⟨0, [18], [], []⟩, ⟨0, [197, 198], [13, 14], []⟩, ⟨0, [13], [], []⟩, ⟨1, [200], [], []⟩, ⟨1, [201], [18], []⟩, ⟨0, [13], [], []⟩, ⟨1, [203], [], []⟩, ⟨1, [204], [21], []⟩, ⟨0, [13], [], []⟩, ⟨1, [206], [], []⟩, ⟨1, [207], [24], []⟩, ⟨1, [185, 188, 191, 194, 199, 202, 205, 208], [4, 5, 7, 8, 10, 11, 13, 14, 18, 19, 21, 22, 24, 25], []⟩, ⟨0, [209], [4, 5, 7, 8, 10, 11, 13, 14, 18, 19, 21, 22, 24, 25, 26], []⟩]), (22, [⟨0, [13], [], []⟩, ⟨0, [20], [], []⟩, ⟨0, [13], [], []⟩, ⟨0, [20], [], []⟩, ⟨1, [216, 217], [], []⟩, ⟨1, [218], [4], []⟩, ⟨0, [0], [], []⟩, ⟨0, [20], [], []⟩, ⟨1, [220, 221], [], []⟩, ⟨1, [222], [8], []⟩, ⟨0, [219, 223], [4, 5, 8, 9], []⟩, ⟨1, [214, 215], [4, 5, 8, 9], []⟩, ⟨2, [224, 225], [4, 5, 8, 9, 11], []⟩])] := ⟨(.cons c103.g (.nil _))⟩

set_option maxRecDepth 100000 in
set_option maxHeartbeats 4000000 in
theorem c94 : ACon Try.prog 94 F94 := by
  refine aconc E_ok (rs := [.tmp 6 100]) Try.func94 rfl Try.ntmps94 (by kernel_rfl) rfl (by decide) F94 (np := 3) ?_ ?_
  · intro ts h; unfold F94; split <;> first | rfl | (simp at h; done)
  intro ts H r hF hwf
  unfold F94 at hF
  split at hF <;> try (cases hF; done)
  rename_i hs ks b
  split at hF
  case h_2 => cases hF
  rename_i s hs
  split at hF
  case isFalse => cases hF
  rename_i hc
  obtain ⟨hk, hb⟩ := hc
  cases hF
  subst hk
  obtain rfl := asS8_inv hs
  repeat refine St trivial ct94 ?_
  refine AWP.loop (G := { t : Nat // t ≤ 64 }) (fun t => ⟨[(0, .t (.sq 1 (s.l.map u32T))), (1, .t (.sq 1 (kS.map u32T))), (2, .t (.by b)), (7, .own 0), (8, .t (.int .i64 (t.1 : Int)))], [.sq 1 ((sch b t.1).map u32T)]⟩) (fun t => 64 - t.1) ⟨0, by omega⟩ (Wt (And.intro @sch.eq_1 <| @sch.eq_2) [0, 1, 2, 7, 8] [0]) ?_
  intro ⟨t, ht⟩
  dsimp only
  have hsl : (List.map u32T (sch b t)).length = t := by simp [sch_len]
  by_cases hlt : (t : Int) < 64
  case pos =>
    have hk1 : IntKind.i64.wrap ((t : Int) + 1) = ((t + 1 : Nat) : Int) := by rw [wrap_i64 (by omega) (by omega)]; omega
    have hsn := sch_snoc b t
    by_cases h16 : (t : Int) < 16
    · have m4 : IntKind.i64.wrap (4 * (t : Int)) = ((4 * t : Nat) : Int) := by rw [wrap_i64 (by omega) (by omega)]; omega
      have m41 : IntKind.i64.wrap (((4 * t : Nat) : Int) + 1) = ((4 * t + 1 : Nat) : Int) := by rw [wrap_i64 (by omega) (by omega)]; omega
      have m42 : IntKind.i64.wrap (((4 * t : Nat) : Int) + 2) = ((4 * t + 2 : Nat) : Int) := by rw [wrap_i64 (by omega) (by omega)]; omega
      have m43 : IntKind.i64.wrap (((4 * t : Nat) : Int) + 3) = ((4 * t + 3 : Nat) : Int) := by rw [wrap_i64 (by omega) (by omega)]; omega
      have l0 : 4 * t < b.length := by omega
      have l1 : 4 * t + 1 < b.length := by omega
      have l2 : 4 * t + 2 < b.length := by omega
      have l3 : 4 * t + 3 < b.length := by omega
      have s24 := fun x => u32_shl x 24 (by omega)
      have s16 := fun x => u32_shl x 16 (by omega)
      have s8 := fun x => u32_shl x 8 (by omega)
      have hw : (b.getD (4 * t) 0).toUInt32 <<< UInt32.ofNat 24 ||| (b.getD (4 * t + 1) 0).toUInt32 <<< UInt32.ofNat 16 ||| (b.getD (4 * t + 2) 0).toUInt32 <<< UInt32.ofNat 8 ||| (b.getD (4 * t + 3) 0).toUInt32 = next b (sch b t) t := by
        unfold next word
        rw [if_pos (by omega), wordR]; rfl
      repeat refine St (And.intro hlt <| And.intro h16 <| And.intro m4 <| And.intro m41 <| And.intro m42 <| And.intro m43 <| And.intro l0 <| And.intro l1 <| And.intro l2 <| And.intro l3 <| And.intro @u8.eq_def <| And.intro @u32_of_u8 <| And.intro s24 <| And.intro s16 <| And.intro s8 <| And.intro @u32_or <| And.intro hsl <| hk1) ct94 ?_
      exact ⟨⟨t + 1, by omega⟩, (Wt (And.intro hsn <| And.intro hw <| @u32T.eq_def) [0, 1, 2, 7, 8] [2]), by simp only; omega⟩
    · have g15 : ((sch b t).map u32T).getD (t - 15) default = _ := u32T_getD (by rw [sch_len]; omega)
      have g2 : ((sch b t).map u32T).getD (t - 2) default = _ := u32T_getD (by rw [sch_len]; omega)
      have g7 : ((sch b t).map u32T).getD (t - 7) default = _ := u32T_getD (by rw [sch_len]; omega)
      have g16 : ((sch b t).map u32T).getD (t - 16) default = _ := u32T_getD (by rw [sch_len]; omega)
      have m15 : IntKind.i64.wrap ((t : Int) - 15) = ((t - 15 : Nat) : Int) := by rw [wrap_i64 (by omega) (by omega)]; omega
      have m2 : IntKind.i64.wrap ((t : Int) - 2) = ((t - 2 : Nat) : Int) := by rw [wrap_i64 (by omega) (by omega)]; omega
      have m7 : IntKind.i64.wrap ((t : Int) - 7) = ((t - 7 : Nat) : Int) := by rw [wrap_i64 (by omega) (by omega)]; omega
      have m16 : IntKind.i64.wrap ((t : Int) - 16) = ((t - 16 : Nat) : Int) := by rw [wrap_i64 (by omega) (by omega)]; omega
      have l15 : t - 15 < t := by omega
      have l2 : t - 2 < t := by omega
      have l7 : t - 7 < t := by omega
      have l16 : t - 16 < t := by omega
      have i15 : ((t - 15 : Nat) : Int) < (t : Int) := by omega
      have i2 : ((t - 2 : Nat) : Int) < (t : Int) := by omega
      have i7 : ((t - 7 : Nat) : Int) < (t : Int) := by omega
      have i16 : ((t - 16 : Nat) : Int) < (t : Int) := by omega
      have r3 := fun x => u32_shr x 3 (by omega)
      have r10 := fun x => u32_shr x 10 (by omega)
      have hw : sg1 ((sch b t).getD (t - 2) 0) + (sch b t).getD (t - 7) 0 + sg0 ((sch b t).getD (t - 15) 0) + (sch b t).getD (t - 16) 0 = next b (sch b t) t := by
        unfold next
        rw [if_neg (by omega)]
        ac_rfl
      have hs0 : ∀ x, tr x 7 ^^^ tr x 18 ^^^ x >>> UInt32.ofNat 3 = sg0 x := fun x => rfl
      have hs1 : ∀ x, tr x 17 ^^^ tr x 19 ^^^ x >>> UInt32.ofNat 10 = sg1 x := fun x => rfl
      repeat refine St (And.intro hlt <| And.intro h16 <| And.intro g15 <| And.intro g2 <| And.intro g7 <| And.intro g16 <| And.intro m15 <| And.intro m2 <| And.intro m7 <| And.intro m16 <| And.intro l15 <| And.intro l2 <| And.intro l7 <| And.intro l16 <| And.intro i15 <| And.intro i2 <| And.intro i7 <| And.intro i16 <| And.intro r3 <| And.intro r10 <| And.intro @turn7 <| And.intro @turn18 <| And.intro @turn17 <| And.intro @turn19 <| And.intro @u32_xor <| And.intro @u32_add <| And.intro hs0 <| And.intro hs1 <| And.intro hsl <| hk1) ct94 ?_
      exact ⟨⟨t + 1, by omega⟩, (Wt (And.intro hsn <| And.intro hw <| @u32T.eq_def) [0, 1, 2, 7, 8] [2]), by simp only; omega⟩
  obtain rfl : t = 64 := by omega
  repeat refine St (And.intro hlt <| And.intro @a8_eq <| @a8.eq_def) ct94 ?_
  refine AWP.loop (G := { t : Nat // t ≤ 64 }) (fun t => ⟨[(0, .t (.sq 1 (s.l.map u32T))), (1, .t (.sq 1 (kS.map u32T))), (7, .own 0), (13, .own 1), (14, .t (.int .i64 (t.1 : Int)))], [.sq 1 ((sch b 64).map u32T), .sq 1 (a8 (rnds b s t.1))]⟩) (fun t => 64 - t.1) ⟨0, by omega⟩ (Wt (And.intro (And.intro @rnds.eq_1 <| @rnds.eq_2) <| And.intro @a8.eq_def <| @a8_eq) [0, 1, 7, 13, 14] [0, 2]) ?_
  intro ⟨t, ht⟩
  dsimp only
  by_cases hlt : (t : Int) < 64
  case neg =>
    obtain rfl : t = 64 := by omega
    repeat refine St hlt ct94 ?_
    refine AWP.loop (G := { i : Nat // i ≤ 8 }) (fun i => ⟨[(0, .t (.sq 1 (s.l.map u32T))), (13, .own 0), (20, .t (.int .i64 (i.1 : Int)))], [.sq 1 (mixV s (rnds b s 64) i.1)]⟩) (fun i => 8 - i.1) ⟨0, by omega⟩ (Wt @mixV_0 [0, 13, 20] [1]) ?_
    intro ⟨i, hi⟩
    dsimp only
    generalize hv : rnds b s 64 = v
    by_cases hl8 : (i : Int) < 8
    case neg =>
      obtain rfl : i = 8 := by omega
      have hfin : blkS s b = s.add v := by rw [← hv]; rfl
      repeat refine St hl8 ct94 ?_
      exact AWP.ret (Fin (And.intro @mixV_8 <| hfin) [] [0])
    have hi8 : i < 8 := by omega
    have hml := mixV_len s v i (by omega)
    have hsl : (List.map u32T s.l).length = 8 := rfl
    have g1 := mixV_get s v i hi8
    have g2 := a8_get s i hi8
    have g3 := mixV_set s v i hi8
    have hk1 : IntKind.i64.wrap ((i : Int) + 1) = ((i + 1 : Nat) : Int) := by rw [wrap_i64 (by omega) (by omega)]; omega
    repeat refine St (And.intro hl8 <| And.intro hi8 <| And.intro hml <| And.intro hsl <| And.intro g1 <| And.intro g2 <| And.intro g3 <| And.intro @u32_add <| And.intro hk1 <| @T.size.eq_def) ct94 ?_
    exact ⟨⟨i + 1, by omega⟩, (Wt trivial [0, 13, 20] [0]), by simp only; omega⟩
  have ht64 : t < 64 := by omega
  have hk1 : IntKind.i64.wrap ((t : Int) + 1) = ((t + 1 : Nat) : Int) := by rw [wrap_i64 (by omega) (by omega)]; omega
  have hkl : (List.map u32T kS).length = 64 := by simp [kS_len]
  have hwl : (List.map u32T (sch b 64)).length = 64 := by simp [sch_len]
  have hkg : (List.map u32T kS).getD t default = .int .u32 ((kS.getD t 0).toNat : Int) := u32T_getD (by rw [kS_len]; exact ht64)
  have hwg : (List.map u32T (sch b 64)).getD t default = .int .u32 (((sch b 64).getD t 0).toNat : Int) := u32T_getD (by rw [sch_len]; exact ht64)
  have hnx : rnds b s (t + 1) = rnd (rnds b s t) (kS.getD t 0) ((sch b 64).getD t 0) := rfl
  generalize rnds b s t = v at *
  generalize kS.getD t 0 = k at *
  generalize (sch b 64).getD t 0 = w at *
  repeat refine St (And.intro hlt <| And.intro @a8.eq_def <| And.intro hkl <| And.intro hwl <| And.intro hkg <| And.intro hwg <| And.intro ht64 <| And.intro hk1 <| And.intro @turn2 <| And.intro @turn6 <| And.intro @turn11 <| And.intro @turn13 <| And.intro @turn22 <| And.intro @turn25 <| And.intro @u32_xor <| And.intro @u32_and <| And.intro @u32_add <| And.intro @u32_xff <| @T.size.eq_def) ct94 ?_
  exact ⟨⟨t + 1, by omega⟩, (Wt (And.intro hnx <| And.intro @rnd.eq_def <| And.intro @t1S.eq_def <| And.intro @t2S.eq_def <| @a8.eq_def) [0, 1, 7, 13, 14] [0, 2]), by simp only; omega⟩

end Go.Fw

end

section
/- Chapter 7's answer: the hash, twice, behind a tag. -/
namespace Go.Fw
open Go Go.Proofs
set_option linter.unusedVariables false
set_option linter.unusedSimpArgs false

def F92 : Fun
  | [] => some ([.sq 1 (kS.map u32T)], .own 0)
  | _ => none

theorem ct92 : CT [] [0] [] := ⟨GClOk.nil _⟩

set_option maxRecDepth 100000 in
theorem c92 : ACon Try.prog 92 F92 := by
  refine aconc E_ok (rs := [.tmp 0 100]) Try.func92 rfl Try.ntmps92 (by kernel_rfl) rfl (by decide) F92 (np := 0) ?_ ?_
  · intro ts h; unfold F92; split <;> first | rfl | (simp at h; done)
  intro ts H r hF hwf
  unfold F92 at hF
  split at hF <;> try (cases hF; done)
  cases hF
  repeat refine St trivial ct92 ?_
  exact AWP.ret (Fin @kT_eq [] [0])

noncomputable def F76 : Fun
  | [.by b] => if b.length ≤ 1000000000 then some ([], .t (.ba 32 (shaL b))) else none
  | _ => none

theorem ct76 : CT [(92, ⟨[], treeG F92⟩), (93, ⟨[false], treeG F93⟩), (94, ⟨[false, false, false], treeG F94⟩)] [0, 2, 3, 4, 5, 6, 7, 8, 16, 29] [] := ⟨(.cons c92.g (.cons c93.g (.cons c94.g (.nil _))))⟩

theorem padS_long (b : List UInt8) : (padS b b.length).length ≤ b.length + 73 := by
  simp only [padS, List.length_append, List.length_cons, repl_len, be8_len, padK]; omega

set_option maxRecDepth 100000 in
set_option maxHeartbeats 2000000 in
theorem c76 : ACon Try.prog 76 F76 := by
  refine aconc E_ok (rs := [.cell 2 43]) Try.func76 rfl Try.ntmps76 (by kernel_rfl) rfl (by decide) F76 (np := 1) ?_ ?_
  · intro ts h; unfold F76; split <;> first | rfl | (simp at h; done)
  intro ts H r hF hwf
  unfold F76 at hF
  split at hF <;> try (cases hF; done)
  rename_i b
  split at hF
  case isFalse => cases hF
  rename_i hc
  have hb := hc
  cases hF
  have hpd : F93 [.by b] = some ([.by (padS b b.length)], .own 0) := if_pos hb
  have hpl := padS_len b b.length
  have hps := padS_long b
  have hfin : shaL b = outS (eatS h0S (padS b b.length) ((padS b b.length).length / 64)) := rfl
  obtain ⟨P, hP⟩ : ∃ P, padS b b.length = P := ⟨_, rfl⟩
  rw [hP] at hpl hfin hps hpd
  repeat refine St (And.intro hpd <| @F92.eq_def) ct76 ?_
  refine AWP.loop (G := { k : Nat // 64 * k ≤ P.length }) (fun k => ⟨[(2, .ptr 0 0 []), (3, .own 1), (4, .own 2), (5, .own 3), (6, .t (.int .i64 ((64 * k.1 : Nat) : Int)))], [.bx (.t (.ba 32 (zby 32))), .sq 1 ((eatS h0S P k.1).l.map u32T), .sq 1 (kS.map u32T), .by P]⟩) (fun k => P.length - 64 * k.1) ⟨0, by omega⟩ (Wt (And.intro (And.intro @eatS.eq_1 <| @eatS.eq_2) <| And.intro @a8_eq <| And.intro @a8.eq_def <| And.intro @h0S.eq_def <| @Nat.mul_zero) [2, 3, 4, 5, 6] [0, 1, 2, 3]) ?_
  intro ⟨k, hk⟩
  dsimp only
  have hnx : eatS h0S P (k + 1) = blkS (eatS h0S P k) ((P.drop (64 * k)).take 64) := rfl
  obtain ⟨v, hv⟩ : ∃ v, eatS h0S P k = v := ⟨_, rfl⟩
  rw [hv] at hnx ⊢
  by_cases hlt : ((64 * k : Nat) : Int) < (P.length : Int)
  case pos =>
    have h64' : 64 * k + 64 ≤ P.length := by omega
    have htl : ((P.drop (64 * k)).take 64).length = 64 := by simp; omega
    have hte : 64 * k + 64 - 64 * k = 64 := by omega
    have hbl := block_c v htl
    have hk1 : IntKind.i64.wrap (((64 * k : Nat) : Int) + 64) = ((64 * k + 64 : Nat) : Int) := by rw [wrap_i64 (by omega) (by omega)]; omega
    have hk2 : 64 * k + 64 = 64 * (k + 1) := by omega
    repeat refine St (And.intro hlt <| And.intro hk1 <| And.intro hte <| And.intro hbl <| @clean_u32) ct76 ?_
    exact ⟨⟨k + 1, by omega⟩, (Wt (And.intro hnx <| hk2) [2, 3, 4, 5, 6] [0, 4, 2, 3]), by simp only; omega⟩
  have hkk : k = P.length / 64 := by omega
  rw [← hkk, hv] at hfin
  repeat refine St hlt ct76 ?_
  refine AWP.loop (G := { p : Nat // p ≤ 32 }) (fun p => ⟨[(2, .ptr 0 0 []), (3, .own 1), (7, .ptr 2 0 []), (8, .t (.int .i64 (p.1 : Int)))], [.bx (.t (.ba 32 (zby 32))), .sq 1 (v.l.map u32T), .bx (.t (.ba 32 (outM v p.1)))]⟩) (fun p => 32 - p.1) ⟨0, by omega⟩ (Wt @outM_0 [2, 3, 7, 8] [0, 1, 4]) ?_
  intro ⟨p, hp⟩
  dsimp only
  have hol := outM_len v p
  by_cases hp32i : (p : Int) < 32
  case neg =>
    obtain rfl : p = 32 := by omega
    have ho := outM_32 v
    repeat refine St (And.intro hp32i <| And.intro @T.size.eq_def <| And.intro ho <| hol) ct76 ?_
    exact AWP.ret (Fin hfin [] [])
  have hp32 : p < 32 := by omega
  have hvl : (List.map u32T v.l).length = 8 := rfl
  have hp8 : p / 4 < 8 := by omega
  have hp8i : ((p / 4 : Nat) : Int) < 8 := by omega
  have hvg := a8_get v (p / 4) hp8
  have hq : IntKind.i64.wrap (Int.tdiv (p : Int) 4) = ((p / 4 : Nat) : Int) := by
    rw [Int.tdiv_eq_ediv_of_nonneg (by omega), wrap_i64 (by omega) (by omega)]; omega
  have hr : IntKind.i64.wrap (Int.tmod (p : Int) 4) = ((p % 4 : Nat) : Int) := by
    rw [Int.tmod_eq_emod_of_nonneg (by omega), wrap_i64 (by omega) (by omega)]; omega
  have hm8 : IntKind.i64.wrap (8 * ((p % 4 : Nat) : Int)) = ((8 * (p % 4) : Nat) : Int) := by rw [wrap_i64 (by omega) (by omega)]; omega
  have hm24 : IntKind.i64.wrap (24 - ((8 * (p % 4) : Nat) : Int)) = ((24 - 8 * (p % 4) : Nat) : Int) := by rw [wrap_i64 (by omega) (by omega)]; omega
  have hmu : IntKind.u64.wrap ((24 - 8 * (p % 4) : Nat) : Int) = ((24 - 8 * (p % 4) : Nat) : Int) := wrap_u64 (by omega) (by omega)
  have hnn : ¬ ((24 - 8 * (p % 4) : Nat) : Int) < 0 := by omega
  have hsh := u32_shr (v.l.getD (p / 4) 0) (24 - 8 * (p % 4)) (by omega)
  have hob : ((v.l.getD (p / 4) 0) >>> UInt32.ofNat (24 - 8 * (p % 4))).toUInt8 = outB v p := rfl
  have hset := outM_set v hp32
  have hof : ∀ c : UInt8, UInt8.ofNat c.toNat = c := fun c => by simp
  have hkj : IntKind.i64.wrap ((p : Int) + 1) = ((p + 1 : Nat) : Int) := by rw [wrap_i64 (by omega) (by omega)]; omega
  repeat refine St (And.intro hp32i <| And.intro hp32 <| And.intro hvl <| And.intro hp8 <| And.intro hp8i <| And.intro hvg <| And.intro hq <| And.intro hr <| And.intro hm8 <| And.intro hm24 <| And.intro hmu <| And.intro hnn <| And.intro hsh <| And.intro @u8_of_u32 <| And.intro hob <| And.intro hof <| And.intro hset <| And.intro hol <| And.intro hkj <| @T.size.eq_def) ct76 ?_
  exact ⟨⟨p + 1, by omega⟩, (Wt trivial [2, 3, 7, 8] [0, 1, 2]), by simp only; omega⟩

theorem refsum_c {b : List UInt8} (h : b.length ≤ 1000000000) : F76 [.by b] = some ([], .t (.ba 32 (shaL b))) := if_pos h

noncomputable def F49 : Fun
  | [.by b] => if b.length ≤ 1000000000 then some ([], .t (.ba 32 (shaL (shaL b)))) else none
  | _ => none

theorem ct49 : CT [(76, ⟨[false], treeG F76⟩)] [0, 2, 3] [] := ⟨(.cons c76.g (.nil _))⟩

theorem c49 : ACon Try.prog 49 F49 := by
  refine aconc E_ok (rs := [.cell 2 43]) Try.func49 rfl Try.ntmps49 (by kernel_rfl) rfl (by decide) F49 (np := 1) ?_ ?_
  · intro ts h; unfold F49; split <;> first | rfl | (simp at h; done)
  intro ts H r hF hwf
  unfold F49 at hF
  split at hF <;> try (cases hF; done)
  rename_i b
  split at hF
  case isFalse => cases hF
  rename_i hc
  have hb := hc
  cases hF
  have h1 := refsum_c hb
  have hl := shaL_len b
  have h2 : F76 [.by (shaL b)] = some ([], .t (.ba 32 (shaL (shaL b)))) := refsum_c (by omega)
  generalize shaL (shaL b) = y at *
  obtain ⟨x, hx⟩ : ∃ x, shaL b = x := ⟨_, rfl⟩
  rw [hx] at h1 hl h2
  have ht : x.take 32 = x := List.take_of_length_le (by omega)
  repeat refine St (And.intro h1 <| And.intro hl <| And.intro h2 <| ht) ct49 ?_
  exact AWP.ret (Fin trivial [] [])


end Go.Fw

end

section
/- tx's answer: the forms, whether it fits, names, weights. -/
namespace Go.Fw
open Go Go.Proofs
set_option linter.unusedVariables false
set_option linter.unusedSimpArgs false

noncomputable def F46 : Fun
  | [y] => match inv txT y with
    | some t => some ([], .t (.bool (countsB t)))
    | none => none
  | _ => none

theorem ct46 : CT [] [0, 1, 2, 3, 4, 5, 15, 20, 30, 35, 45, 54, 67] [] := ⟨GClOk.nil _⟩

set_option maxHeartbeats 1000000 in
theorem c46 : ACon Try.prog 46 F46 := by
  refine aconc E_ok (rs := [.tmp 2 4]) Try.func46 rfl Try.ntmps46 (by kernel_rfl) rfl (by decide) F46 (np := 1) ?_ ?_
  · intro ts h; unfold F46; split <;> first | rfl | (simp at h; done)
  intro ts H r hF hwf
  unfold F46 at hF
  split at hF <;> try (cases hF; done)
  split at hF <;> try (cases hF; done)
  rename_i t ht
  cases hF
  obtain rfl := inv_inv ht
  have hcb := countsB_eq t
  obtain ⟨c, hc⟩ : ∃ c, countsB t = c := ⟨_, rfl⟩
  rw [hc] at hcb
  rw [hc]
  obtain ⟨v, is, os, k⟩ := t
  dsimp only at hcb
  have hyu : txT ⟨v, is, os, k⟩ = .st [.int .u32 (v.toNat : Int), .sq 35 (is.map inT), .sq 2 (os.map outT), .int .u32 (k.toNat : Int)] := rfl
  rw [hyu]
  by_cases h1 : 20 < (is.length : Int)
  · have e : c = false := by rw [hcb]; have : ¬ is.length ≤ 20 := by omega
                             simp [this]
    subst e
    repeat refine St h1 ct46 ?_
    exact AWP.ret (Fin trivial [] [])
  by_cases h2 : 20 < (os.length : Int)
  · have e : c = false := by rw [hcb]; have : ¬ os.length ≤ 20 := by omega
                             simp [this]
    subst e
    repeat refine St (And.intro h1 <| h2) ct46 ?_
    exact AWP.ret (Fin trivial [] [])
  have hcb' : c = (os.all scrOk && is.all witOk) := by
    rw [hcb]
    have e1 : is.length ≤ 20 := by omega
    have e2 : os.length ≤ 20 := by omega
    simp [e1, e2]
  repeat refine St (And.intro h1 <| h2) ct46 ?_
  refine AWP.loop (G := { i : Nat // i ≤ os.length ∧ (os.take i).all scrOk = true }) (fun i => ⟨[(1, .ptr 0 0 []), (3, .t (.int .i64 (i.1 : Int)))], [.bx (.t (.st [.int .u32 (v.toNat : Int), .sq 35 (is.map inT), .sq 2 (os.map outT), .int .u32 (k.toNat : Int)]))]⟩) (fun i => os.length - i.1) ⟨0, by omega, rfl⟩ (Wt trivial [1, 3] [0]) ?_
  intro ⟨i, hi, ha⟩
  dsimp only
  by_cases hlt : (i : Int) < (os.length : Int)
  · have hlt' : i < os.length := by omega
    have hget := out_getD os i hlt'
    have hal := all_take scrOk dOut os i hlt'
    have hbad := all_getD scrOk dOut os i hlt'
    generalize os.getD i dOut = x at *
    by_cases hb : 1000 < (x.scr.length : Int)
    · have hx : scrOk x = false := decide_eq_false (by omega)
      have e : c = false := by rw [hcb', hbad hx]; rfl
      subst e
      repeat refine St (And.intro hlt <| And.intro hlt' <| And.intro hget <| And.intro @outT.eq_def <| hb) ct46 ?_
      exact AWP.ret (Fin trivial [] [])
    · have hx : scrOk x = true := decide_eq_true (by omega)
      rw [ha, hx] at hal
      repeat refine St (And.intro hlt <| And.intro hlt' <| And.intro hget <| And.intro @outT.eq_def <| hb) ct46 ?_
      exact ⟨⟨i + 1, by omega, by rw [hal]; rfl⟩, (Wt trivial [1, 3] [0]), by simp only; omega⟩
  obtain rfl : i = os.length := by omega
  rw [List.take_length] at ha
  rw [ha, Bool.true_and] at hcb'
  repeat refine St hlt ct46 ?_
  refine AWP.loop (G := { i : Nat // i ≤ is.length ∧ (is.take i).all witOk = true }) (fun i => ⟨[(1, .ptr 0 0 []), (4, .t (.int .i64 (i.1 : Int)))], [.bx (.t (.st [.int .u32 (v.toNat : Int), .sq 35 (is.map inT), .sq 2 (os.map outT), .int .u32 (k.toNat : Int)]))]⟩) (fun i => is.length - i.1) ⟨0, by omega, rfl⟩ (Wt trivial [1, 4] [0]) ?_
  intro ⟨i, hi, hai⟩
  dsimp only
  by_cases hlti : (i : Int) < (is.length : Int)
  · have hlt' : i < is.length := by omega
    have hget := in_getD is i hlt'
    have hal := all_take witOk dIn is i hlt'
    have hbad := all_getD witOk dIn is i hlt'
    generalize is.getD i dIn = x at *
    have hxe : witOk x = (decide (x.wit.length ≤ 30) && x.wit.all fun y => decide (y.length ≤ 1000)) := rfl
    by_cases h30 : 30 < (x.wit.length : Int)
    · have e : c = false := by rw [hcb', hbad (by rw [hxe]; have : ¬ x.wit.length ≤ 30 := by omega
                                                  simp [this])]
      subst e
      repeat refine St (And.intro hlti <| And.intro hlt' <| And.intro hget <| And.intro @inT.eq_def <| And.intro @refT.eq_def <| h30) ct46 ?_
      exact AWP.ret (Fin trivial [] [])
    have h30' : decide (x.wit.length ≤ 30) = true := decide_eq_true (by omega)
    rw [h30', Bool.true_and] at hxe
    repeat refine St (And.intro hlti <| And.intro hlt' <| And.intro hget <| And.intro @inT.eq_def <| And.intro @refT.eq_def <| h30) ct46 ?_
    refine AWP.loop (G := { j : Nat // j ≤ x.wit.length ∧ (x.wit.take j).all (fun y => decide (y.length ≤ 1000)) = true }) (fun j => ⟨[(1, .ptr 0 0 []), (4, .t (.int .i64 (i : Int))), (5, .t (.int .i64 (j.1 : Int)))], [.bx (.t (.st [.int .u32 (v.toNat : Int), .sq 35 (is.map inT), .sq 2 (os.map outT), .int .u32 (k.toNat : Int)]))]⟩) (fun j => x.wit.length - j.1) ⟨0, by omega, rfl⟩ (Wt trivial [1, 4, 5] [0]) ?_
    intro ⟨j, hj, haj⟩
    dsimp only
    by_cases hltj : (j : Int) < (x.wit.length : Int)
    · have hltj' : j < x.wit.length := by omega
      have hgetj := map_getD x.wit j hltj'
      have halj := all_take (fun y : List UInt8 => decide (y.length ≤ 1000)) [] x.wit j hltj'
      have hbadj := all_getD (fun y : List UInt8 => decide (y.length ≤ 1000)) [] x.wit j hltj'
      generalize x.wit.getD j [] = y at *
      by_cases hb : 1000 < (y.length : Int)
      · have hx : decide (y.length ≤ 1000) = false := decide_eq_false (by omega)
        have e : c = false := by rw [hcb', hbad (by rw [hxe]; exact hbadj hx)]
        subst e
        repeat refine St (And.intro hlti <| And.intro hlt' <| And.intro hget <| And.intro @inT.eq_def <| And.intro @refT.eq_def <| And.intro hltj <| And.intro hltj' <| And.intro hgetj <| hb) ct46 ?_
        exact AWP.ret (Fin trivial [] [])
      · have hx : decide (y.length ≤ 1000) = true := decide_eq_true (by omega)
        rw [haj, hx] at halj
        repeat refine St (And.intro hlti <| And.intro hlt' <| And.intro hget <| And.intro @inT.eq_def <| And.intro @refT.eq_def <| And.intro hltj <| And.intro hltj' <| And.intro hgetj <| hb) ct46 ?_
        exact ⟨⟨j + 1, by omega, by rw [halj]; rfl⟩, (Wt trivial [1, 4, 5] [0]), by simp only; omega⟩
    obtain rfl : j = x.wit.length := by omega
    rw [List.take_length] at haj
    rw [haj] at hxe
    rw [hai, hxe] at hal
    repeat refine St (And.intro hlti <| And.intro hlt' <| And.intro hget <| And.intro @inT.eq_def <| And.intro @refT.eq_def <| hltj) ct46 ?_
    exact ⟨⟨i + 1, by omega, by rw [hal]; rfl⟩, (Wt trivial [1, 4] [0]), by simp only; omega⟩
  obtain rfl : i = is.length := by omega
  rw [List.take_length] at hai
  rw [hai] at hcb'
  subst hcb'
  repeat refine St hlti ct46 ?_
  exact AWP.ret (Fin trivial [] [])

theorem rcounts_c (t : TTx) : F46 [txT t] = some ([], .t (.bool (countsB t))) := by
  simp only [F46, inv_of txT_inj]

noncomputable def F15 : Fun
  | [y] => match inv txT y with
    | some t => some ([], .t (.bool (smallT t)))
    | none => none
  | _ => none

theorem ct15 : CT [] [0, 1, 2, 3, 4, 5, 15, 20, 30, 35, 45, 54, 67] [] := ⟨GClOk.nil _⟩

set_option maxHeartbeats 1000000 in
theorem c15 : ACon Try.prog 15 F15 := by
  refine aconc E_ok (rs := [.tmp 2 4]) Try.func15 rfl Try.ntmps15 (by kernel_rfl) rfl (by decide) F15 (np := 1) ?_ ?_
  · intro ts h; unfold F15; split <;> first | rfl | (simp at h; done)
  intro ts H r hF hwf
  unfold F15 at hF
  split at hF <;> try (cases hF; done)
  split at hF <;> try (cases hF; done)
  rename_i t ht
  cases hF
  obtain rfl := inv_inv ht
  have hcb := smallT_eq t
  obtain ⟨c, hc⟩ : ∃ c, smallT t = c := ⟨_, rfl⟩
  rw [hc] at hcb
  rw [hc]
  obtain ⟨v, is, os, k⟩ := t
  dsimp only at hcb
  have hyu : txT ⟨v, is, os, k⟩ = .st [.int .u32 (v.toNat : Int), .sq 35 (is.map inT), .sq 2 (os.map outT), .int .u32 (k.toNat : Int)] := rfl
  rw [hyu]
  by_cases h1 : 6 < (is.length : Int)
  · have e : c = false := by rw [hcb]; have : ¬ is.length ≤ 6 := by omega
                             simp [this]
    subst e
    repeat refine St h1 ct15 ?_
    exact AWP.ret (Fin trivial [] [])
  by_cases h2 : 6 < (os.length : Int)
  · have e : c = false := by rw [hcb]; have : ¬ os.length ≤ 6 := by omega
                             simp [this]
    subst e
    repeat refine St (And.intro h1 <| h2) ct15 ?_
    exact AWP.ret (Fin trivial [] [])
  have hcb' : c = (os.all scrS && is.all witS) := by
    rw [hcb]
    have e1 : is.length ≤ 6 := by omega
    have e2 : os.length ≤ 6 := by omega
    simp [e1, e2]
  repeat refine St (And.intro h1 <| h2) ct15 ?_
  refine AWP.loop (G := { i : Nat // i ≤ os.length ∧ (os.take i).all scrS = true }) (fun i => ⟨[(1, .ptr 0 0 []), (3, .t (.int .i64 (i.1 : Int)))], [.bx (.t (.st [.int .u32 (v.toNat : Int), .sq 35 (is.map inT), .sq 2 (os.map outT), .int .u32 (k.toNat : Int)]))]⟩) (fun i => os.length - i.1) ⟨0, by omega, rfl⟩ (Wt trivial [1, 3] [0]) ?_
  intro ⟨i, hi, ha⟩
  dsimp only
  by_cases hlt : (i : Int) < (os.length : Int)
  · have hlt' : i < os.length := by omega
    have hget := out_getD os i hlt'
    have hal := all_take scrS dOut os i hlt'
    have hbad := all_getD scrS dOut os i hlt'
    generalize os.getD i dOut = x at *
    by_cases hb : 600 < (x.scr.length : Int)
    · have hx : scrS x = false := decide_eq_false (by omega)
      have e : c = false := by rw [hcb', hbad hx]; rfl
      subst e
      repeat refine St (And.intro hlt <| And.intro hlt' <| And.intro hget <| And.intro @outT.eq_def <| hb) ct15 ?_
      exact AWP.ret (Fin trivial [] [])
    · have hx : scrS x = true := decide_eq_true (by omega)
      rw [ha, hx] at hal
      repeat refine St (And.intro hlt <| And.intro hlt' <| And.intro hget <| And.intro @outT.eq_def <| hb) ct15 ?_
      exact ⟨⟨i + 1, by omega, by rw [hal]; rfl⟩, (Wt trivial [1, 3] [0]), by simp only; omega⟩
  obtain rfl : i = os.length := by omega
  rw [List.take_length] at ha
  rw [ha, Bool.true_and] at hcb'
  repeat refine St hlt ct15 ?_
  refine AWP.loop (G := { i : Nat // i ≤ is.length ∧ (is.take i).all witS = true }) (fun i => ⟨[(1, .ptr 0 0 []), (4, .t (.int .i64 (i.1 : Int)))], [.bx (.t (.st [.int .u32 (v.toNat : Int), .sq 35 (is.map inT), .sq 2 (os.map outT), .int .u32 (k.toNat : Int)]))]⟩) (fun i => is.length - i.1) ⟨0, by omega, rfl⟩ (Wt trivial [1, 4] [0]) ?_
  intro ⟨i, hi, hai⟩
  dsimp only
  by_cases hlti : (i : Int) < (is.length : Int)
  · have hlt' : i < is.length := by omega
    have hget := in_getD is i hlt'
    have hal := all_take witS dIn is i hlt'
    have hbad := all_getD witS dIn is i hlt'
    generalize is.getD i dIn = x at *
    have hxe : witS x = (decide (x.wit.length ≤ 6) && x.wit.all fun y => decide (y.length ≤ 600)) := rfl
    by_cases h30 : 6 < (x.wit.length : Int)
    · have e : c = false := by rw [hcb', hbad (by rw [hxe]; have : ¬ x.wit.length ≤ 6 := by omega
                                                  simp [this])]
      subst e
      repeat refine St (And.intro hlti <| And.intro hlt' <| And.intro hget <| And.intro @inT.eq_def <| And.intro @refT.eq_def <| h30) ct15 ?_
      exact AWP.ret (Fin trivial [] [])
    have h30' : decide (x.wit.length ≤ 6) = true := decide_eq_true (by omega)
    rw [h30', Bool.true_and] at hxe
    repeat refine St (And.intro hlti <| And.intro hlt' <| And.intro hget <| And.intro @inT.eq_def <| And.intro @refT.eq_def <| h30) ct15 ?_
    refine AWP.loop (G := { j : Nat // j ≤ x.wit.length ∧ (x.wit.take j).all (fun y => decide (y.length ≤ 600)) = true }) (fun j => ⟨[(1, .ptr 0 0 []), (4, .t (.int .i64 (i : Int))), (5, .t (.int .i64 (j.1 : Int)))], [.bx (.t (.st [.int .u32 (v.toNat : Int), .sq 35 (is.map inT), .sq 2 (os.map outT), .int .u32 (k.toNat : Int)]))]⟩) (fun j => x.wit.length - j.1) ⟨0, by omega, rfl⟩ (Wt trivial [1, 4, 5] [0]) ?_
    intro ⟨j, hj, haj⟩
    dsimp only
    by_cases hltj : (j : Int) < (x.wit.length : Int)
    · have hltj' : j < x.wit.length := by omega
      have hgetj := map_getD x.wit j hltj'
      have halj := all_take (fun y : List UInt8 => decide (y.length ≤ 600)) [] x.wit j hltj'
      have hbadj := all_getD (fun y : List UInt8 => decide (y.length ≤ 600)) [] x.wit j hltj'
      generalize x.wit.getD j [] = y at *
      by_cases hb : 600 < (y.length : Int)
      · have hx : decide (y.length ≤ 600) = false := decide_eq_false (by omega)
        have e : c = false := by rw [hcb', hbad (by rw [hxe]; exact hbadj hx)]
        subst e
        repeat refine St (And.intro hlti <| And.intro hlt' <| And.intro hget <| And.intro @inT.eq_def <| And.intro @refT.eq_def <| And.intro hltj <| And.intro hltj' <| And.intro hgetj <| hb) ct15 ?_
        exact AWP.ret (Fin trivial [] [])
      · have hx : decide (y.length ≤ 600) = true := decide_eq_true (by omega)
        rw [haj, hx] at halj
        repeat refine St (And.intro hlti <| And.intro hlt' <| And.intro hget <| And.intro @inT.eq_def <| And.intro @refT.eq_def <| And.intro hltj <| And.intro hltj' <| And.intro hgetj <| hb) ct15 ?_
        exact ⟨⟨j + 1, by omega, by rw [halj]; rfl⟩, (Wt trivial [1, 4, 5] [0]), by simp only; omega⟩
    obtain rfl : j = x.wit.length := by omega
    rw [List.take_length] at haj
    rw [haj] at hxe
    rw [hai, hxe] at hal
    repeat refine St (And.intro hlti <| And.intro hlt' <| And.intro hget <| And.intro @inT.eq_def <| And.intro @refT.eq_def <| hltj) ct15 ?_
    exact ⟨⟨i + 1, by omega, by rw [hal]; rfl⟩, (Wt trivial [1, 4] [0]), by simp only; omega⟩
  obtain rfl : i = is.length := by omega
  rw [List.take_length] at hai
  rw [hai] at hcb'
  subst hcb'
  repeat refine St hlti ct15 ?_
  exact AWP.ret (Fin trivial [] [])

theorem rSmall_c (t : TTx) : F15 [txT t] = some ([], .t (.bool (smallT t))) := by
  simp only [F15, inv_of txT_inj]

noncomputable def F48 : Fun
  | [y] => match inv txT y with
    | some t => @ite _ (countsB t = true) (Classical.propDecidable _) (some ([.by (bareB t)], .own 0)) none
    | none => none
  | _ => none

theorem ct48 : CT [(73, ⟨[false, false, false], treeG F73⟩), (74, ⟨[false, false], treeG F74⟩), (75, ⟨[false, false], treeG F75⟩)] [0, 1, 2, 3, 4, 5, 20, 61] [] := ⟨(.cons c73.g (.cons c74.g (.cons c75.g (.nil _))))⟩

theorem rput4 (b : List UInt8) (n : UInt32) (h : b.length ≤ 549755812000) : F73 [.by b, .int .u64 (n.toNat : Int), .int .i64 4] = some ([.by (b ++ le 4 (n.toNat : Int))], .own 0) := put_c (n.toNat : Int) 4 (by omega) (by omega) (by omega)
theorem rput8 (b : List UInt8) (n : UInt64) (h : b.length ≤ 549755812000) : F73 [.by b, .int .u64 (n.toNat : Int), .int .i64 8] = some ([.by (b ++ le 8 (n.toNat : Int))], .own 0) := put_c (n.toNat : Int) 8 (by omega) (by omega) (by omega)
theorem rputsize (b : List UInt8) (n : Int) (h : b.length ≤ 549755812000) : F74 [.by b, .int .u64 n] = some ([.by (b ++ sizeB n)], .own 0) := if_pos h
theorem rputbytes (b x : List UInt8) (h : b.length + x.length ≤ 549755800000) : F75 [.by b, .by x] = some ([.by (b ++ sizeB x.length ++ x)], .own 0) := if_pos h
theorem rputlist (b : List UInt8) (l : List (List UInt8)) (h : b.length + (flat l).length ≤ 549755700000) : F72 [.by b, .sq 1 (l.map .by)] = some ([.by (b ++ sizeB l.length ++ flat l)], .own 0) := by
  simp only [F72, asBys_map]; exact if_pos h
theorem u32u64 (n : UInt32) : IntKind.u64.wrap (n.toNat : Int) = (n.toNat : Int) := by have := n.toNat_lt; exact wrap_u64 (by omega) (by omega)

set_option maxHeartbeats 2000000 in
theorem c48 : ACon Try.prog 48 F48 := by
  refine aconc E_ok (rs := [.tmp 2 22]) Try.func48 rfl Try.ntmps48 (by kernel_rfl) rfl (by decide) F48 (np := 1) ?_ ?_
  · intro ts h; unfold F48; split <;> first | rfl | (simp at h; done)
  intro ts H r hF hwf
  unfold F48 at hF
  split at hF <;> try (cases hF; done)
  split at hF <;> try (cases hF; done)
  rename_i t ht
  split at hF
  case isFalse => cases hF
  rename_i hc
  have hc := hc
  cases hF
  obtain rfl := inv_inv ht
  obtain ⟨c1, c2, c3, c4⟩ := countsB_ok hc
  obtain ⟨v, is, os, k⟩ := t
  dsimp only at c1 c2 c3 c4
  have hp := rput4 [] v (by simp)
  have hs := rputsize (le 4 (v.toNat : Int)) is.length (by simp [le_len])
  simp only [List.nil_append] at hp
  have hw : IntKind.u64.wrap (is.length : Int) = (is.length : Int) := wrap_u64 (by omega) (by omega)
  have hw2 : IntKind.u64.wrap (os.length : Int) = (os.length : Int) := wrap_u64 (by omega) (by omega)
  have hsl := sizeB_len (is.length : Int)
  have hsl2 := sizeB_len (os.length : Int)
  have hyu : txT ⟨v, is, os, k⟩ = .st [.int .u32 (v.toNat : Int), .sq 35 (is.map inT), .sq 2 (os.map outT), .int .u32 (k.toNat : Int)] := rfl
  rw [hyu]
  repeat refine St (And.intro hp <| And.intro hs <| And.intro hw <| @u32u64) ct48 ?_
  refine AWP.loop (G := { i : Nat // i ≤ is.length }) (fun i => ⟨[(1, .ptr 0 0 []), (3, .own 1), (4, .t (.int .i64 (i.1 : Int)))], [.bx (.t (.st [.int .u32 (v.toNat : Int), .sq 35 (is.map inT), .sq 2 (os.map outT), .int .u32 (k.toNat : Int)])), .by (le 4 (v.toNat : Int) ++ sizeB is.length ++ cat tInB (is.take i.1))]⟩) (fun i => is.length - i.1) ⟨0, by omega⟩ (Wt (And.intro @cat_nil <| @List.take_zero.{0}) [1, 3, 4] [0, 2]) ?_
  intro ⟨i, hi⟩
  dsimp only
  have hcl := cat_in_len (is.take i)
  have hil : (is.take i).length = i := by simp; omega
  have h4 := le_len 4 (v.toNat : Int)
  by_cases hlt : (i : Int) < (is.length : Int)
  · have hlt' : i < is.length := by omega
    have hget := in_getD is i hlt'
    have hcat := cat_take tInB dIn is i hlt'
    generalize is.getD i dIn = x at *
    have hbl : (le 4 (v.toNat : Int) ++ sizeB is.length ++ cat tInB (is.take i)).length ≤ 2000 := by simp only [List.length_append]; omega
    have p1 := rput4 (le 4 (v.toNat : Int) ++ sizeB is.length ++ cat tInB (is.take i) ++ x.prev.1) x.idx (by rw [List.length_append, x.prev.2]; omega)
    have p2 := rput4 (le 4 (v.toNat : Int) ++ sizeB is.length ++ cat tInB (is.take i) ++ x.prev.1 ++ le 4 (x.idx.toNat : Int)) x.seq (by rw [List.length_append, List.length_append, x.prev.2, le_len]; omega)
    have h32 := x.prev.2
    have htk := take32 x.prev
    have hin : tInB x = x.prev.1 ++ le 4 (x.idx.toNat : Int) ++ le 4 (x.seq.toNat : Int) := rfl
    repeat refine St (And.intro hlt <| And.intro hlt' <| And.intro hget <| And.intro @inT.eq_def <| And.intro @refT.eq_def <| And.intro h32 <| And.intro htk <| And.intro hbl <| And.intro p1 <| And.intro p2 <| @u32u64) ct48 ?_
    exact ⟨⟨i + 1, by omega⟩, (Wt (And.intro hcat <| And.intro hin <| @List.append_assoc.{0}) [1, 3, 4] [0, 4]), by simp only; omega⟩
  obtain rfl : i = is.length := by omega
  rw [List.take_length]
  rw [List.take_length] at hcl
  obtain ⟨A, hA⟩ : ∃ A, le 4 (v.toNat : Int) ++ sizeB is.length ++ cat tInB is = A := ⟨_, rfl⟩
  have hAl : A.length ≤ 2000 := by rw [← hA]; simp only [List.length_append]; omega
  rw [hA]
  have hps := rputsize A os.length (by omega)
  repeat refine St (And.intro hlt <| And.intro hps <| hw2) ct48 ?_
  refine AWP.loop (G := { i : Nat // i ≤ os.length }) (fun i => ⟨[(1, .ptr 0 0 []), (3, .own 1), (5, .t (.int .i64 (i.1 : Int)))], [.bx (.t (.st [.int .u32 (v.toNat : Int), .sq 35 (is.map inT), .sq 2 (os.map outT), .int .u32 (k.toNat : Int)])), .by (A ++ sizeB os.length ++ cat tOutB (os.take i.1))]⟩) (fun i => os.length - i.1) ⟨0, by omega⟩ (Wt (And.intro @cat_nil <| @List.take_zero.{0}) [1, 3, 5] [0, 2]) ?_
  intro ⟨i, hi⟩
  dsimp only
  have hcl2 := scr_cat os i c3 c2
  by_cases hlt : (i : Int) < (os.length : Int)
  · have hlt' : i < os.length := by omega
    have hget := out_getD os i hlt'
    have hcat := cat_take tOutB dOut os i hlt'
    have hscr : (os.getD i dOut).scr.length ≤ 1000 := c3 _ (by simp [hlt'])
    generalize os.getD i dOut = x at *
    have p1 := rput8 (A ++ sizeB os.length ++ cat tOutB (os.take i)) x.val (by simp only [List.length_append]; omega)
    have p2 := rputbytes (A ++ sizeB os.length ++ cat tOutB (os.take i) ++ le 8 (x.val.toNat : Int)) x.scr (by simp only [List.length_append, le_len]; omega)
    have hin : tOutB x = le 8 (x.val.toNat : Int) ++ (sizeB x.scr.length ++ x.scr) := rfl
    repeat refine St (And.intro hlt <| And.intro hlt' <| And.intro hget <| And.intro @outT.eq_def <| And.intro p1 <| p2) ct48 ?_
    exact ⟨⟨i + 1, by omega⟩, (Wt (And.intro hcat <| And.intro hin <| @List.append_assoc.{0}) [1, 3, 5] [0, 3]), by simp only; omega⟩
  obtain rfl : i = os.length := by omega
  rw [List.take_length]
  rw [List.take_length] at hcl2
  have p1 := rput4 (A ++ sizeB os.length ++ cat tOutB os) k (by simp only [List.length_append]; omega)
  have hb : bareB ⟨v, is, os, k⟩ = A ++ sizeB os.length ++ cat tOutB os ++ le 4 (k.toNat : Int) := by unfold bareB; rw [← hA]
  repeat refine St (And.intro hlt <| And.intro p1 <| @u32u64) ct48 ?_
  exact AWP.ret (Fin hb [] [2])

theorem rbare_c {t : TTx} (h : countsB t = true) : F48 [txT t] = some ([.by (bareB t)], .own 0) := by
  simp only [F48, inv_of txT_inj]; exact if_pos h

noncomputable def F47 : Fun
  | [y] => match inv txT y with
    | some t => @ite _ (countsB t = true) (Classical.propDecidable _) (some ([.by (wholeB t)], .own 0)) none
    | none => none
  | _ => none

theorem ct47 : CT [(48, ⟨[false], treeG F48⟩), (72, ⟨[false, false], treeG F72⟩)] [0, 1, 2, 3, 4, 11] [] := ⟨(.cons c48.g (.cons c72.g (.nil _)))⟩

set_option maxHeartbeats 1000000 in
theorem c47 : ACon Try.prog 47 F47 := by
  refine aconc E_ok (rs := [.tmp 2 22]) Try.func47 rfl Try.ntmps47 (by kernel_rfl) rfl (by decide) F47 (np := 1) ?_ ?_
  · intro ts h; unfold F47; split <;> first | rfl | (simp at h; done)
  intro ts H r hF hwf
  unfold F47 at hF
  split at hF <;> try (cases hF; done)
  split at hF <;> try (cases hF; done)
  rename_i t ht
  split at hF
  case isFalse => cases hF
  rename_i hc
  have hc := hc
  cases hF
  obtain rfl := inv_inv ht
  have hb := rbare_c hc
  obtain ⟨hbl, hwl⟩ := counts_len hc
  have hcw : ∀ i, (cat witB (t.ins.take i)).length ≤ (wholeB t).length := fun i => by
    have := cat_take_le witB t.ins i
    unfold wholeB; rw [List.length_append]; omega
  have hwh : wholeB t = bareB t ++ cat witB t.ins := rfl
  obtain ⟨c1, c2, c3, c4⟩ := countsB_ok hc
  generalize bareB t = B at *
  generalize wholeB t = W0 at *
  obtain ⟨v, is, os, k⟩ := t
  dsimp only at c1 c2 c3 c4 hcw hwh
  have hyu : txT ⟨v, is, os, k⟩ = .st [.int .u32 (v.toNat : Int), .sq 35 (is.map inT), .sq 2 (os.map outT), .int .u32 (k.toNat : Int)] := rfl
  rw [hyu] at hb
  rw [hyu]
  repeat refine St hb ct47 ?_
  refine AWP.loop (G := { i : Nat // i ≤ is.length }) (fun i => ⟨[(1, .ptr 0 0 []), (3, .own 1), (4, .t (.int .i64 (i.1 : Int)))], [.bx (.t (.st [.int .u32 (v.toNat : Int), .sq 35 (is.map inT), .sq 2 (os.map outT), .int .u32 (k.toNat : Int)])), .by (B ++ cat witB (is.take i.1))]⟩) (fun i => is.length - i.1) ⟨0, by omega⟩ (Wt (And.intro @cat_nil <| @List.take_zero.{0}) [1, 3, 4] [0, 1]) ?_
  intro ⟨i, hi⟩
  dsimp only
  have hci := hcw i
  by_cases hlt : (i : Int) < (is.length : Int)
  · have hlt' : i < is.length := by omega
    have hget := in_getD is i hlt'
    have hcat := cat_take witB dIn is i hlt'
    have hwx := c4 (is.getD i dIn) (by simp [hlt'])
    generalize is.getD i dIn = x at *
    have hfx := flat_le 1000 x.wit hwx.2
    have hfx2 : (flat x.wit).length ≤ 30 * 1009 := Nat.le_trans hfx (Nat.mul_le_mul_right _ hwx.1)
    have p1 := rputlist (B ++ cat witB (is.take i)) x.wit (by simp only [List.length_append]; omega)
    have hin : witB x = sizeB x.wit.length ++ flat x.wit := rfl
    repeat refine St (And.intro hlt <| And.intro hlt' <| And.intro hget <| And.intro @inT.eq_def <| And.intro @refT.eq_def <| p1) ct47 ?_
    exact ⟨⟨i + 1, by omega⟩, (Wt (And.intro hcat <| And.intro hin <| @List.append_assoc.{0}) [1, 3, 4] [0, 2]), by simp only; omega⟩
  obtain rfl : i = is.length := by omega
  rw [List.take_length]
  repeat refine St hlt ct47 ?_
  exact AWP.ret (Fin hwh [] [1])

theorem rwhole_c {t : TTx} (h : countsB t = true) : F47 [txT t] = some ([.by (wholeB t)], .own 0) := by
  simp only [F47, inv_of txT_inj]; exact if_pos h

noncomputable def F23 : Fun
  | [y] => match inv txT y with
    | some t => some ([], .t (.int .i64 (chkE t)))
    | none => none
  | _ => none

theorem ct23 : CT [(46, ⟨[false], treeG F46⟩), (47, ⟨[false], treeG F47⟩)] [0, 1, 2, 5, 9] [] := ⟨(.cons c46.g (.cons c47.g (.nil _)))⟩

theorem c23 : ACon Try.prog 23 F23 := by
  refine aconc E_ok (rs := [.tmp 2 29]) Try.func23 rfl Try.ntmps23 (by kernel_rfl) rfl (by decide) F23 (np := 1) ?_ ?_
  · intro ts h; unfold F23; split <;> first | rfl | (simp at h; done)
  intro ts H r hF hwf
  unfold F23 at hF
  split at hF <;> try (cases hF; done)
  split at hF <;> try (cases hF; done)
  rename_i t ht
  cases hF
  obtain rfl := inv_inv ht
  have h1 := rcounts_c t
  rcases chk_cases t with ⟨e1, e2⟩ | ⟨e1, e2, e3⟩ | ⟨e1, e2, e3⟩
  · rw [e1] at h1
    rw [txT_st] at h1 ⊢
    repeat refine St h1 ct23 ?_
    exact AWP.ret (Fin e2 [] [])
  · have h2 := rwhole_c e1
    rw [e1] at h1
    rw [txT_st] at h1 h2 ⊢
    generalize wholeB t = w0 at *
    have h3 : 12000 < (w0.length : Int) := by omega
    repeat refine St (And.intro h1 <| And.intro h2 <| h3) ct23 ?_
    exact AWP.ret (Fin e3 [] [])
  · have h2 := rwhole_c e1
    rw [e1] at h1
    rw [txT_st] at h1 h2 ⊢
    generalize wholeB t = w0 at *
    have h3 : ¬ 12000 < (w0.length : Int) := by omega
    repeat refine St (And.intro h1 <| And.intro h2 <| h3) ct23 ?_
    exact AWP.ret (Fin e3 [] [])

theorem rcheck_c (t : TTx) : F23 [txT t] = some ([], .t (.int .i64 (chkE t))) := by
  simp only [F23, inv_of txT_inj]

noncomputable def F24 : Fun
  | [y] => match inv txT y with
    | some t => some ([], .t (.by (barO t)))
    | none => none
  | _ => none

theorem ct24 : CT [(23, ⟨[false], treeG F23⟩), (48, ⟨[false], treeG F48⟩)] [0, 1, 2, 5] [] := ⟨(.cons c23.g (.cons c48.g (.nil _)))⟩

theorem c24 : ACon Try.prog 24 F24 := by
  refine aconc E_ok (rs := [.tmp 2 22]) Try.func24 rfl Try.ntmps24 (by kernel_rfl) rfl (by decide) F24 (np := 1) ?_ ?_
  · intro ts h; unfold F24; split <;> first | rfl | (simp at h; done)
  intro ts H r hF hwf
  unfold F24 at hF
  split at hF <;> try (cases hF; done)
  split at hF <;> try (cases hF; done)
  rename_i t ht
  cases hF
  obtain rfl := inv_inv ht
  have h1 := rcheck_c t
  rcases chk_two t with ⟨e1, e2, e3⟩ | ⟨e1, e2⟩
  · have h2 := rbare_c e2
    have e4 : barO t = bareB t := if_pos (fit_of e2 e3)
    rw [e1] at h1
    rw [e4]
    rw [txT_st] at h1 h2 ⊢
    generalize bareB t = w0 at *
    repeat refine St (And.intro h1 <| h2) ct24 ?_
    exact AWP.ret (Fin trivial [1] [])
  · have e4 : barO t = [] := if_neg (by simp [e2])
    rw [e1] at h1
    rw [e4]
    rw [txT_st] at h1 ⊢
    repeat refine St h1 ct24 ?_
    exact AWP.ret (Fin trivial [] [])

noncomputable def F25 : Fun
  | [y] => match inv txT y with
    | some t => some ([], .t (.by (whoO t)))
    | none => none
  | _ => none

theorem ct25 : CT [(23, ⟨[false], treeG F23⟩), (47, ⟨[false], treeG F47⟩)] [0, 1, 2, 5] [] := ⟨(.cons c23.g (.cons c47.g (.nil _)))⟩

theorem c25 : ACon Try.prog 25 F25 := by
  refine aconc E_ok (rs := [.tmp 2 22]) Try.func25 rfl Try.ntmps25 (by kernel_rfl) rfl (by decide) F25 (np := 1) ?_ ?_
  · intro ts h; unfold F25; split <;> first | rfl | (simp at h; done)
  intro ts H r hF hwf
  unfold F25 at hF
  split at hF <;> try (cases hF; done)
  split at hF <;> try (cases hF; done)
  rename_i t ht
  cases hF
  obtain rfl := inv_inv ht
  have h1 := rcheck_c t
  rcases chk_two t with ⟨e1, e2, e3⟩ | ⟨e1, e2⟩
  · have h2 := rwhole_c e2
    have e4 : whoO t = wholeB t := if_pos (fit_of e2 e3)
    rw [e1] at h1
    rw [e4]
    rw [txT_st] at h1 h2 ⊢
    generalize wholeB t = w0 at *
    repeat refine St (And.intro h1 <| h2) ct25 ?_
    exact AWP.ret (Fin trivial [1] [])
  · have e4 : whoO t = [] := if_neg (by simp [e2])
    rw [e1] at h1
    rw [e4]
    rw [txT_st] at h1 ⊢
    repeat refine St h1 ct25 ?_
    exact AWP.ret (Fin trivial [] [])

noncomputable def F26 : Fun
  | [y] => match inv txT y with
    | some t => some ([], .t (.ba 32 (namO t)))
    | none => none
  | _ => none

theorem ct26 : CT [(23, ⟨[false], treeG F23⟩), (48, ⟨[false], treeG F48⟩), (49, ⟨[false], treeG F49⟩)] [0, 1, 2, 5] [] := ⟨(.cons c23.g (.cons c48.g (.cons c49.g (.nil _))))⟩

theorem rdbl_c1 {b : List UInt8} (h : b.length ≤ 1000000000) : F49 [.by b] = some ([], .t (.ba 32 (shaL (shaL b)))) := if_pos h
theorem c26 : ACon Try.prog 26 F26 := by
  refine aconc E_ok (rs := [.cell 2 43]) Try.func26 rfl Try.ntmps26 (by kernel_rfl) rfl (by decide) F26 (np := 1) ?_ ?_
  · intro ts h; unfold F26; split <;> first | rfl | (simp at h; done)
  intro ts H r hF hwf
  unfold F26 at hF
  split at hF <;> try (cases hF; done)
  split at hF <;> try (cases hF; done)
  rename_i t ht
  cases hF
  obtain rfl := inv_inv ht
  have h1 := rcheck_c t
  rcases chk_two t with ⟨e1, e2, e3⟩ | ⟨e1, e2⟩
  · have h2 := rbare_c e2
    have hl := counts_len e2
    have e4 : namO t = shaL (shaL (bareB t)) := if_pos (fit_of e2 e3)
    have h3 := rdbl_c1 (b := bareB t) (by omega)
    rw [e1] at h1
    rw [e4]
    rw [txT_st] at h1 h2 ⊢
    generalize shaL (shaL (bareB t)) = x at *
    generalize bareB t = w0 at *
    repeat refine St (And.intro h1 <| And.intro h2 <| h3) ct26 ?_
    exact AWP.ret (Fin trivial [] [])
  · have e4 : namO t = zby 32 := if_neg (by simp [e2])
    rw [e1] at h1
    rw [e4]
    rw [txT_st] at h1 ⊢
    repeat refine St h1 ct26 ?_
    exact AWP.ret (Fin trivial [] [])

noncomputable def F28 : Fun
  | [y] => match inv txT y with
    | some t => some ([], .t (.ba 32 (seaO t)))
    | none => none
  | _ => none

theorem ct28 : CT [(23, ⟨[false], treeG F23⟩), (47, ⟨[false], treeG F47⟩), (49, ⟨[false], treeG F49⟩)] [0, 1, 2, 5] [] := ⟨(.cons c23.g (.cons c47.g (.cons c49.g (.nil _))))⟩

theorem rdbl_c2 {b : List UInt8} (h : b.length ≤ 1000000000) : F49 [.by b] = some ([], .t (.ba 32 (shaL (shaL b)))) := if_pos h
theorem c28 : ACon Try.prog 28 F28 := by
  refine aconc E_ok (rs := [.cell 2 43]) Try.func28 rfl Try.ntmps28 (by kernel_rfl) rfl (by decide) F28 (np := 1) ?_ ?_
  · intro ts h; unfold F28; split <;> first | rfl | (simp at h; done)
  intro ts H r hF hwf
  unfold F28 at hF
  split at hF <;> try (cases hF; done)
  split at hF <;> try (cases hF; done)
  rename_i t ht
  cases hF
  obtain rfl := inv_inv ht
  have h1 := rcheck_c t
  rcases chk_two t with ⟨e1, e2, e3⟩ | ⟨e1, e2⟩
  · have h2 := rwhole_c e2
    have hl := counts_len e2
    have e4 : seaO t = shaL (shaL (wholeB t)) := if_pos (fit_of e2 e3)
    have h3 := rdbl_c2 (b := wholeB t) (by omega)
    rw [e1] at h1
    rw [e4]
    rw [txT_st] at h1 h2 ⊢
    generalize shaL (shaL (wholeB t)) = x at *
    generalize wholeB t = w0 at *
    repeat refine St (And.intro h1 <| And.intro h2 <| h3) ct28 ?_
    exact AWP.ret (Fin trivial [] [])
  · have e4 : seaO t = zby 32 := if_neg (by simp [e2])
    rw [e1] at h1
    rw [e4]
    rw [txT_st] at h1 ⊢
    repeat refine St h1 ct28 ?_
    exact AWP.ret (Fin trivial [] [])

noncomputable def F29 : Fun
  | [y] => match inv txT y with
    | some t => some ([], .t (.int .i64 (weiO t)))
    | none => none
  | _ => none

theorem ct29 : CT [(23, ⟨[false], treeG F23⟩), (47, ⟨[false], treeG F47⟩), (48, ⟨[false], treeG F48⟩)] [0, 1, 2, 5] [(3, [⟨1, [1], [], []⟩, ⟨1, [6], [0], []⟩, ⟨1, [7], [0, 1], []⟩, ⟨0, [8], [0, 1, 2], []⟩, ⟨1, [1], [], []⟩, ⟨1, [10], [0, 1, 4], []⟩, ⟨1, [11], [0, 1, 4, 5], []⟩, ⟨0, [9, 12], [0, 1, 2, 4, 5, 6], []⟩, ⟨0, [13], [0, 1, 2, 4, 5, 6], []⟩])] := ⟨(.cons c23.g (.cons c47.g (.cons c48.g (.nil _))))⟩

theorem c29 : ACon Try.prog 29 F29 := by
  refine aconc E_ok (rs := [.tmp 2 3]) Try.func29 rfl Try.ntmps29 (by kernel_rfl) rfl (by decide) F29 (np := 1) ?_ ?_
  · intro ts h; unfold F29; split <;> first | rfl | (simp at h; done)
  intro ts H r hF hwf
  unfold F29 at hF
  split at hF <;> try (cases hF; done)
  split at hF <;> try (cases hF; done)
  rename_i t ht
  cases hF
  obtain rfl := inv_inv ht
  have h1 := rcheck_c t
  rcases chk_two t with ⟨e1, e2, e3⟩ | ⟨e1, e2⟩
  · have h2 := rwhole_c e2
    have h3 := rbare_c e2
    obtain ⟨hl1, hl2⟩ := counts_len e2
    have e4 : weiO t = 3 * ((bareB t).length : Int) + ((wholeB t).length : Int) := if_pos (fit_of e2 e3)
    rw [e1] at h1
    rw [e4]
    rw [txT_st] at h1 h2 h3 ⊢
    generalize wholeB t = w0 at *
    generalize bareB t = w1 at *
    have q1 : IntKind.i64.wrap (3 * (w1.length : Int)) = 3 * (w1.length : Int) := wrap_i64 (by omega) (by omega)
    have q2 : IntKind.i64.wrap (3 * (w1.length : Int) + (w0.length : Int)) = 3 * (w1.length : Int) + (w0.length : Int) := wrap_i64 (by omega) (by omega)
    repeat refine St (And.intro h1 <| And.intro h2 <| And.intro h3 <| And.intro q1 <| q2) ct29 ?_
    exact AWP.ret (Fin trivial [] [])
  · have e4 : weiO t = 0 := if_neg (by simp [e2])
    rw [e1] at h1
    rw [e4]
    rw [txT_st] at h1 ⊢
    repeat refine St h1 ct29 ?_
    exact AWP.ret (Fin trivial [] [])

end Go.Fw

end
