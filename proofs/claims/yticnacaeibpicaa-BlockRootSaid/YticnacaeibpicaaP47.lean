/- The abstract machine, and the contracts of the code: part 47. -/
import Derived.Test.YticnacaeibpicaaP46

section
/- compact's answer: bytes laid. -/
namespace Go.Fw
open Go Go.Proofs
set_option linter.unusedVariables false
set_option linter.unusedSimpArgs false

def F39 : Fun
  | [.by b, .int .u64 n, .int .i64 m] => if b.length ≤ 549755813000 ∧ 0 ≤ m ∧ m ≤ 16 then some ([.by (b ++ le m.toNat n)], .own 0) else none
  | _ => none

theorem ct39 : CT [] [0, 1, 2, 6, 7, 8, 14] [] := ⟨GClOk.nil _⟩

theorem c39 : ACon Try.prog 39 F39 := by
  refine aconc E_ok (rs := [.tmp 6 22]) Try.func39 rfl Try.ntmps39 (by kernel_rfl) rfl (by decide) F39 (np := 3) ?_ ?_
  · intro ts h; unfold F39; split <;> first | rfl | (simp at h; done)
  intro ts H r hF hwf
  unfold F39 at hF
  split at hF <;> try (cases hF; done)
  rename_i b n m
  split at hF
  case isFalse => cases hF
  rename_i hc
  obtain ⟨hb, h0, h1⟩ := hc
  cases hF
  have hn := inK_u64 (hwf (.int .u64 n) (by simp))
  repeat refine St trivial ct39 ?_
  refine AWP.loop (G := { k : Nat // k ≤ m.toNat }) (fun k => ⟨[(1, .t (.int .u64 (shrB k.1 n))), (2, .t (.int .i64 m)), (7, .own 0), (8, .t (.int .i64 (k.1 : Int)))], [.by (b ++ le k.1 n)]⟩)
    (fun k => m.toNat - k.1) ⟨0, by omega⟩ (Wt (And.intro (And.intro @shrB.eq_1 <| @shrB.eq_2) <| (And.intro @le.eq_1 <| @le.eq_2)) [1, 2, 7, 8] [1]) ?_
  intro ⟨k, hk⟩
  dsimp only
  by_cases hlt : (k : Int) < m
  · have hl : (b ++ le k n).length ≤ 549755813100 := by simp [le_len]; omega
    have hr := shrB_range k n hn.1 hn.2
    have hq : IntKind.u64.wrap ((shrB k n).tdiv 256) = (shrB k n).fdiv 256 := by
      rw [tdiv_256 hr.1]
      have := shrB_range (k + 1) n hn.1 hn.2
      exact wrap_u64 this.1 this.2
    repeat refine St (And.intro hq <| @le_len) ct39 ?_
    exact ⟨⟨k + 1, by omega⟩, (Wt (And.intro (And.intro @shrB.eq_1 <| @shrB.eq_2) <| And.intro (And.intro @le.eq_1 <| @le.eq_2) <| @List.append_assoc.{0}) [1, 2, 7, 8] [2]), by simp only; omega⟩
  · obtain rfl : k = m.toNat := by omega
    repeat refine St trivial ct39 ?_
    exact AWP.ret (Fin trivial [] [0])

theorem put_c {b : List UInt8} (n : Int) (m : Int) (hb : b.length ≤ 549755813000) (h0 : 0 ≤ m) (h1 : m ≤ 16) : F39 [.by b, .int .u64 n, .int .i64 m] = some ([.by (b ++ le m.toNat n)], .own 0) := if_pos ⟨hb, h0, h1⟩

def F78 : Fun
  | [.by b, .int .u64 n] => if b.length ≤ 549755812000 then some ([.by (b ++ sizeB n)], .own 0) else none
  | _ => none

theorem ct78 : CT [(39, ⟨[false, false, false], treeG F39⟩)] [0, 1, 4, 5, 11, 18] [] := ⟨(.cons c39.g (.nil _))⟩

theorem c78 : ACon Try.prog 78 F78 := by
  refine aconc E_ok (rs := [.tmp 4 22]) Try.func78 rfl Try.ntmps78 (by kernel_rfl) rfl (by decide) F78 (np := 2) ?_ ?_
  · intro ts h; unfold F78; split <;> first | rfl | (simp at h; done)
  intro ts H r hF hwf
  unfold F78 at hF
  split at hF <;> try (cases hF; done)
  rename_i b n
  split at hF
  case isFalse => cases hF
  rename_i hc
  have hb := hc
  cases hF
  have hn := inK_u64 (hwf (.int .u64 n) (by simp))
  have h8 : ∀ c : Int, F39 [.by b, .int .u64 c, .int .i64 1] = some ([.by (b ++ le 1 c)], .own 0) := fun c => put_c c 1 (by omega) (by omega) (by omega)
  have hl : ∀ c : Int, (b ++ le 1 c).length ≤ 549755813000 := fun c => by simp [le_len]; omega
  have h16 : ∀ c d : Int, F39 [.by (b ++ le 1 c), .int .u64 d, .int .i64 2] = some ([.by (b ++ le 1 c ++ le 2 d)], .own 0) := fun c d => put_c d 2 (hl c) (by omega) (by omega)
  have h32 : ∀ c d : Int, F39 [.by (b ++ le 1 c), .int .u64 d, .int .i64 4] = some ([.by (b ++ le 1 c ++ le 4 d)], .own 0) := fun c d => put_c d 4 (hl c) (by omega) (by omega)
  have h64 : ∀ c d : Int, F39 [.by (b ++ le 1 c), .int .u64 d, .int .i64 8] = some ([.by (b ++ le 1 c ++ le 8 d)], .own 0) := fun c d => put_c d 8 (hl c) (by omega) (by omega)
  by_cases h1 : n < 253
  · repeat refine St h8 ct78 ?_
    exact AWP.ret (Fin (And.intro @sizeB.eq_def <| h1) [] [0])
  by_cases h2 : n < 65536
  · repeat refine St (And.intro h8 <| h16) ct78 ?_
    exact AWP.ret (Fin (And.intro @sizeB.eq_def <| And.intro h1 <| And.intro h2 <| @List.append_assoc.{0}) [] [1])
  by_cases h3 : n < 4294967296
  · repeat refine St (And.intro h8 <| h32) ct78 ?_
    exact AWP.ret (Fin (And.intro @sizeB.eq_def <| And.intro h1 <| And.intro h2 <| And.intro h3 <| @List.append_assoc.{0}) [] [1])
  repeat refine St (And.intro h8 <| h64) ct78 ?_
  exact AWP.ret (Fin (And.intro @sizeB.eq_def <| And.intro h1 <| And.intro h2 <| And.intro h3 <| @List.append_assoc.{0}) [] [1])

def F102 : Fun
  | [.by b, .by x] => if b.length + x.length ≤ 549755800000 then some ([.by (b ++ sizeB x.length ++ x)], .own 0) else none
  | _ => none

theorem ct102 : CT [(78, ⟨[false, false], treeG F78⟩)] [0, 1, 4, 5] [] := ⟨(.cons c78.g (.nil _))⟩

theorem c102 : ACon Try.prog 102 F102 := by
  refine aconc E_ok (rs := [.tmp 4 22]) Try.func102 rfl Try.ntmps102 (by kernel_rfl) rfl (by decide) F102 (np := 2) ?_ ?_
  · intro ts h; unfold F102; split <;> first | rfl | (simp at h; done)
  intro ts H r hF hwf
  unfold F102 at hF
  split at hF <;> try (cases hF; done)
  rename_i b x
  split at hF
  case isFalse => cases hF
  rename_i hc
  have hb := hc
  cases hF
  have hs := sizeB_len (x.length : Int)
  have h : F78 [.by b, .int .u64 (x.length : Int)] = some ([.by (b ++ sizeB x.length)], .own 0) := if_pos (by omega)
  have hl : (b ++ sizeB x.length).length ≤ 549755812000 := by simp; omega
  repeat refine St h ct102 ?_
  exact AWP.ret (Fin trivial [] [1])

def F100 : Fun
  | [.by b, .sq 1 xs] => match asBys xs with
    | some l => if b.length + (flat l).length ≤ 549755700000 then some ([.by (b ++ sizeB l.length ++ flat l)], .own 0) else none
    | none => none
  | _ => none

theorem ct100 : CT [(78, ⟨[false, false], treeG F78⟩), (102, ⟨[false, false], treeG F102⟩)] [0, 1, 4, 5, 6, 15] [] := ⟨(.cons c78.g (.cons c102.g (.nil _)))⟩

theorem c100 : ACon Try.prog 100 F100 := by
  refine aconc E_ok (rs := [.tmp 4 22]) Try.func100 rfl Try.ntmps100 (by kernel_rfl) rfl (by decide) F100 (np := 2) ?_ ?_
  · intro ts h; unfold F100; split <;> first | rfl | (simp at h; done)
  intro ts H r hF hwf
  unfold F100 at hF
  split at hF <;> try (cases hF; done)
  rename_i b xs
  split at hF <;> try (cases hF; done)
  rename_i l hl
  split at hF
  case isFalse => cases hF
  rename_i hc
  have hb := hc
  cases hF
  obtain rfl := asBys_inv hl
  have hlen := len_le_flat l
  have hs := sizeB_len (l.length : Int)
  have h : F78 [.by b, .int .u64 (l.length : Int)] = some ([.by (b ++ sizeB l.length)], .own 0) := if_pos (by omega)
  repeat refine St h ct100 ?_
  refine AWP.loop (G := { k : Nat // k ≤ l.length }) (fun k => ⟨[(1, .t (.sq 1 (l.map .by))), (5, .own 0), (6, .t (.int .i64 (k.1 : Int)))], [.by (b ++ sizeB l.length ++ flat (l.take k.1))]⟩)
    (fun k => l.length - k.1) ⟨0, by omega⟩ (Wt (And.intro @List.take_zero.{0} <| (And.intro @flat.eq_1 <| @flat.eq_2)) [1, 5, 6] [0]) ?_
  intro ⟨k, hk⟩
  dsimp only
  by_cases hlt : (k : Int) < (l.length : Int)
  · have hlt' : k < l.length := by omega
    have hget := map_getD l k hlt'
    have hfl := flat_get_len l k hlt'
    have hft := flat_take l k hlt'
    have h2 : F102 [.by (b ++ sizeB l.length ++ flat (l.take k)), .by (l.getD k [])] = some ([.by (b ++ sizeB l.length ++ flat (l.take k) ++ sizeB (l.getD k []).length ++ l.getD k [])], .own 0) := if_pos (by simp only [List.length_append]; omega)
    repeat refine St (And.intro hlt' <| And.intro hget <| h2) ct100 ?_
    exact ⟨⟨k + 1, by omega⟩, (Wt (And.intro hft <| @List.append_assoc.{0}) [1, 5, 6] [1]), by simp only; omega⟩
  · obtain rfl : k = l.length := by omega
    repeat refine St trivial ct100 ?_
    exact AWP.ret (Fin (@List.take_length.{0}) [] [0])

end Go.Fw

end

section
/- compact's answer: bytes taken apart. -/
namespace Go.Fw
open Go Go.Proofs
set_option linter.unusedVariables false
set_option linter.unusedSimpArgs false

def F88 : Fun
  | [.by b, .int .i64 n] => if b.length ≤ 549755813000 then some ([], .tup [.t (.by (spA b n)), .t (.by (spB b n)), .t (.int .i64 (spE b n))]) else none
  | _ => none

theorem ct88 : CT [] [0, 1, 4, 5, 6, 7, 8, 10, 14] [] := ⟨GClOk.nil _⟩

theorem c88 : ACon Try.prog 88 F88 := by
  refine aconc E_ok (rs := [.tmp 4 22, .tmp 5 22, .tmp 6 31]) Try.func88 rfl Try.ntmps88 (by kernel_rfl) rfl (by decide) F88 (np := 2) ?_ ?_
  · intro ts h; unfold F88; split <;> first | rfl | (simp at h; done)
  intro ts H r hF hwf
  unfold F88 at hF
  split at hF <;> try (cases hF; done)
  rename_i b n
  split at hF
  case isFalse => cases hF
  rename_i hc
  have hb := hc
  cases hF
  by_cases h1 : n < 0
  · repeat refine St trivial ct88 ?_
    exact AWP.ret (Fin (And.intro @spA.eq_def <| And.intro @spB.eq_def <| And.intro @spE.eq_def <| h1) [] [])
  by_cases h2 : (b.length : Int) < n
  · repeat refine St trivial ct88 ?_
    exact AWP.ret (Fin (And.intro @spA.eq_def <| And.intro @spB.eq_def <| And.intro @spE.eq_def <| And.intro h1 <| h2) [] [])
  repeat refine St trivial ct88 ?_
  exact AWP.ret (Fin (And.intro @spA.eq_def <| And.intro @spB.eq_def <| And.intro @spE.eq_def <| And.intro h1 <| h2) [1, 3] [])

def F59 : Fun
  | [.by b, .int .i64 n] => if b.length ≤ 549755813000 ∧ n ≤ 8 then some ([], .tup [.t (.int .u64 (num (spA b n))), .t (.by (spB b n)), .t (.int .i64 (spE b n))]) else none
  | _ => none

theorem ct59 : CT [(88, ⟨[false, false], treeG F88⟩)] [0, 1, 4, 5, 6, 7, 8, 9, 10, 11, 23] [] := ⟨(.cons c88.g (.nil _))⟩

theorem c59 : ACon Try.prog 59 F59 := by
  refine aconc E_ok (rs := [.tmp 4 57, .tmp 5 22, .tmp 6 31]) Try.func59 rfl Try.ntmps59 (by kernel_rfl) rfl (by decide) F59 (np := 2) ?_ ?_
  · intro ts h; unfold F59; split <;> first | rfl | (simp at h; done)
  intro ts H r hF hwf
  unfold F59 at hF
  split at hF <;> try (cases hF; done)
  rename_i b n
  split at hF
  case isFalse => cases hF
  rename_i hc
  obtain ⟨hb, hn⟩ := hc
  cases hF
  have h8 := spA_le b n 8 hn
  have ht : F88 [.by b, .int .i64 n] = some ([], .tup [.t (.by (spA b n)), .t (.by (spB b n)), .t (.int .i64 (spE b n))]) := if_pos hb
  generalize hx : spA b n = x at *
  repeat refine St ht ct59 ?_
  have hz : num (x.drop x.length) = 0 := by simp [num]
  refine AWP.loop (G := { k : Nat // k ≤ x.length }) (fun k => ⟨[(7, .t (.by x)), (8, .t (.by (spB b n))), (9, .t (.int .i64 (spE b n))), (10, .t (.int .u64 (num (x.drop k.1)))), (11, .t (.int .i64 ((k.1 : Int) - 1)))], []⟩)
    (fun k => k.1) ⟨x.length, by omega⟩ (Wt (And.intro hz <| (And.intro @num.eq_1 <| @num.eq_2)) [7, 8, 9, 10, 11] []) ?_
  intro ⟨k, hk⟩
  dsimp only
  by_cases hlt : 0 ≤ (k : Int) - 1
  · obtain ⟨j, rfl⟩ : ∃ j, k = j + 1 := ⟨k - 1, by omega⟩
    have hj : (((j + 1 : Nat) : Int) - 1) = (j : Int) := by omega
    have hd := num_drop x j (by omega)
    have h88 := num_lt8 (x.drop j) (by simp; omega)
    have hc := (x.getD j 0).toNat_lt
    have hw1 : IntKind.u64.wrap ((num (x.drop (j + 1)) : Int) * 256) = (num (x.drop (j + 1)) : Int) * 256 := wrap_u64 (by omega) (by omega)
    have hw2 : IntKind.u64.wrap ((x.getD j 0).toNat : Int) = ((x.getD j 0).toNat : Int) := wrap_u64 (by omega) (by omega)
    have hw3 : IntKind.u64.wrap ((num (x.drop (j + 1)) : Int) * 256 + ((x.getD j 0).toNat : Int)) = (num (x.drop j) : Int) := by rw [wrap_u64 (by omega) (by omega)]; omega
    have hjx : j < x.length := by omega
    repeat refine St (And.intro hj <| And.intro hw1 <| And.intro hw2 <| And.intro hw3 <| hjx) ct59 ?_
    exact ⟨⟨j, by omega⟩, (Wt trivial [7, 8, 9, 10, 11] []), by simp only; omega⟩
  · obtain rfl : k = 0 := by omega
    repeat refine St trivial ct59 ?_
    exact AWP.ret (Fin (@List.drop_zero.{0}) [] [])

theorem number_c (l : List UInt8) (n : Int) (h0 : l.length ≤ 549755813000) (h : n ≤ 8) : F59 [.by l, .int .i64 n] = some ([], .tup [.t (.int .u64 (num (spA l n))), .t (.by (spB l n)), .t (.int .i64 (spE l n))]) := if_pos ⟨h0, h⟩

def F32 : Fun
  | [.by b] => if b.length ≤ 549755813000 then some ([], .tup [.t (.int .u64 ((sz b).1 : Nat)), .t (.by (sz b).2.1), .t (.int .i64 (sz b).2.2)]) else none
  | _ => none

theorem ct32 : CT [(59, ⟨[false, false], treeG F59⟩)] [0, 2, 3, 4, 5, 6, 7, 8, 9, 21, 26, 28, 42] [] := ⟨(.cons c59.g (.nil _))⟩

set_option maxHeartbeats 2000000 in
theorem c32 : ACon Try.prog 32 F32 := by
  refine aconc E_ok (rs := [.tmp 2 57, .tmp 3 22, .tmp 4 31]) Try.func32 rfl Try.ntmps32 (by kernel_rfl) rfl (by decide) F32 (np := 1) ?_ ?_
  · intro ts h; unfold F32; split <;> first | rfl | (simp at h; done)
  intro ts H r hF hwf
  unfold F32 at hF
  split at hF <;> try (cases hF; done)
  rename_i b
  split at hF
  case isFalse => cases hF
  rename_i hc
  have hb := hc
  cases hF
  have hl := spB_len b 1
  have r1 := number_c b 1 (by omega) (by omega)
  have r2 := number_c (spB b 1) 2 (by omega) (by omega)
  have r4 := number_c (spB b 1) 4 (by omega) (by omega)
  have r8 := number_c (spB b 1) 8 (by omega) (by omega)
  have hsz := sz.eq_1 b
  have hbad := @sp_bad b 1
  have hlt := num_lt1 (spA b 1) (spA_le b 1 1 (by omega))
  have b2 := @sp_bad (spB b 1) 2
  have b4 := @sp_bad (spB b 1) 4
  have b8 := @sp_bad (spB b 1) 8
  generalize sz b = R at *
  generalize spB b 1 = y at *
  by_cases h1 : spE b 1 = 0
  case neg =>
    simp only [h1, ne_eq, not_false_eq_true, if_true] at hsz
    obtain ⟨e1, e2⟩ := hbad h1
    subst e2
    rw [e1] at r1
    have h1' : (spE b 1 != 0) = true := by simpa using h1
    repeat refine St (And.intro r1 <| h1') ct32 ?_
    exact AWP.ret (Fin (And.intro hsz <| (And.intro @num.eq_1 <| @num.eq_2)) [] [])
  simp only [h1, ne_eq, not_true_eq_false, if_false] at hsz
  rw [h1] at r1
  obtain ⟨x, hx⟩ : ∃ x : Nat, num (spA b 1) = x := ⟨_, rfl⟩
  rw [hx] at hsz r1 hlt
  by_cases h253 : x = 253
  case pos =>
    subst h253
    simp only [Nat.reduceEqDiff, if_true, if_false] at hsz
    unfold rdR at hsz
    by_cases k1 : spE y 2 = 0
    case neg =>
      simp only [k1, ne_eq, not_false_eq_true, if_true] at hsz
      obtain ⟨e1, e2⟩ := b2 k1
      rw [e1, e2] at r2
      have k1' : (spE y 2 == 0) = false := by simpa using k1
      repeat refine St (And.intro r1 <| And.intro r2 <| k1') ct32 ?_
      exact AWP.ret (Fin (And.intro hsz <| (And.intro @num.eq_1 <| @num.eq_2)) [] [])
    simp only [k1, ne_eq, not_true_eq_false, if_false] at hsz
    rw [k1] at r2
    split at hsz
    · repeat refine St (And.intro r1 <| r2) ct32 ?_
      exact AWP.ret (Fin hsz [] [])
    · repeat refine St (And.intro r1 <| r2) ct32 ?_
      exact AWP.ret (Fin hsz [] [])
  by_cases h254 : x = 254
  case pos =>
    subst h254
    simp only [Nat.reduceEqDiff, if_true, if_false] at hsz
    unfold rdR at hsz
    by_cases k1 : spE y 4 = 0
    case neg =>
      simp only [k1, ne_eq, not_false_eq_true, if_true] at hsz
      obtain ⟨e1, e2⟩ := b4 k1
      rw [e1, e2] at r4
      have k1' : (spE y 4 == 0) = false := by simpa using k1
      repeat refine St (And.intro r1 <| And.intro r4 <| k1') ct32 ?_
      exact AWP.ret (Fin (And.intro hsz <| (And.intro @num.eq_1 <| @num.eq_2)) [] [])
    simp only [k1, ne_eq, not_true_eq_false, if_false] at hsz
    rw [k1] at r4
    split at hsz
    · repeat refine St (And.intro r1 <| r4) ct32 ?_
      exact AWP.ret (Fin hsz [] [])
    · repeat refine St (And.intro r1 <| r4) ct32 ?_
      exact AWP.ret (Fin hsz [] [])
  by_cases h255 : x = 255
  case pos =>
    subst h255
    simp only [Nat.reduceEqDiff, if_true, if_false] at hsz
    unfold rdR at hsz
    by_cases k1 : spE y 8 = 0
    case neg =>
      simp only [k1, ne_eq, not_false_eq_true, if_true] at hsz
      obtain ⟨e1, e2⟩ := b8 k1
      rw [e1, e2] at r8
      have k1' : (spE y 8 == 0) = false := by simpa using k1
      repeat refine St (And.intro r1 <| And.intro r8 <| k1') ct32 ?_
      exact AWP.ret (Fin (And.intro hsz <| (And.intro @num.eq_1 <| @num.eq_2)) [] [])
    simp only [k1, ne_eq, not_true_eq_false, if_false] at hsz
    rw [k1] at r8
    split at hsz
    · repeat refine St (And.intro r1 <| r8) ct32 ?_
      exact AWP.ret (Fin hsz [] [])
    · repeat refine St (And.intro r1 <| r8) ct32 ?_
      exact AWP.ret (Fin hsz [] [])
  simp only [h253, h254, h255, if_false] at hsz
  repeat refine St r1 ct32 ?_
  exact AWP.ret (Fin hsz [] [])

def F112 : Fun
  | [.int .u64 n, .int .i64 most] => some ([], .t (.bool (decide (most < 0 ∨ most < n))))
  | _ => none

theorem ct112 : CT [] [0, 1, 4] [] := ⟨GClOk.nil _⟩

theorem c112 : ACon Try.prog 112 F112 := by
  refine aconc E_ok (rs := [.tmp 4 4]) Try.func112 rfl Try.ntmps112 (by kernel_rfl) rfl (by decide) F112 (np := 2) ?_ ?_
  · intro ts h; unfold F112; split <;> first | rfl | (simp at h; done)
  intro ts H r hF hwf
  unfold F112 at hF
  split at hF <;> try (cases hF; done)
  rename_i n most
  cases hF
  have hm := inK_i64 (hwf (.int .i64 most) (by simp))
  by_cases h1 : most < 0
  · repeat refine St h1 ct112 ?_
    exact AWP.ret (Fin h1 [] [])
  · have hw : IntKind.u64.wrap most = most := wrap_u64 (by omega) (by omega)
    repeat refine St (And.intro h1 <| hw) ct112 ?_
    exact AWP.ret (Fin h1 [] [])

def F89 : Fun
  | [.by b, .int .i64 most] => if b.length ≤ 549755813000 then some ([], .tup [.t (.by (lim b most).1), .t (.by (lim b most).2.1), .t (.int .i64 (lim b most).2.2)]) else none
  | _ => none

theorem ct89 : CT [(32, ⟨[false], treeG F32⟩), (88, ⟨[false, false], treeG F88⟩), (112, ⟨[false, false], treeG F112⟩)] [0, 1, 4, 5, 6, 7, 8, 9, 17, 21, 26] [] := ⟨(.cons c32.g (.cons c88.g (.cons c112.g (.nil _))))⟩

theorem c89 : ACon Try.prog 89 F89 := by
  refine aconc E_ok (rs := [.tmp 4 22, .tmp 5 22, .tmp 6 31]) Try.func89 rfl Try.ntmps89 (by kernel_rfl) rfl (by decide) F89 (np := 2) ?_ ?_
  · intro ts h; unfold F89; split <;> first | rfl | (simp at h; done)
  intro ts H r hF hwf
  unfold F89 at hF
  split at hF <;> try (cases hF; done)
  rename_i b most
  split at hF
  case isFalse => cases hF
  rename_i hc
  have hb := hc
  cases hF
  have hm := inK_i64 (hwf (.int .i64 most) (by simp))
  have hsl := sz_len b
  have hs : F32 [.by b] = some ([], .tup [.t (.int .u64 ((sz b).1 : Nat)), .t (.by (sz b).2.1), .t (.int .i64 (sz b).2.2)]) := if_pos hb
  have hl := lim.eq_1 b most
  unfold bnd at hl
  generalize lim b most = R at *
  generalize sz b = Z at *
  obtain ⟨n, q, e⟩ := Z
  dsimp only at hsl hs hl
  by_cases h1 : e = 0
  case neg =>
    simp only [h1, ne_eq, not_false_eq_true, if_true] at hl
    repeat refine St (And.intro hs <| h1) ct89 ?_
    exact AWP.ret (Fin hl [] [])
  subst h1
  simp only [ne_eq, not_true_eq_false, if_false] at hl
  by_cases h2 : most < 0 ∨ most < (n : Int)
  · simp only [h2, if_true, show ¬ (4 : Int) = 0 by omega, not_false_eq_true] at hl
    repeat refine St (And.intro hs <| And.intro @F112.eq_def <| h2) ct89 ?_
    exact AWP.ret (Fin hl [] [])
  simp only [h2, if_false, not_true_eq_false] at hl
  by_cases h3 : (q.length : Int) < (n : Int)
  · repeat refine St (And.intro hs <| And.intro @F112.eq_def <| And.intro h2 <| h3) ct89 ?_
    exact AWP.ret (Fin (And.intro hl <| And.intro @spA.eq_def <| And.intro @spB.eq_def <| And.intro @spE.eq_def <| And.intro h3 <| (show ¬ (n : Int) < 0 by omega)) [] [])
  have ht : F88 [.by q, .int .i64 (n : Int)] = some ([], .tup [.t (.by (spA q n)), .t (.by (spB q n)), .t (.int .i64 (spE q n))]) := if_pos (by omega)
  repeat refine St (And.intro hs <| And.intro @F112.eq_def <| And.intro h2 <| And.intro h3 <| ht) ct89 ?_
  exact AWP.ret (Fin hl [] [])

def F90 : Fun
  | [.by b, .int .i64 many, .int .i64 most] => if b.length ≤ 549755812000 then some ([], .tup [.t (.sq 1 ((lst b many most).1.map .by)), .t (.by (lst b many most).2.1), .t (.int .i64 (lst b many most).2.2)]) else none
  | _ => none

theorem ct90 : CT [(32, ⟨[false], treeG F32⟩), (89, ⟨[false, false], treeG F89⟩), (112, ⟨[false, false], treeG F112⟩)] [0, 1, 2, 6, 7, 8, 9, 10, 11, 12, 13, 14, 15, 16, 24, 28, 32, 43] [] := ⟨(.cons c32.g (.cons c89.g (.cons c112.g (.nil _))))⟩

theorem c90 : ACon Try.prog 90 F90 := by
  refine aconc E_ok (rs := [.tmp 6 88, .tmp 7 22, .tmp 8 31]) Try.func90 rfl Try.ntmps90 (by kernel_rfl) rfl (by decide) F90 (np := 3) ?_ ?_
  · intro ts h; unfold F90; split <;> first | rfl | (simp at h; done)
  intro ts H r hF hwf
  unfold F90 at hF
  split at hF <;> try (cases hF; done)
  rename_i b many most
  split at hF
  case isFalse => cases hF
  rename_i hc
  have hb := hc
  cases hF
  have hm := inK_i64 (hwf (.int .i64 many) (by simp))
  have hsl := sz_len b
  have hs : F32 [.by b] = some ([], .tup [.t (.int .u64 ((sz b).1 : Nat)), .t (.by (sz b).2.1), .t (.int .i64 (sz b).2.2)]) := if_pos (by omega)
  have hl := lst.eq_1 b many most
  unfold bnd at hl
  generalize lst b many most = R at *
  generalize sz b = Z at *
  obtain ⟨n, q, e⟩ := Z
  dsimp only at hsl hs hl
  by_cases h1 : e = 0
  case neg =>
    simp only [h1, ne_eq, not_false_eq_true, if_true] at hl
    repeat refine St (And.intro hs <| h1) ct90 ?_
    exact AWP.ret (Fin (And.intro hl <| @List.map_nil.{0, 0}) [] [])
  subst h1
  simp only [ne_eq, not_true_eq_false, if_false] at hl
  by_cases h2 : many < 0 ∨ many < (n : Int)
  · simp only [h2, if_true, show ¬ (4 : Int) = 0 by omega, not_false_eq_true] at hl
    repeat refine St (And.intro hs <| And.intro @F112.eq_def <| h2) ct90 ?_
    exact AWP.ret (Fin (And.intro hl <| @List.map_nil.{0, 0}) [] [])
  simp only [h2, if_false, not_true_eq_false] at hl
  subst hl
  repeat refine St (And.intro hs <| And.intro @F112.eq_def <| h2) ct90 ?_
  refine AWP.loop (G := { p : Nat × List (List UInt8) × List UInt8 // p.1 ≤ n ∧ p.2.1.length = p.1 ∧ p.2.1.length + p.2.2.length ≤ q.length ∧ tkF most (n - p.1) p.2.1 p.2.2 = tkF most n [] q })
    (fun p => ⟨[(2, .t (.int .i64 most)), (9, .t (.int .u64 n)), (10, .t (.by p.1.2.2)), (12, .own 0), (13, .t (.int .u64 (p.1.1 : Int)))], [.sq 1 (p.1.2.1.map .by)]⟩)
    (fun p => n - p.1.1) ⟨(0, [], q), by simp⟩ (Wt trivial [2, 9, 10, 12, 13] [0]) ?_
  intro ⟨⟨k, acc, r⟩, hk, ha, hr, ht⟩
  dsimp only at hk ha hr ht ⊢
  by_cases hkn : (k : Int) < (n : Int)
  · have hs : n - k = (n - (k + 1)) + 1 := by omega
    rw [hs, tkF_succ] at ht
    obtain ⟨hlm1, hlm2⟩ := lim_len r most
    have htb : F89 [.by r, .int .i64 most] = some ([], .tup [.t (.by (lim r most).1), .t (.by (lim r most).2.1), .t (.int .i64 (lim r most).2.2)]) := if_pos (by omega)
    by_cases h3 : (lim r most).2.2 = 0
    · rw [if_neg (by simp [h3])] at ht
      have he := lim_eat h3
      have hal : (acc.map T.by).length ≤ 549755812000 := by simp; omega
      repeat refine St (And.intro htb <| hal) ct90 ?_
      exact ⟨⟨(k + 1, acc ++ [(lim r most).1], (lim r most).2.1), by omega, by simp; omega, by simp; omega, ht⟩, (Wt @map_snoc [2, 9, 10, 12, 13] [2]), by simp only; omega⟩
    · rw [if_pos h3] at ht
      repeat refine St htb ct90 ?_
      exact AWP.ret (Fin (And.intro ht.symm <| @List.map_nil.{0, 0}) [] [])
  · obtain rfl : k = n := by omega
    rw [Nat.sub_self] at ht
    repeat refine St trivial ct90 ?_
    exact AWP.ret (Fin (And.intro ht.symm <| (And.intro @tkF.eq_1 <| @tkF.eq_2)) [0] [])

def F65 : Fun
  | [.sq 1 xs, .sq 1 ys] => match asBys xs, asBys ys with
    | some l, some k => some ([], .t (.bool (l == k)))
    | _, _ => none
  | _ => none

theorem ct65 : CT [] [0, 1, 4, 5, 10, 14, 27] [(6, [⟨0, [0], [], []⟩, ⟨0, [5], [], []⟩, ⟨1, [17, 18], [], []⟩, ⟨1, [19], [2], []⟩, ⟨1, [20], [2, 3], []⟩, ⟨0, [1], [], []⟩, ⟨0, [5], [], []⟩, ⟨1, [22, 23], [], []⟩, ⟨1, [24], [7], []⟩, ⟨1, [25], [7, 8], []⟩, ⟨0, [21, 26], [2, 3, 4, 7, 8, 9], []⟩])] := ⟨GClOk.nil _⟩

theorem c65 : ACon Try.prog 65 F65 := by
  refine aconc E_ok (rs := [.tmp 4 4]) Try.func65 rfl Try.ntmps65 (by kernel_rfl) rfl (by decide) F65 (np := 2) ?_ ?_
  · intro ts h; unfold F65; split <;> first | rfl | (simp at h; done)
  intro ts H r hF hwf
  unfold F65 at hF
  split at hF <;> try (cases hF; done)
  rename_i xs ys
  split at hF <;> try (cases hF; done)
  rename_i l m hl hm
  cases hF
  obtain rfl := asBys_inv hl
  obtain rfl := asBys_inv hm
  have hg : l.length ≤ maxLen := wf_rows (hwf (.sq 1 (l.map .by)) (by simp))
  unfold maxLen at hg
  by_cases hlen : l.length = m.length
  case neg =>
    have hb : ((l.length : Int) != (m.length : Int)) = true := by simp; omega
    have hne : (l == m) = false := by simp; intro h; exact hlen (by rw [h])
    repeat refine St hb ct65 ?_
    exact AWP.ret (Fin hne [] [])
  have hb : ((l.length : Int) != (m.length : Int)) = false := by simp; omega
  repeat refine St hb ct65 ?_
  refine AWP.loop (G := { k : Nat // k ≤ l.length ∧ l.take k = m.take k }) (fun k => ⟨[(0, .t (.sq 1 (l.map .by))), (1, .t (.sq 1 (m.map .by))), (5, .t (.int .i64 (k.1 : Int)))], []⟩)
    (fun k => l.length - k.1) ⟨0, by simp⟩ (Wt trivial [0, 1, 5] []) ?_
  intro ⟨k, hk, heq⟩
  dsimp only
  by_cases hlt : (k : Int) < (l.length : Int)
  · have hlt' : k < l.length := by omega
    have hlt2 : k < m.length := by omega
    have hget := map_getD l k hlt'
    have hget2 := map_getD m k hlt2
    by_cases he : l.getD k [] = m.getD k []
    · have hbe : (m.getD k [] == m.getD k []) = true := beq_self_eq_true _
      rw [he] at hget
      repeat refine St (And.intro hlt' <| And.intro hlt2 <| And.intro hget <| And.intro hget2 <| hbe) ct65 ?_
      exact ⟨⟨k + 1, by omega, by rw [take_getD l k hlt', take_getD m k hlt2, heq, he]⟩, (Wt trivial [0, 1, 5] []), by simp only; omega⟩
    · have hbe : (l.getD k [] == m.getD k []) = false := by simpa using he
      have hne : (l == m) = false := by simp only [beq_eq_false_iff_ne]; intro h; exact he (by rw [h])
      repeat refine St (And.intro hlt' <| And.intro hlt2 <| And.intro hget <| And.intro hget2 <| hbe) ct65 ?_
      exact AWP.ret (Fin hne [] [])
  · obtain rfl : k = l.length := by omega
    have hlm : l = m := by rw [List.take_length, hlen, List.take_length] at heq; exact heq
    have hne : (l == m) = true := by rw [hlm]; exact beq_self_eq_true _
    repeat refine St trivial ct65 ?_
    exact AWP.ret (Fin hne [] [])

end Go.Fw

end

section
/- Chapter 7's answer: turning, padding. -/
namespace Go.Fw
open Go Go.Proofs
set_option linter.unusedVariables false
set_option linter.unusedSimpArgs false

theorem wordR (a b c d : UInt32) : ((a <<< 8 ||| b) <<< 8 ||| c) <<< 8 ||| d = a <<< 24 ||| b <<< 16 ||| c <<< 8 ||| d := by
  have h1 : ∀ x : UInt32, x <<< 8 <<< 8 = x <<< 16 := fun x => by
    rw [← UInt32.shiftLeft_add (by decide) (by decide) (by decide)]; rfl
  have h2 : ∀ x : UInt32, x <<< 16 <<< 8 = x <<< 24 := fun x => by
    rw [← UInt32.shiftLeft_add (by decide) (by decide) (by decide)]; rfl
  simp only [UInt32.shiftLeft_or, h1, h2]

def F115 : Fun
  | [.int .u32 n, .int .u64 k] => if 1 ≤ k ∧ k ≤ 31 then some ([], .t (u32T (tr (UInt32.ofNat n.toNat) k.toNat))) else none
  | _ => none

theorem ct115 : CT [] [0, 1, 4] [] := ⟨GClOk.nil _⟩

theorem c115 : ACon Try.prog 115 F115 := by
  refine aconc E_ok (rs := [.tmp 4 24]) Try.func115 rfl Try.ntmps115 (by kernel_rfl) rfl (by decide) F115 (np := 2) ?_ ?_
  · intro ts h; unfold F115; split <;> first | rfl | (simp at h; done)
  intro ts H r hF hwf
  unfold F115 at hF
  split at hF <;> try (cases hF; done)
  rename_i n k
  split at hF
  case isFalse => cases hF
  rename_i hc
  obtain ⟨h1, h2⟩ := hc
  cases hF
  have hn := u32_of (by have := hwf _ (List.mem_cons_self); simpa only [T.wf] using this : inK .u32 n)
  generalize UInt32.ofNat n.toNat = x at *
  subst hn
  obtain ⟨r, rfl⟩ : ∃ r : Nat, k = (r : Int) := ⟨k.toNat, by omega⟩
  have hk : IntKind.u64.wrap (32 - (r : Int)) = ((32 - r : Nat) : Int) := by rw [wrap_u64 (by omega) (by omega)]; omega
  have h4 := u32_shl x (32 - r) (by omega)
  have h5 := u32_shr x r (by omega)
  have e0 : ¬ (r : Int) < 0 := by omega
  have e1 : ¬ ((32 - r : Nat) : Int) < 0 := by omega
  repeat refine St (And.intro hk <| And.intro e0 <| And.intro e1 <| And.intro h4 <| And.intro h5 <| @u32_or) ct115 ?_
  exact AWP.ret (Fin (And.intro @u32T.eq_def <| @tr.eq_def) [] [])

theorem turn_c (x : UInt32) (r : Nat) (h : 1 ≤ r) (h1 : r ≤ 31) : F115 [.int .u32 (x.toNat : Int), .int .u64 (r : Int)] = some ([], .t (.int .u32 ((tr x r).toNat : Int))) := by
  simp only [F115]
  rw [if_pos ⟨by omega, by omega⟩]
  simp [u32T]
theorem turn2 (x : UInt32) : F115 [.int .u32 (x.toNat : Int), .int .u64 2] = some ([], .t (.int .u32 ((tr x 2).toNat : Int))) := turn_c x 2 (by omega) (by omega)
theorem turn6 (x : UInt32) : F115 [.int .u32 (x.toNat : Int), .int .u64 6] = some ([], .t (.int .u32 ((tr x 6).toNat : Int))) := turn_c x 6 (by omega) (by omega)
theorem turn7 (x : UInt32) : F115 [.int .u32 (x.toNat : Int), .int .u64 7] = some ([], .t (.int .u32 ((tr x 7).toNat : Int))) := turn_c x 7 (by omega) (by omega)
theorem turn11 (x : UInt32) : F115 [.int .u32 (x.toNat : Int), .int .u64 11] = some ([], .t (.int .u32 ((tr x 11).toNat : Int))) := turn_c x 11 (by omega) (by omega)
theorem turn13 (x : UInt32) : F115 [.int .u32 (x.toNat : Int), .int .u64 13] = some ([], .t (.int .u32 ((tr x 13).toNat : Int))) := turn_c x 13 (by omega) (by omega)
theorem turn17 (x : UInt32) : F115 [.int .u32 (x.toNat : Int), .int .u64 17] = some ([], .t (.int .u32 ((tr x 17).toNat : Int))) := turn_c x 17 (by omega) (by omega)
theorem turn18 (x : UInt32) : F115 [.int .u32 (x.toNat : Int), .int .u64 18] = some ([], .t (.int .u32 ((tr x 18).toNat : Int))) := turn_c x 18 (by omega) (by omega)
theorem turn19 (x : UInt32) : F115 [.int .u32 (x.toNat : Int), .int .u64 19] = some ([], .t (.int .u32 ((tr x 19).toNat : Int))) := turn_c x 19 (by omega) (by omega)
theorem turn22 (x : UInt32) : F115 [.int .u32 (x.toNat : Int), .int .u64 22] = some ([], .t (.int .u32 ((tr x 22).toNat : Int))) := turn_c x 22 (by omega) (by omega)
theorem turn25 (x : UInt32) : F115 [.int .u32 (x.toNat : Int), .int .u64 25] = some ([], .t (.int .u32 ((tr x 25).toNat : Int))) := turn_c x 25 (by omega) (by omega)

def F95 : Fun
  | [.by b] => if b.length ≤ 1000000000 then some ([.by (padS b b.length)], .own 0) else none
  | _ => none

theorem ct95 : CT [] [0, 2, 3, 4, 5, 15, 24] [] := ⟨GClOk.nil _⟩

theorem c95 : ACon Try.prog 95 F95 := by
  refine aconc E_ok (rs := [.tmp 2 22]) Try.func95 rfl Try.ntmps95 (by kernel_rfl) rfl (by decide) F95 (np := 1) ?_ ?_
  · intro ts h; unfold F95; split <;> first | rfl | (simp at h; done)
  intro ts H r hF hwf
  unfold F95 at hF
  split at hF <;> try (cases hF; done)
  rename_i r
  split at hF
  case isFalse => cases hF
  rename_i hc
  have hr := hc
  cases hF
  have e128 : ∀ l : List UInt8, (l ++ [128]).length = l.length + 1 := fun l => by simp
  repeat refine St (And.intro hr <| e128) ct95 ?_
  have hp64 : (r ++ UInt8.ofNat 128 :: repl (padK r.length) 0).length % 64 = 56 := by simp only [List.length_append, List.length_cons, repl_len, padK]; omega
  refine AWP.loop (G := { k : Nat // k ≤ padK r.length }) (fun k => ⟨[(0, .t (.by r)), (3, .own 0)], [.by (r ++ (UInt8.ofNat 128 :: repl k.1 0))]⟩) (fun k => padK r.length - k.1) ⟨0, by omega⟩ (Wt @repl_0 [0, 3] [3]) ?_
  intro ⟨k, hk⟩
  dsimp only
  obtain ⟨L, hL⟩ : ∃ L, r ++ (UInt8.ofNat 128 :: repl k (0 : UInt8)) = L := ⟨_, rfl⟩
  have hLl : L.length = r.length + 1 + k := by rw [← hL]; simp only [List.length_append, List.length_cons, repl_len]; omega
  have hnx : L ++ [UInt8.ofNat 0] = r ++ (UInt8.ofNat 128 :: repl (k + 1) 0) := by rw [← hL, ← repl_snoc]; simp
  rw [hL]
  have hrem : IntKind.i64.wrap (Int.tmod (L.length : Int) 64) = ((L.length % 64 : Nat) : Int) := by
    have : Int.tmod (L.length : Int) 64 = ((L.length % 64 : Nat) : Int) := by rw [Int.tmod_eq_emod_of_nonneg (by omega)]; omega
    rw [this, wrap_i64 (by omega) (by omega)]
  have hkK : padK r.length = (119 - r.length % 64) % 64 := rfl
  by_cases hd : L.length % 64 = 56
  · have hkk : k = padK r.length := by omega
    have hd' : (((L.length % 64 : Nat) : Int) != 56) = false := by simp; omega
    rw [← hkk] at hp64
    have hpad : padS r r.length = L ++ be8 (r.length * 8) 8 := by rw [← hL, hkk]; rfl
    have hcv : IntKind.u64.wrap (r.length : Int) = (r.length : Int) := wrap_u64 (by omega) (by omega)
    have hmul : IntKind.u64.wrap ((r.length : Int) * 8) = ((r.length * 8 : Nat) : Int) := by rw [wrap_u64 (by omega) (by omega)]; omega
    repeat refine St (And.intro hrem <| And.intro hd' <| And.intro hcv <| hmul) ct95 ?_
    refine AWP.loop (G := { j : Nat // j ≤ 8 }) (fun j => ⟨[(3, .own 0), (4, .t (.int .u64 ((r.length * 8 : Nat) : Int))), (5, .t (.int .i64 (j.1 : Int)))], [.by (L ++ be8 (r.length * 8) j.1)]⟩) (fun j => 8 - j.1) ⟨0, by omega⟩ (Wt (show be8 (r.length * 8) 0 = [] from rfl) [3, 4, 5] [0]) ?_
    intro ⟨j, hj⟩
    dsimp only
    have hbl := be8_len (r.length * 8) j
    by_cases hj8 : (j : Int) < 8
    · have hbyte := beB_eq r.length j (by omega) (by omega)
      have hm1 : IntKind.i64.wrap (8 * (j : Int)) = ((8 * j : Nat) : Int) := by rw [wrap_i64 (by omega) (by omega)]; omega
      have hm2 : IntKind.i64.wrap (56 - ((8 * j : Nat) : Int)) = ((56 - 8 * j : Nat) : Int) := by rw [wrap_i64 (by omega) (by omega)]; omega
      have hm3 : IntKind.u64.wrap ((56 - 8 * j : Nat) : Int) = ((56 - 8 * j : Nat) : Int) := wrap_u64 (by omega) (by omega)
      have hnn : ¬ ((56 - 8 * j : Nat) : Int) < 0 := by omega
      have hk8 : IntKind.i64.wrap ((j : Int) + 1) = ((j + 1 : Nat) : Int) := by rw [wrap_i64 (by omega) (by omega)]; omega
      have hsn : (L ++ be8 (r.length * 8) j) ++ [beB (r.length * 8) j] = L ++ be8 (r.length * 8) (j + 1) := by rw [List.append_assoc, be8_snoc]
      have hal : (L ++ be8 (r.length * 8) j).length ≤ 1000000300 := by simp [hbl]; omega
      obtain ⟨M, hM⟩ : ∃ M, L ++ be8 (r.length * 8) j = M := ⟨_, rfl⟩
      rw [hM] at hal hsn ⊢
      repeat refine St (And.intro hj8 <| And.intro hm1 <| And.intro hm2 <| And.intro hm3 <| And.intro hnn <| And.intro hbyte <| And.intro hk8 <| hal) ct95 ?_
      exact ⟨⟨j + 1, by omega⟩, (Wt hsn [3, 4, 5] [2]), by simp only; omega⟩
    · obtain rfl : j = 8 := by omega
      rw [← hpad]
      repeat refine St hj8 ct95 ?_
      exact AWP.ret (Fin trivial [] [0])
  · have hd' : (((L.length % 64 : Nat) : Int) != 56) = true := by simp; omega
    have hLs : L.length ≤ 1000000200 := by omega
    repeat refine St (And.intro hrem <| And.intro hd' <| hLs) ct95 ?_
    exact ⟨⟨k + 1, by omega⟩, (Wt hnx [0, 3] [2]), by simp only; omega⟩

end Go.Fw

end

section
/- Chapter 7's answer: a block. -/
namespace Go.Fw
open Go Go.Proofs
set_option linter.unusedVariables false
set_option linter.unusedSimpArgs false

/-- The first so many numbers added to. -/
def mixV (s v : S8) (i : Nat) : List T := ((s.add v).l.take i ++ v.l.drop i).map u32T
theorem mixV_len (s v : S8) : ∀ i, i ≤ 8 → (mixV s v i).length = 8
  | 0, _ => rfl | 1, _ => rfl | 2, _ => rfl | 3, _ => rfl | 4, _ => rfl | 5, _ => rfl | 6, _ => rfl | 7, _ => rfl | 8, _ => rfl
  | i + 9, h => by omega
theorem mixV_get (s v : S8) : ∀ i, i < 8 → (mixV s v i).getD i default = .int .u32 ((v.l.getD i 0).toNat : Int)
  | 0, _ => rfl | 1, _ => rfl | 2, _ => rfl | 3, _ => rfl | 4, _ => rfl | 5, _ => rfl | 6, _ => rfl | 7, _ => rfl
  | i + 8, h => by omega
theorem mixV_set0 (s v : S8) : ∀ i, i < 8 → (mixV s v i).set i (.int .u32 ((s.l.getD i 0 + v.l.getD i 0).toNat : Int)) = mixV s v (i + 1)
  | 0, _ => rfl | 1, _ => rfl | 2, _ => rfl | 3, _ => rfl | 4, _ => rfl | 5, _ => rfl | 6, _ => rfl | 7, _ => rfl
  | i + 8, h => by omega
theorem mixV_set (s v : S8) (i : Nat) (h : i < 8) : (mixV s v i).set i (.int .u32 ((v.l.getD i 0 + s.l.getD i 0).toNat : Int)) = mixV s v (i + 1) := by
  rw [UInt32.add_comm]; exact mixV_set0 s v i h
theorem mixV_0 (s v : S8) : mixV s v 0 = a8 v := rfl
theorem mixV_8 (s v : S8) : mixV s v 8 = (s.add v).l.map u32T := rfl
theorem clean_u32 (l : List UInt32) : T.cleanL (l.map u32T) = true := by
  induction l with
  | nil => rfl
  | cons x l ih => simp only [List.map_cons, T.cleanL, ih]; rfl
theorem sch_snoc (b : List UInt8) (t : Nat) : (sch b (t + 1)).map u32T = (sch b t).map u32T ++ [u32T (next b (sch b t) t)] := by simp [sch]

open Classical in
noncomputable def F96 : Fun
  | [.sq 1 hs, .sq 1 ks, .by b] => match asS8 hs with
    | some s => if ks = kS.map u32T ∧ b.length = 64 then some ([.sq 1 ((blkS s b).l.map u32T)], .own 0) else none
    | none => none
  | _ => none

theorem block_c (s : S8) {b : List UInt8} (h : b.length = 64) : F96 [.sq 1 (s.l.map u32T), .sq 1 (kS.map u32T), .by b] = some ([.sq 1 ((blkS s b).l.map u32T)], .own 0) := by
  simp only [F96, asS8_map]; rw [if_pos ⟨trivial, h⟩]

theorem ct96 : CT [(115, ⟨[false, false], treeG F115⟩)] [0, 1, 2, 6, 7, 8, 9, 10, 11, 12, 13, 14, 15, 16, 17, 18, 19, 20, 23, 27, 112, 211] [(6, (List.cons (⟨0, [7], [], []⟩ : Info) <| List.cons (⟨0, [2], [], []⟩ : Info) <| List.cons (⟨0, [8], [], []⟩ : Info) <| List.cons (⟨0, [30], [], []⟩ : Info) <| List.cons (⟨1, [29, 31], [], []⟩ : Info) <| List.cons (⟨1, [32], [4], []⟩ : Info) <| List.cons (⟨1, [33], [4, 5], []⟩ : Info) <| List.cons (⟨0, [34], [4, 5, 6], []⟩ : Info) <| List.cons (⟨0, [2], [], []⟩ : Info) <| List.cons (⟨0, [8], [], []⟩ : Info) <| List.cons (⟨0, [37], [], []⟩ : Info) <| List.cons (⟨0, [38], [], []⟩ : Info) <| List.cons (⟨1, [36, 39], [], []⟩ : Info) <| List.cons (⟨1, [40], [12], []⟩ : Info) <| List.cons (⟨1, [41], [12, 13], []⟩ : Info) <| List.cons (⟨0, [42], [12, 13, 14], []⟩ : Info) <| List.cons (⟨0, [35, 43], [4, 5, 6, 12, 13, 14], []⟩ : Info) <| List.cons (⟨0, [2], [], []⟩ : Info) <| List.cons (⟨0, [8], [], []⟩ : Info) <| List.cons (⟨0, [46], [], []⟩ : Info) <| List.cons (⟨0, [47], [], []⟩ : Info) <| List.cons (⟨1, [45, 48], [], []⟩ : Info) <| List.cons (⟨1, [49], [21], []⟩ : Info) <| List.cons (⟨1, [50], [21, 22], []⟩ : Info) <| List.cons (⟨0, [51], [21, 22, 23], []⟩ : Info) <| List.cons (⟨0, [44, 52], [4, 5, 6, 12, 13, 14, 21, 22, 23], []⟩ : Info) <| List.cons (⟨0, [2], [], []⟩ : Info) <| List.cons (⟨0, [8], [], []⟩ : Info) <| List.cons (⟨0, [55], [], []⟩ : Info) <| List.cons (⟨0, [56], [], []⟩ : Info) <| List.cons (⟨1, [54, 57], [], []⟩ : Info) <| List.cons (⟨1, [58], [30], []⟩ : Info) <| List.cons (⟨1, [59], [30, 31], []⟩ : Info) <| List.cons (⟨0, [53, 60], [4, 5, 6, 12, 13, 14, 21, 22, 23, 30, 31, 32], []⟩ : Info) <| List.cons (⟨1, [61], [4, 5, 6, 12, 13, 14, 21, 22, 23, 30, 31, 32], []⟩ : Info) <| List.cons (⟨2, [28, 62], [4, 5, 6, 12, 13, 14, 21, 22, 23, 30, 31, 32, 34], []⟩ : Info) <| List.cons (⟨0, [63], [4, 5, 6, 12, 13, 14, 21, 22, 23, 30, 31, 32, 34, 35], []⟩ : Info) <| [])), (7, [⟨0, [7], [], []⟩, ⟨0, [8], [], []⟩, ⟨0, [65], [], []⟩, ⟨1, [64, 66], [], []⟩, ⟨1, [67], [3], []⟩, ⟨0, [7], [], []⟩, ⟨0, [8], [], []⟩, ⟨0, [70], [], []⟩, ⟨1, [69, 71], [], []⟩, ⟨1, [72], [8], []⟩, ⟨0, [68], [3, 4], []⟩, ⟨0, [73], [3, 4, 8, 9], []⟩]), (10, [⟨0, [7], [], []⟩, ⟨0, [12], [], []⟩, ⟨0, [7], [], []⟩, ⟨0, [8], [], []⟩, ⟨0, [93], [], []⟩, ⟨1, [92, 94], [], []⟩, ⟨1, [95], [5], []⟩, ⟨0, [91, 96], [5, 6], []⟩, ⟨0, [11], [], []⟩, ⟨0, [97, 98], [5, 6], []⟩, ⟨0, [7], [], []⟩, ⟨0, [8], [], []⟩, ⟨0, [101], [], []⟩, ⟨1, [100, 102], [], []⟩, ⟨1, [103], [13], []⟩, ⟨0, [99, 104], [5, 6, 13, 14], []⟩, ⟨1, [105], [5, 6, 13, 14], []⟩, ⟨2, [90, 106], [5, 6, 13, 14, 16], []⟩, ⟨0, [107], [5, 6, 13, 14, 16, 17], []⟩]), (15, [⟨0, [13], [], []⟩, ⟨1, [115], [], []⟩, ⟨1, [116], [1], []⟩, ⟨0, [13], [], []⟩, ⟨1, [118], [], []⟩, ⟨1, [119], [4], []⟩, ⟨0, [13], [], []⟩, ⟨1, [121], [], []⟩, ⟨1, [122], [7], []⟩, ⟨0, [117], [1, 2], []⟩, ⟨0, [120], [1, 2, 4, 5], []⟩, ⟨0, [123], [1, 2, 4, 5, 7, 8], []⟩]), (16, (List.cons (⟨0, [13], [], []⟩ : Info) <| List.cons (⟨1, [124], [], []⟩ : Info) <| List.cons (⟨1, [125], [1], []⟩ : Info) <| List.cons (⟨0, [17], [], []⟩ : Info) <| List.cons (⟨1, [127], [], []⟩ : Info) <| List.cons (⟨0, [17], [], []⟩ : Info) <| List.cons (⟨1, [129], [4], []⟩ : Info) <| List.cons (⟨0, [128, 130], [4, 6], []⟩ : Info) <| List.cons (⟨0, [17], [], []⟩ : Info) <| List.cons (⟨1, [132], [4, 6], []⟩ : Info) <| List.cons (⟨0, [131, 133], [4, 6, 9], []⟩ : Info) <| List.cons (⟨0, [126, 134], [1, 2, 4, 6, 9], []⟩ : Info) <| List.cons (⟨0, [17], [], []⟩ : Info) <| List.cons (⟨0, [13], [], []⟩ : Info) <| List.cons (⟨1, [137], [], []⟩ : Info) <| List.cons (⟨1, [138], [14], []⟩ : Info) <| List.cons (⟨0, [136, 139], [14, 15], []⟩ : Info) <| List.cons (⟨0, [17], [], []⟩ : Info) <| List.cons (⟨0, [141], [], []⟩ : Info) <| List.cons (⟨0, [13], [], []⟩ : Info) <| List.cons (⟨1, [143], [], []⟩ : Info) <| List.cons (⟨1, [144], [20], []⟩ : Info) <| List.cons (⟨0, [142, 145], [20, 21], []⟩ : Info) <| List.cons (⟨0, [140, 146], [14, 15, 20, 21], []⟩ : Info) <| List.cons (⟨0, [135, 147], [1, 2, 4, 6, 9, 14, 15, 20, 21], []⟩ : Info) <| List.cons (⟨0, [1], [], []⟩ : Info) <| List.cons (⟨0, [14], [], []⟩ : Info) <| List.cons (⟨1, [149, 150], [], []⟩ : Info) <| List.cons (⟨1, [151], [27], []⟩ : Info) <| List.cons (⟨0, [148, 152], [1, 2, 4, 6, 9, 14, 15, 20, 21, 27, 28], []⟩ : Info) <| List.cons (⟨0, [7], [], []⟩ : Info) <| List.cons (⟨0, [14], [], []⟩ : Info) <| List.cons (⟨1, [154, 155], [], []⟩ : Info) <| List.cons (⟨1, [156], [32], []⟩ : Info) <| List.cons (⟨0, [153, 157], [1, 2, 4, 6, 9, 14, 15, 20, 21, 27, 28, 32, 33], []⟩ : Info) <| List.cons (⟨0, [158], [1, 2, 4, 6, 9, 14, 15, 20, 21, 27, 28, 32, 33], []⟩ : Info) <| [])), (17, [⟨0, [15], [], []⟩, ⟨1, [159], [], []⟩, ⟨0, [15], [], []⟩, ⟨1, [161], [1], []⟩, ⟨0, [160, 162], [1, 3], []⟩, ⟨0, [15], [], []⟩, ⟨1, [164], [1, 3], []⟩, ⟨0, [163, 165], [1, 3, 6], []⟩, ⟨0, [15], [], []⟩, ⟨0, [13], [], []⟩, ⟨1, [168], [], []⟩, ⟨1, [169], [10], []⟩, ⟨0, [167, 170], [10, 11], []⟩, ⟨0, [15], [], []⟩, ⟨0, [16], [], []⟩, ⟨0, [172, 173], [], []⟩, ⟨0, [171, 174], [10, 11], []⟩, ⟨0, [13], [], []⟩, ⟨1, [176], [], []⟩, ⟨1, [177], [18], []⟩, ⟨0, [16], [], []⟩, ⟨0, [178, 179], [18, 19], []⟩, ⟨0, [175, 180], [10, 11, 18, 19], []⟩, ⟨0, [166, 181], [1, 3, 6, 10, 11, 18, 19], []⟩, ⟨0, [182], [1, 3, 6, 10, 11, 18, 19], []⟩]), (18, [⟨0, [18], [], []⟩, ⟨0, [19], [], []⟩, ⟨0, [183, 184], [], []⟩, ⟨0, [13], [], []⟩, ⟨1, [186], [], []⟩, ⟨1, [187], [4], []⟩, ⟨0, [13], [], []⟩, ⟨1, [189], [], []⟩, ⟨1, [190], [7], []⟩, ⟨0, [13], [], []⟩, ⟨1, [192], [], []⟩, ⟨1, [193], [10], []⟩, ⟨0, [13], [], []⟩, ⟨1, [195], [], []⟩, ⟨1, [196], [13], []⟩, ⟨0, [18], [], []⟩, ⟨0, [197, 198], [13, 14], []⟩, ⟨0, [13], [], []⟩, ⟨1, [200], [], []⟩, ⟨1, [201], [18], []⟩, ⟨0, [13], [], []⟩, ⟨1, [203], [], []⟩, ⟨1, [204], [21], []⟩, ⟨0, [13], [], []⟩, ⟨1, [206], [], []⟩, ⟨1, [207], [24], []⟩, ⟨1, [185, 188, 191, 194, 199, 202, 205, 208], [4, 5, 7, 8, 10, 11, 13, 14, 18, 19, 21, 22, 24, 25], []⟩, ⟨0, [209], [4, 5, 7, 8, 10, 11, 13, 14, 18, 19, 21, 22, 24, 25, 26], []⟩]), (22, [⟨0, [13], [], []⟩, ⟨0, [20], [], []⟩, ⟨0, [13], [], []⟩, ⟨0, [20], [], []⟩, ⟨1, [216, 217], [], []⟩, ⟨1, [218], [4], []⟩, ⟨0, [0], [], []⟩, ⟨0, [20], [], []⟩, ⟨1, [220, 221], [], []⟩, ⟨1, [222], [8], []⟩, ⟨0, [219, 223], [4, 5, 8, 9], []⟩, ⟨1, [214, 215], [4, 5, 8, 9], []⟩, ⟨2, [224, 225], [4, 5, 8, 9, 11], []⟩])] := ⟨(.cons c115.g (.nil _))⟩

set_option maxRecDepth 100000 in
set_option maxHeartbeats 4000000 in
theorem c96 : ACon Try.prog 96 F96 := by
  refine aconc E_ok (rs := [.tmp 6 122]) Try.func96 rfl Try.ntmps96 (by kernel_rfl) rfl (by decide) F96 (np := 3) ?_ ?_
  · intro ts h; unfold F96; split <;> first | rfl | (simp at h; done)
  intro ts H r hF hwf
  unfold F96 at hF
  split at hF <;> try (cases hF; done)
  rename_i hs ks b
  split at hF
  case h_2 => cases hF
  rename_i s hs
  split at hF
  case isFalse => cases hF
  rename_i hc
  obtain ⟨hk, hb⟩ := hc
  cases hF
  subst hk
  obtain rfl := asS8_inv hs
  repeat refine St trivial ct96 ?_
  refine AWP.loop (G := { t : Nat // t ≤ 64 }) (fun t => ⟨[(0, .t (.sq 1 (s.l.map u32T))), (1, .t (.sq 1 (kS.map u32T))), (2, .t (.by b)), (7, .own 0), (8, .t (.int .i64 (t.1 : Int)))], [.sq 1 ((sch b t.1).map u32T)]⟩) (fun t => 64 - t.1) ⟨0, by omega⟩ (Wt (And.intro @sch.eq_1 <| @sch.eq_2) [0, 1, 2, 7, 8] [0]) ?_
  intro ⟨t, ht⟩
  dsimp only
  have hsl : (List.map u32T (sch b t)).length = t := by simp [sch_len]
  by_cases hlt : (t : Int) < 64
  case pos =>
    have hk1 : IntKind.i64.wrap ((t : Int) + 1) = ((t + 1 : Nat) : Int) := by rw [wrap_i64 (by omega) (by omega)]; omega
    have hsn := sch_snoc b t
    by_cases h16 : (t : Int) < 16
    · have m4 : IntKind.i64.wrap (4 * (t : Int)) = ((4 * t : Nat) : Int) := by rw [wrap_i64 (by omega) (by omega)]; omega
      have m41 : IntKind.i64.wrap (((4 * t : Nat) : Int) + 1) = ((4 * t + 1 : Nat) : Int) := by rw [wrap_i64 (by omega) (by omega)]; omega
      have m42 : IntKind.i64.wrap (((4 * t : Nat) : Int) + 2) = ((4 * t + 2 : Nat) : Int) := by rw [wrap_i64 (by omega) (by omega)]; omega
      have m43 : IntKind.i64.wrap (((4 * t : Nat) : Int) + 3) = ((4 * t + 3 : Nat) : Int) := by rw [wrap_i64 (by omega) (by omega)]; omega
      have l0 : 4 * t < b.length := by omega
      have l1 : 4 * t + 1 < b.length := by omega
      have l2 : 4 * t + 2 < b.length := by omega
      have l3 : 4 * t + 3 < b.length := by omega
      have s24 := fun x => u32_shl x 24 (by omega)
      have s16 := fun x => u32_shl x 16 (by omega)
      have s8 := fun x => u32_shl x 8 (by omega)
      have hw : (b.getD (4 * t) 0).toUInt32 <<< UInt32.ofNat 24 ||| (b.getD (4 * t + 1) 0).toUInt32 <<< UInt32.ofNat 16 ||| (b.getD (4 * t + 2) 0).toUInt32 <<< UInt32.ofNat 8 ||| (b.getD (4 * t + 3) 0).toUInt32 = next b (sch b t) t := by
        unfold next word
        rw [if_pos (by omega), wordR]; rfl
      repeat refine St (And.intro hlt <| And.intro h16 <| And.intro m4 <| And.intro m41 <| And.intro m42 <| And.intro m43 <| And.intro l0 <| And.intro l1 <| And.intro l2 <| And.intro l3 <| And.intro @u8.eq_def <| And.intro @u32_of_u8 <| And.intro s24 <| And.intro s16 <| And.intro s8 <| And.intro @u32_or <| And.intro hsl <| hk1) ct96 ?_
      exact ⟨⟨t + 1, by omega⟩, (Wt (And.intro hsn <| And.intro hw <| @u32T.eq_def) [0, 1, 2, 7, 8] [2]), by simp only; omega⟩
    · have g15 : ((sch b t).map u32T).getD (t - 15) default = _ := u32T_getD (by rw [sch_len]; omega)
      have g2 : ((sch b t).map u32T).getD (t - 2) default = _ := u32T_getD (by rw [sch_len]; omega)
      have g7 : ((sch b t).map u32T).getD (t - 7) default = _ := u32T_getD (by rw [sch_len]; omega)
      have g16 : ((sch b t).map u32T).getD (t - 16) default = _ := u32T_getD (by rw [sch_len]; omega)
      have m15 : IntKind.i64.wrap ((t : Int) - 15) = ((t - 15 : Nat) : Int) := by rw [wrap_i64 (by omega) (by omega)]; omega
      have m2 : IntKind.i64.wrap ((t : Int) - 2) = ((t - 2 : Nat) : Int) := by rw [wrap_i64 (by omega) (by omega)]; omega
      have m7 : IntKind.i64.wrap ((t : Int) - 7) = ((t - 7 : Nat) : Int) := by rw [wrap_i64 (by omega) (by omega)]; omega
      have m16 : IntKind.i64.wrap ((t : Int) - 16) = ((t - 16 : Nat) : Int) := by rw [wrap_i64 (by omega) (by omega)]; omega
      have l15 : t - 15 < t := by omega
      have l2 : t - 2 < t := by omega
      have l7 : t - 7 < t := by omega
      have l16 : t - 16 < t := by omega
      have i15 : ((t - 15 : Nat) : Int) < (t : Int) := by omega
      have i2 : ((t - 2 : Nat) : Int) < (t : Int) := by omega
      have i7 : ((t - 7 : Nat) : Int) < (t : Int) := by omega
      have i16 : ((t - 16 : Nat) : Int) < (t : Int) := by omega
      have r3 := fun x => u32_shr x 3 (by omega)
      have r10 := fun x => u32_shr x 10 (by omega)
      have hw : sg1 ((sch b t).getD (t - 2) 0) + (sch b t).getD (t - 7) 0 + sg0 ((sch b t).getD (t - 15) 0) + (sch b t).getD (t - 16) 0 = next b (sch b t) t := by
        unfold next
        rw [if_neg (by omega)]
        ac_rfl
      have hs0 : ∀ x, tr x 7 ^^^ tr x 18 ^^^ x >>> UInt32.ofNat 3 = sg0 x := fun x => rfl
      have hs1 : ∀ x, tr x 17 ^^^ tr x 19 ^^^ x >>> UInt32.ofNat 10 = sg1 x := fun x => rfl
      repeat refine St (And.intro hlt <| And.intro h16 <| And.intro g15 <| And.intro g2 <| And.intro g7 <| And.intro g16 <| And.intro m15 <| And.intro m2 <| And.intro m7 <| And.intro m16 <| And.intro l15 <| And.intro l2 <| And.intro l7 <| And.intro l16 <| And.intro i15 <| And.intro i2 <| And.intro i7 <| And.intro i16 <| And.intro r3 <| And.intro r10 <| And.intro @turn7 <| And.intro @turn18 <| And.intro @turn17 <| And.intro @turn19 <| And.intro @u32_xor <| And.intro @u32_add <| And.intro hs0 <| And.intro hs1 <| And.intro hsl <| hk1) ct96 ?_
      exact ⟨⟨t + 1, by omega⟩, (Wt (And.intro hsn <| And.intro hw <| @u32T.eq_def) [0, 1, 2, 7, 8] [2]), by simp only; omega⟩
  obtain rfl : t = 64 := by omega
  repeat refine St (And.intro hlt <| And.intro @a8_eq <| @a8.eq_def) ct96 ?_
  refine AWP.loop (G := { t : Nat // t ≤ 64 }) (fun t => ⟨[(0, .t (.sq 1 (s.l.map u32T))), (1, .t (.sq 1 (kS.map u32T))), (7, .own 0), (13, .own 1), (14, .t (.int .i64 (t.1 : Int)))], [.sq 1 ((sch b 64).map u32T), .sq 1 (a8 (rnds b s t.1))]⟩) (fun t => 64 - t.1) ⟨0, by omega⟩ (Wt (And.intro (And.intro @rnds.eq_1 <| @rnds.eq_2) <| And.intro @a8.eq_def <| @a8_eq) [0, 1, 7, 13, 14] [0, 2]) ?_
  intro ⟨t, ht⟩
  dsimp only
  by_cases hlt : (t : Int) < 64
  case neg =>
    obtain rfl : t = 64 := by omega
    repeat refine St hlt ct96 ?_
    refine AWP.loop (G := { i : Nat // i ≤ 8 }) (fun i => ⟨[(0, .t (.sq 1 (s.l.map u32T))), (13, .own 0), (20, .t (.int .i64 (i.1 : Int)))], [.sq 1 (mixV s (rnds b s 64) i.1)]⟩) (fun i => 8 - i.1) ⟨0, by omega⟩ (Wt @mixV_0 [0, 13, 20] [1]) ?_
    intro ⟨i, hi⟩
    dsimp only
    generalize hv : rnds b s 64 = v
    by_cases hl8 : (i : Int) < 8
    case neg =>
      obtain rfl : i = 8 := by omega
      have hfin : blkS s b = s.add v := by rw [← hv]; rfl
      repeat refine St hl8 ct96 ?_
      exact AWP.ret (Fin (And.intro @mixV_8 <| hfin) [] [0])
    have hi8 : i < 8 := by omega
    have hml := mixV_len s v i (by omega)
    have hsl : (List.map u32T s.l).length = 8 := rfl
    have g1 := mixV_get s v i hi8
    have g2 := a8_get s i hi8
    have g3 := mixV_set s v i hi8
    have hk1 : IntKind.i64.wrap ((i : Int) + 1) = ((i + 1 : Nat) : Int) := by rw [wrap_i64 (by omega) (by omega)]; omega
    repeat refine St (And.intro hl8 <| And.intro hi8 <| And.intro hml <| And.intro hsl <| And.intro g1 <| And.intro g2 <| And.intro g3 <| And.intro @u32_add <| And.intro hk1 <| @T.size.eq_def) ct96 ?_
    exact ⟨⟨i + 1, by omega⟩, (Wt trivial [0, 13, 20] [0]), by simp only; omega⟩
  have ht64 : t < 64 := by omega
  have hk1 : IntKind.i64.wrap ((t : Int) + 1) = ((t + 1 : Nat) : Int) := by rw [wrap_i64 (by omega) (by omega)]; omega
  have hkl : (List.map u32T kS).length = 64 := by simp [kS_len]
  have hwl : (List.map u32T (sch b 64)).length = 64 := by simp [sch_len]
  have hkg : (List.map u32T kS).getD t default = .int .u32 ((kS.getD t 0).toNat : Int) := u32T_getD (by rw [kS_len]; exact ht64)
  have hwg : (List.map u32T (sch b 64)).getD t default = .int .u32 (((sch b 64).getD t 0).toNat : Int) := u32T_getD (by rw [sch_len]; exact ht64)
  have hnx : rnds b s (t + 1) = rnd (rnds b s t) (kS.getD t 0) ((sch b 64).getD t 0) := rfl
  generalize rnds b s t = v at *
  generalize kS.getD t 0 = k at *
  generalize (sch b 64).getD t 0 = w at *
  repeat refine St (And.intro hlt <| And.intro @a8.eq_def <| And.intro hkl <| And.intro hwl <| And.intro hkg <| And.intro hwg <| And.intro ht64 <| And.intro hk1 <| And.intro @turn2 <| And.intro @turn6 <| And.intro @turn11 <| And.intro @turn13 <| And.intro @turn22 <| And.intro @turn25 <| And.intro @u32_xor <| And.intro @u32_and <| And.intro @u32_add <| And.intro @u32_xff <| @T.size.eq_def) ct96 ?_
  exact ⟨⟨t + 1, by omega⟩, (Wt (And.intro hnx <| And.intro @rnd.eq_def <| And.intro @t1S.eq_def <| And.intro @t2S.eq_def <| @a8.eq_def) [0, 1, 7, 13, 14] [0, 2]), by simp only; omega⟩

end Go.Fw

end

section
/- Chapter 7's answer: the hash, twice, behind a tag. -/
namespace Go.Fw
open Go Go.Proofs
set_option linter.unusedVariables false
set_option linter.unusedSimpArgs false

def F94 : Fun
  | [] => some ([.sq 1 (kS.map u32T)], .own 0)
  | _ => none

theorem ct94 : CT [] [0] [] := ⟨GClOk.nil _⟩

set_option maxRecDepth 100000 in
theorem c94 : ACon Try.prog 94 F94 := by
  refine aconc E_ok (rs := [.tmp 0 122]) Try.func94 rfl Try.ntmps94 (by kernel_rfl) rfl (by decide) F94 (np := 0) ?_ ?_
  · intro ts h; unfold F94; split <;> first | rfl | (simp at h; done)
  intro ts H r hF hwf
  unfold F94 at hF
  split at hF <;> try (cases hF; done)
  cases hF
  repeat refine St trivial ct94 ?_
  exact AWP.ret (Fin @kT_eq [] [0])

noncomputable def F70 : Fun
  | [.by b] => if b.length ≤ 1000000000 then some ([], .t (.ba 32 (shaL b))) else none
  | _ => none

theorem ct70 : CT [(94, ⟨[], treeG F94⟩), (95, ⟨[false], treeG F95⟩), (96, ⟨[false, false, false], treeG F96⟩)] [0, 2, 3, 4, 5, 6, 7, 8, 16, 29] [] := ⟨(.cons c94.g (.cons c95.g (.cons c96.g (.nil _))))⟩

theorem padS_long (b : List UInt8) : (padS b b.length).length ≤ b.length + 73 := by
  simp only [padS, List.length_append, List.length_cons, repl_len, be8_len, padK]; omega

set_option maxRecDepth 100000 in
set_option maxHeartbeats 2000000 in
theorem c70 : ACon Try.prog 70 F70 := by
  refine aconc E_ok (rs := [.cell 2 25]) Try.func70 rfl Try.ntmps70 (by kernel_rfl) rfl (by decide) F70 (np := 1) ?_ ?_
  · intro ts h; unfold F70; split <;> first | rfl | (simp at h; done)
  intro ts H r hF hwf
  unfold F70 at hF
  split at hF <;> try (cases hF; done)
  rename_i b
  split at hF
  case isFalse => cases hF
  rename_i hc
  have hb := hc
  cases hF
  have hpd : F95 [.by b] = some ([.by (padS b b.length)], .own 0) := if_pos hb
  have hpl := padS_len b b.length
  have hps := padS_long b
  have hfin : shaL b = outS (eatS h0S (padS b b.length) ((padS b b.length).length / 64)) := rfl
  obtain ⟨P, hP⟩ : ∃ P, padS b b.length = P := ⟨_, rfl⟩
  rw [hP] at hpl hfin hps hpd
  repeat refine St (And.intro hpd <| @F94.eq_def) ct70 ?_
  refine AWP.loop (G := { k : Nat // 64 * k ≤ P.length }) (fun k => ⟨[(2, .ptr 0 0 []), (3, .own 1), (4, .own 2), (5, .own 3), (6, .t (.int .i64 ((64 * k.1 : Nat) : Int)))], [.bx (.t (.ba 32 (zby 32))), .sq 1 ((eatS h0S P k.1).l.map u32T), .sq 1 (kS.map u32T), .by P]⟩) (fun k => P.length - 64 * k.1) ⟨0, by omega⟩ (Wt (And.intro (And.intro @eatS.eq_1 <| @eatS.eq_2) <| And.intro @a8_eq <| And.intro @a8.eq_def <| And.intro @h0S.eq_def <| @Nat.mul_zero) [2, 3, 4, 5, 6] [0, 1, 2, 3]) ?_
  intro ⟨k, hk⟩
  dsimp only
  have hnx : eatS h0S P (k + 1) = blkS (eatS h0S P k) ((P.drop (64 * k)).take 64) := rfl
  obtain ⟨v, hv⟩ : ∃ v, eatS h0S P k = v := ⟨_, rfl⟩
  rw [hv] at hnx ⊢
  by_cases hlt : ((64 * k : Nat) : Int) < (P.length : Int)
  case pos =>
    have h64' : 64 * k + 64 ≤ P.length := by omega
    have htl : ((P.drop (64 * k)).take 64).length = 64 := by simp; omega
    have hte : 64 * k + 64 - 64 * k = 64 := by omega
    have hbl := block_c v htl
    have hk1 : IntKind.i64.wrap (((64 * k : Nat) : Int) + 64) = ((64 * k + 64 : Nat) : Int) := by rw [wrap_i64 (by omega) (by omega)]; omega
    have hk2 : 64 * k + 64 = 64 * (k + 1) := by omega
    repeat refine St (And.intro hlt <| And.intro hk1 <| And.intro hte <| And.intro hbl <| @clean_u32) ct70 ?_
    exact ⟨⟨k + 1, by omega⟩, (Wt (And.intro hnx <| hk2) [2, 3, 4, 5, 6] [0, 4, 2, 3]), by simp only; omega⟩
  have hkk : k = P.length / 64 := by omega
  rw [← hkk, hv] at hfin
  repeat refine St hlt ct70 ?_
  refine AWP.loop (G := { p : Nat // p ≤ 32 }) (fun p => ⟨[(2, .ptr 0 0 []), (3, .own 1), (7, .ptr 2 0 []), (8, .t (.int .i64 (p.1 : Int)))], [.bx (.t (.ba 32 (zby 32))), .sq 1 (v.l.map u32T), .bx (.t (.ba 32 (outM v p.1)))]⟩) (fun p => 32 - p.1) ⟨0, by omega⟩ (Wt @outM_0 [2, 3, 7, 8] [0, 1, 4]) ?_
  intro ⟨p, hp⟩
  dsimp only
  have hol := outM_len v p
  by_cases hp32i : (p : Int) < 32
  case neg =>
    obtain rfl : p = 32 := by omega
    have ho := outM_32 v
    repeat refine St (And.intro hp32i <| And.intro @T.size.eq_def <| And.intro ho <| hol) ct70 ?_
    exact AWP.ret (Fin hfin [] [])
  have hp32 : p < 32 := by omega
  have hvl : (List.map u32T v.l).length = 8 := rfl
  have hp8 : p / 4 < 8 := by omega
  have hp8i : ((p / 4 : Nat) : Int) < 8 := by omega
  have hvg := a8_get v (p / 4) hp8
  have hq : IntKind.i64.wrap (Int.tdiv (p : Int) 4) = ((p / 4 : Nat) : Int) := by
    rw [Int.tdiv_eq_ediv_of_nonneg (by omega), wrap_i64 (by omega) (by omega)]; omega
  have hr : IntKind.i64.wrap (Int.tmod (p : Int) 4) = ((p % 4 : Nat) : Int) := by
    rw [Int.tmod_eq_emod_of_nonneg (by omega), wrap_i64 (by omega) (by omega)]; omega
  have hm8 : IntKind.i64.wrap (8 * ((p % 4 : Nat) : Int)) = ((8 * (p % 4) : Nat) : Int) := by rw [wrap_i64 (by omega) (by omega)]; omega
  have hm24 : IntKind.i64.wrap (24 - ((8 * (p % 4) : Nat) : Int)) = ((24 - 8 * (p % 4) : Nat) : Int) := by rw [wrap_i64 (by omega) (by omega)]; omega
  have hmu : IntKind.u64.wrap ((24 - 8 * (p % 4) : Nat) : Int) = ((24 - 8 * (p % 4) : Nat) : Int) := wrap_u64 (by omega) (by omega)
  have hnn : ¬ ((24 - 8 * (p % 4) : Nat) : Int) < 0 := by omega
  have hsh := u32_shr (v.l.getD (p / 4) 0) (24 - 8 * (p % 4)) (by omega)
  have hob : ((v.l.getD (p / 4) 0) >>> UInt32.ofNat (24 - 8 * (p % 4))).toUInt8 = outB v p := rfl
  have hset := outM_set v hp32
  have hof : ∀ c : UInt8, UInt8.ofNat c.toNat = c := fun c => by simp
  have hkj : IntKind.i64.wrap ((p : Int) + 1) = ((p + 1 : Nat) : Int) := by rw [wrap_i64 (by omega) (by omega)]; omega
  repeat refine St (And.intro hp32i <| And.intro hp32 <| And.intro hvl <| And.intro hp8 <| And.intro hp8i <| And.intro hvg <| And.intro hq <| And.intro hr <| And.intro hm8 <| And.intro hm24 <| And.intro hmu <| And.intro hnn <| And.intro hsh <| And.intro @u8_of_u32 <| And.intro hob <| And.intro hof <| And.intro hset <| And.intro hol <| And.intro hkj <| @T.size.eq_def) ct70 ?_
  exact ⟨⟨p + 1, by omega⟩, (Wt trivial [2, 3, 7, 8] [0, 1, 2]), by simp only; omega⟩

theorem refsum_c {b : List UInt8} (h : b.length ≤ 1000000000) : F70 [.by b] = some ([], .t (.ba 32 (shaL b))) := if_pos h

noncomputable def F41 : Fun
  | [.by b] => if b.length ≤ 1000000000 then some ([], .t (.ba 32 (shaL (shaL b)))) else none
  | _ => none

theorem ct41 : CT [(70, ⟨[false], treeG F70⟩)] [0, 2, 3] [] := ⟨(.cons c70.g (.nil _))⟩

theorem c41 : ACon Try.prog 41 F41 := by
  refine aconc E_ok (rs := [.cell 2 25]) Try.func41 rfl Try.ntmps41 (by kernel_rfl) rfl (by decide) F41 (np := 1) ?_ ?_
  · intro ts h; unfold F41; split <;> first | rfl | (simp at h; done)
  intro ts H r hF hwf
  unfold F41 at hF
  split at hF <;> try (cases hF; done)
  rename_i b
  split at hF
  case isFalse => cases hF
  rename_i hc
  have hb := hc
  cases hF
  have h1 := refsum_c hb
  have hl := shaL_len b
  have h2 : F70 [.by (shaL b)] = some ([], .t (.ba 32 (shaL (shaL b)))) := refsum_c (by omega)
  generalize shaL (shaL b) = y at *
  obtain ⟨x, hx⟩ : ∃ x, shaL b = x := ⟨_, rfl⟩
  rw [hx] at h1 hl h2
  have ht : x.take 32 = x := List.take_of_length_le (by omega)
  repeat refine St (And.intro h1 <| And.intro hl <| And.intro h2 <| ht) ct41 ?_
  exact AWP.ret (Fin trivial [] [])


end Go.Fw

end

section
/- tx's answer: the forms, whether it fits, names, weights. -/
namespace Go.Fw
open Go Go.Proofs
set_option linter.unusedVariables false
set_option linter.unusedSimpArgs false

noncomputable def F76 : Fun
  | [y] => match inv txT y with
    | some t => some ([], .t (.bool (countsB t)))
    | none => none
  | _ => none

theorem ct76 : CT [] [0, 1, 2, 3, 4, 5, 15, 20, 30, 35, 45, 54, 67] [] := ⟨GClOk.nil _⟩

set_option maxHeartbeats 1000000 in
theorem c76 : ACon Try.prog 76 F76 := by
  refine aconc E_ok (rs := [.tmp 2 4]) Try.func76 rfl Try.ntmps76 (by kernel_rfl) rfl (by decide) F76 (np := 1) ?_ ?_
  · intro ts h; unfold F76; split <;> first | rfl | (simp at h; done)
  intro ts H r hF hwf
  unfold F76 at hF
  split at hF <;> try (cases hF; done)
  split at hF <;> try (cases hF; done)
  rename_i t ht
  cases hF
  obtain rfl := inv_inv ht
  have hcb := countsB_eq t
  obtain ⟨c, hc⟩ : ∃ c, countsB t = c := ⟨_, rfl⟩
  rw [hc] at hcb
  rw [hc]
  obtain ⟨v, is, os, k⟩ := t
  dsimp only at hcb
  have hyu : txT ⟨v, is, os, k⟩ = .st [.int .u32 (v.toNat : Int), .sq 35 (is.map inT), .sq 2 (os.map outT), .int .u32 (k.toNat : Int)] := rfl
  rw [hyu]
  by_cases h1 : 20 < (is.length : Int)
  · have e : c = false := by rw [hcb]; have : ¬ is.length ≤ 20 := by omega
                             simp [this]
    subst e
    repeat refine St h1 ct76 ?_
    exact AWP.ret (Fin trivial [] [])
  by_cases h2 : 20 < (os.length : Int)
  · have e : c = false := by rw [hcb]; have : ¬ os.length ≤ 20 := by omega
                             simp [this]
    subst e
    repeat refine St (And.intro h1 <| h2) ct76 ?_
    exact AWP.ret (Fin trivial [] [])
  have hcb' : c = (os.all scrOk && is.all witOk) := by
    rw [hcb]
    have e1 : is.length ≤ 20 := by omega
    have e2 : os.length ≤ 20 := by omega
    simp [e1, e2]
  repeat refine St (And.intro h1 <| h2) ct76 ?_
  refine AWP.loop (G := { i : Nat // i ≤ os.length ∧ (os.take i).all scrOk = true }) (fun i => ⟨[(1, .ptr 0 0 []), (3, .t (.int .i64 (i.1 : Int)))], [.bx (.t (.st [.int .u32 (v.toNat : Int), .sq 35 (is.map inT), .sq 2 (os.map outT), .int .u32 (k.toNat : Int)]))]⟩) (fun i => os.length - i.1) ⟨0, by omega, rfl⟩ (Wt trivial [1, 3] [0]) ?_
  intro ⟨i, hi, ha⟩
  dsimp only
  by_cases hlt : (i : Int) < (os.length : Int)
  · have hlt' : i < os.length := by omega
    have hget := out_getD os i hlt'
    have hal := all_take scrOk dOut os i hlt'
    have hbad := all_getD scrOk dOut os i hlt'
    generalize os.getD i dOut = x at *
    by_cases hb : 1000 < (x.scr.length : Int)
    · have hx : scrOk x = false := decide_eq_false (by omega)
      have e : c = false := by rw [hcb', hbad hx]; rfl
      subst e
      repeat refine St (And.intro hlt <| And.intro hlt' <| And.intro hget <| And.intro @outT.eq_def <| hb) ct76 ?_
      exact AWP.ret (Fin trivial [] [])
    · have hx : scrOk x = true := decide_eq_true (by omega)
      rw [ha, hx] at hal
      repeat refine St (And.intro hlt <| And.intro hlt' <| And.intro hget <| And.intro @outT.eq_def <| hb) ct76 ?_
      exact ⟨⟨i + 1, by omega, by rw [hal]; rfl⟩, (Wt trivial [1, 3] [0]), by simp only; omega⟩
  obtain rfl : i = os.length := by omega
  rw [List.take_length] at ha
  rw [ha, Bool.true_and] at hcb'
  repeat refine St hlt ct76 ?_
  refine AWP.loop (G := { i : Nat // i ≤ is.length ∧ (is.take i).all witOk = true }) (fun i => ⟨[(1, .ptr 0 0 []), (4, .t (.int .i64 (i.1 : Int)))], [.bx (.t (.st [.int .u32 (v.toNat : Int), .sq 35 (is.map inT), .sq 2 (os.map outT), .int .u32 (k.toNat : Int)]))]⟩) (fun i => is.length - i.1) ⟨0, by omega, rfl⟩ (Wt trivial [1, 4] [0]) ?_
  intro ⟨i, hi, hai⟩
  dsimp only
  by_cases hlti : (i : Int) < (is.length : Int)
  · have hlt' : i < is.length := by omega
    have hget := in_getD is i hlt'
    have hal := all_take witOk dIn is i hlt'
    have hbad := all_getD witOk dIn is i hlt'
    generalize is.getD i dIn = x at *
    have hxe : witOk x = (decide (x.wit.length ≤ 30) && x.wit.all fun y => decide (y.length ≤ 1000)) := rfl
    by_cases h30 : 30 < (x.wit.length : Int)
    · have e : c = false := by rw [hcb', hbad (by rw [hxe]; have : ¬ x.wit.length ≤ 30 := by omega
                                                  simp [this])]
      subst e
      repeat refine St (And.intro hlti <| And.intro hlt' <| And.intro hget <| And.intro @inT.eq_def <| And.intro @refT.eq_def <| h30) ct76 ?_
      exact AWP.ret (Fin trivial [] [])
    have h30' : decide (x.wit.length ≤ 30) = true := decide_eq_true (by omega)
    rw [h30', Bool.true_and] at hxe
    repeat refine St (And.intro hlti <| And.intro hlt' <| And.intro hget <| And.intro @inT.eq_def <| And.intro @refT.eq_def <| h30) ct76 ?_
    refine AWP.loop (G := { j : Nat // j ≤ x.wit.length ∧ (x.wit.take j).all (fun y => decide (y.length ≤ 1000)) = true }) (fun j => ⟨[(1, .ptr 0 0 []), (4, .t (.int .i64 (i : Int))), (5, .t (.int .i64 (j.1 : Int)))], [.bx (.t (.st [.int .u32 (v.toNat : Int), .sq 35 (is.map inT), .sq 2 (os.map outT), .int .u32 (k.toNat : Int)]))]⟩) (fun j => x.wit.length - j.1) ⟨0, by omega, rfl⟩ (Wt trivial [1, 4, 5] [0]) ?_
    intro ⟨j, hj, haj⟩
    dsimp only
    by_cases hltj : (j : Int) < (x.wit.length : Int)
    · have hltj' : j < x.wit.length := by omega
      have hgetj := map_getD x.wit j hltj'
      have halj := all_take (fun y : List UInt8 => decide (y.length ≤ 1000)) [] x.wit j hltj'
      have hbadj := all_getD (fun y : List UInt8 => decide (y.length ≤ 1000)) [] x.wit j hltj'
      generalize x.wit.getD j [] = y at *
      by_cases hb : 1000 < (y.length : Int)
      · have hx : decide (y.length ≤ 1000) = false := decide_eq_false (by omega)
        have e : c = false := by rw [hcb', hbad (by rw [hxe]; exact hbadj hx)]
        subst e
        repeat refine St (And.intro hlti <| And.intro hlt' <| And.intro hget <| And.intro @inT.eq_def <| And.intro @refT.eq_def <| And.intro hltj <| And.intro hltj' <| And.intro hgetj <| hb) ct76 ?_
        exact AWP.ret (Fin trivial [] [])
      · have hx : decide (y.length ≤ 1000) = true := decide_eq_true (by omega)
        rw [haj, hx] at halj
        repeat refine St (And.intro hlti <| And.intro hlt' <| And.intro hget <| And.intro @inT.eq_def <| And.intro @refT.eq_def <| And.intro hltj <| And.intro hltj' <| And.intro hgetj <| hb) ct76 ?_
        exact ⟨⟨j + 1, by omega, by rw [halj]; rfl⟩, (Wt trivial [1, 4, 5] [0]), by simp only; omega⟩
    obtain rfl : j = x.wit.length := by omega
    rw [List.take_length] at haj
    rw [haj] at hxe
    rw [hai, hxe] at hal
    repeat refine St (And.intro hlti <| And.intro hlt' <| And.intro hget <| And.intro @inT.eq_def <| And.intro @refT.eq_def <| hltj) ct76 ?_
    exact ⟨⟨i + 1, by omega, by rw [hal]; rfl⟩, (Wt trivial [1, 4] [0]), by simp only; omega⟩
  obtain rfl : i = is.length := by omega
  rw [List.take_length] at hai
  rw [hai] at hcb'
  subst hcb'
  repeat refine St hlti ct76 ?_
  exact AWP.ret (Fin trivial [] [])

theorem rcounts_c (t : TTx) : F76 [txT t] = some ([], .t (.bool (countsB t))) := by
  simp only [F76, inv_of txT_inj]

noncomputable def F45 : Fun
  | [y] => match inv txT y with
    | some t => some ([], .t (.bool (smallT t)))
    | none => none
  | _ => none

theorem ct45 : CT [] [0, 1, 2, 3, 4, 5, 15, 20, 30, 35, 45, 54, 67] [] := ⟨GClOk.nil _⟩

set_option maxHeartbeats 1000000 in
theorem c45 : ACon Try.prog 45 F45 := by
  refine aconc E_ok (rs := [.tmp 2 4]) Try.func45 rfl Try.ntmps45 (by kernel_rfl) rfl (by decide) F45 (np := 1) ?_ ?_
  · intro ts h; unfold F45; split <;> first | rfl | (simp at h; done)
  intro ts H r hF hwf
  unfold F45 at hF
  split at hF <;> try (cases hF; done)
  split at hF <;> try (cases hF; done)
  rename_i t ht
  cases hF
  obtain rfl := inv_inv ht
  have hcb := smallT_eq t
  obtain ⟨c, hc⟩ : ∃ c, smallT t = c := ⟨_, rfl⟩
  rw [hc] at hcb
  rw [hc]
  obtain ⟨v, is, os, k⟩ := t
  dsimp only at hcb
  have hyu : txT ⟨v, is, os, k⟩ = .st [.int .u32 (v.toNat : Int), .sq 35 (is.map inT), .sq 2 (os.map outT), .int .u32 (k.toNat : Int)] := rfl
  rw [hyu]
  by_cases h1 : 6 < (is.length : Int)
  · have e : c = false := by rw [hcb]; have : ¬ is.length ≤ 6 := by omega
                             simp [this]
    subst e
    repeat refine St h1 ct45 ?_
    exact AWP.ret (Fin trivial [] [])
  by_cases h2 : 6 < (os.length : Int)
  · have e : c = false := by rw [hcb]; have : ¬ os.length ≤ 6 := by omega
                             simp [this]
    subst e
    repeat refine St (And.intro h1 <| h2) ct45 ?_
    exact AWP.ret (Fin trivial [] [])
  have hcb' : c = (os.all scrS && is.all witS) := by
    rw [hcb]
    have e1 : is.length ≤ 6 := by omega
    have e2 : os.length ≤ 6 := by omega
    simp [e1, e2]
  repeat refine St (And.intro h1 <| h2) ct45 ?_
  refine AWP.loop (G := { i : Nat // i ≤ os.length ∧ (os.take i).all scrS = true }) (fun i => ⟨[(1, .ptr 0 0 []), (3, .t (.int .i64 (i.1 : Int)))], [.bx (.t (.st [.int .u32 (v.toNat : Int), .sq 35 (is.map inT), .sq 2 (os.map outT), .int .u32 (k.toNat : Int)]))]⟩) (fun i => os.length - i.1) ⟨0, by omega, rfl⟩ (Wt trivial [1, 3] [0]) ?_
  intro ⟨i, hi, ha⟩
  dsimp only
  by_cases hlt : (i : Int) < (os.length : Int)
  · have hlt' : i < os.length := by omega
    have hget := out_getD os i hlt'
    have hal := all_take scrS dOut os i hlt'
    have hbad := all_getD scrS dOut os i hlt'
    generalize os.getD i dOut = x at *
    by_cases hb : 600 < (x.scr.length : Int)
    · have hx : scrS x = false := decide_eq_false (by omega)
      have e : c = false := by rw [hcb', hbad hx]; rfl
      subst e
      repeat refine St (And.intro hlt <| And.intro hlt' <| And.intro hget <| And.intro @outT.eq_def <| hb) ct45 ?_
      exact AWP.ret (Fin trivial [] [])
    · have hx : scrS x = true := decide_eq_true (by omega)
      rw [ha, hx] at hal
      repeat refine St (And.intro hlt <| And.intro hlt' <| And.intro hget <| And.intro @outT.eq_def <| hb) ct45 ?_
      exact ⟨⟨i + 1, by omega, by rw [hal]; rfl⟩, (Wt trivial [1, 3] [0]), by simp only; omega⟩
  obtain rfl : i = os.length := by omega
  rw [List.take_length] at ha
  rw [ha, Bool.true_and] at hcb'
  repeat refine St hlt ct45 ?_
  refine AWP.loop (G := { i : Nat // i ≤ is.length ∧ (is.take i).all witS = true }) (fun i => ⟨[(1, .ptr 0 0 []), (4, .t (.int .i64 (i.1 : Int)))], [.bx (.t (.st [.int .u32 (v.toNat : Int), .sq 35 (is.map inT), .sq 2 (os.map outT), .int .u32 (k.toNat : Int)]))]⟩) (fun i => is.length - i.1) ⟨0, by omega, rfl⟩ (Wt trivial [1, 4] [0]) ?_
  intro ⟨i, hi, hai⟩
  dsimp only
  by_cases hlti : (i : Int) < (is.length : Int)
  · have hlt' : i < is.length := by omega
    have hget := in_getD is i hlt'
    have hal := all_take witS dIn is i hlt'
    have hbad := all_getD witS dIn is i hlt'
    generalize is.getD i dIn = x at *
    have hxe : witS x = (decide (x.wit.length ≤ 6) && x.wit.all fun y => decide (y.length ≤ 600)) := rfl
    by_cases h30 : 6 < (x.wit.length : Int)
    · have e : c = false := by rw [hcb', hbad (by rw [hxe]; have : ¬ x.wit.length ≤ 6 := by omega
                                                  simp [this])]
      subst e
      repeat refine St (And.intro hlti <| And.intro hlt' <| And.intro hget <| And.intro @inT.eq_def <| And.intro @refT.eq_def <| h30) ct45 ?_
      exact AWP.ret (Fin trivial [] [])
    have h30' : decide (x.wit.length ≤ 6) = true := decide_eq_true (by omega)
    rw [h30', Bool.true_and] at hxe
    repeat refine St (And.intro hlti <| And.intro hlt' <| And.intro hget <| And.intro @inT.eq_def <| And.intro @refT.eq_def <| h30) ct45 ?_
    refine AWP.loop (G := { j : Nat // j ≤ x.wit.length ∧ (x.wit.take j).all (fun y => decide (y.length ≤ 600)) = true }) (fun j => ⟨[(1, .ptr 0 0 []), (4, .t (.int .i64 (i : Int))), (5, .t (.int .i64 (j.1 : Int)))], [.bx (.t (.st [.int .u32 (v.toNat : Int), .sq 35 (is.map inT), .sq 2 (os.map outT), .int .u32 (k.toNat : Int)]))]⟩) (fun j => x.wit.length - j.1) ⟨0, by omega, rfl⟩ (Wt trivial [1, 4, 5] [0]) ?_
    intro ⟨j, hj, haj⟩
    dsimp only
    by_cases hltj : (j : Int) < (x.wit.length : Int)
    · have hltj' : j < x.wit.length := by omega
      have hgetj := map_getD x.wit j hltj'
      have halj := all_take (fun y : List UInt8 => decide (y.length ≤ 600)) [] x.wit j hltj'
      have hbadj := all_getD (fun y : List UInt8 => decide (y.length ≤ 600)) [] x.wit j hltj'
      generalize x.wit.getD j [] = y at *
      by_cases hb : 600 < (y.length : Int)
      · have hx : decide (y.length ≤ 600) = false := decide_eq_false (by omega)
        have e : c = false := by rw [hcb', hbad (by rw [hxe]; exact hbadj hx)]
        subst e
        repeat refine St (And.intro hlti <| And.intro hlt' <| And.intro hget <| And.intro @inT.eq_def <| And.intro @refT.eq_def <| And.intro hltj <| And.intro hltj' <| And.intro hgetj <| hb) ct45 ?_
        exact AWP.ret (Fin trivial [] [])
      · have hx : decide (y.length ≤ 600) = true := decide_eq_true (by omega)
        rw [haj, hx] at halj
        repeat refine St (And.intro hlti <| And.intro hlt' <| And.intro hget <| And.intro @inT.eq_def <| And.intro @refT.eq_def <| And.intro hltj <| And.intro hltj' <| And.intro hgetj <| hb) ct45 ?_
        exact ⟨⟨j + 1, by omega, by rw [halj]; rfl⟩, (Wt trivial [1, 4, 5] [0]), by simp only; omega⟩
    obtain rfl : j = x.wit.length := by omega
    rw [List.take_length] at haj
    rw [haj] at hxe
    rw [hai, hxe] at hal
    repeat refine St (And.intro hlti <| And.intro hlt' <| And.intro hget <| And.intro @inT.eq_def <| And.intro @refT.eq_def <| hltj) ct45 ?_
    exact ⟨⟨i + 1, by omega, by rw [hal]; rfl⟩, (Wt trivial [1, 4] [0]), by simp only; omega⟩
  obtain rfl : i = is.length := by omega
  rw [List.take_length] at hai
  rw [hai] at hcb'
  subst hcb'
  repeat refine St hlti ct45 ?_
  exact AWP.ret (Fin trivial [] [])

theorem rSmall_c (t : TTx) : F45 [txT t] = some ([], .t (.bool (smallT t))) := by
  simp only [F45, inv_of txT_inj]

noncomputable def F81 : Fun
  | [y] => match inv txT y with
    | some t => @ite _ (countsB t = true) (Classical.propDecidable _) (some ([.by (bareB t)], .own 0)) none
    | none => none
  | _ => none

theorem ct81 : CT [(39, ⟨[false, false, false], treeG F39⟩), (78, ⟨[false, false], treeG F78⟩), (102, ⟨[false, false], treeG F102⟩)] [0, 1, 2, 3, 4, 5, 20, 61] [] := ⟨(.cons c39.g (.cons c78.g (.cons c102.g (.nil _))))⟩

theorem rput4 (b : List UInt8) (n : UInt32) (h : b.length ≤ 549755812000) : F39 [.by b, .int .u64 (n.toNat : Int), .int .i64 4] = some ([.by (b ++ le 4 (n.toNat : Int))], .own 0) := put_c (n.toNat : Int) 4 (by omega) (by omega) (by omega)
theorem rput8 (b : List UInt8) (n : UInt64) (h : b.length ≤ 549755812000) : F39 [.by b, .int .u64 (n.toNat : Int), .int .i64 8] = some ([.by (b ++ le 8 (n.toNat : Int))], .own 0) := put_c (n.toNat : Int) 8 (by omega) (by omega) (by omega)
theorem rputsize (b : List UInt8) (n : Int) (h : b.length ≤ 549755812000) : F78 [.by b, .int .u64 n] = some ([.by (b ++ sizeB n)], .own 0) := if_pos h
theorem rputbytes (b x : List UInt8) (h : b.length + x.length ≤ 549755800000) : F102 [.by b, .by x] = some ([.by (b ++ sizeB x.length ++ x)], .own 0) := if_pos h
theorem rputlist (b : List UInt8) (l : List (List UInt8)) (h : b.length + (flat l).length ≤ 549755700000) : F100 [.by b, .sq 1 (l.map .by)] = some ([.by (b ++ sizeB l.length ++ flat l)], .own 0) := by
  simp only [F100, asBys_map]; exact if_pos h
theorem u32u64 (n : UInt32) : IntKind.u64.wrap (n.toNat : Int) = (n.toNat : Int) := by have := n.toNat_lt; exact wrap_u64 (by omega) (by omega)

set_option maxHeartbeats 2000000 in
theorem c81 : ACon Try.prog 81 F81 := by
  refine aconc E_ok (rs := [.tmp 2 22]) Try.func81 rfl Try.ntmps81 (by kernel_rfl) rfl (by decide) F81 (np := 1) ?_ ?_
  · intro ts h; unfold F81; split <;> first | rfl | (simp at h; done)
  intro ts H r hF hwf
  unfold F81 at hF
  split at hF <;> try (cases hF; done)
  split at hF <;> try (cases hF; done)
  rename_i t ht
  split at hF
  case isFalse => cases hF
  rename_i hc
  have hc := hc
  cases hF
  obtain rfl := inv_inv ht
  obtain ⟨c1, c2, c3, c4⟩ := countsB_ok hc
  obtain ⟨v, is, os, k⟩ := t
  dsimp only at c1 c2 c3 c4
  have hp := rput4 [] v (by simp)
  have hs := rputsize (le 4 (v.toNat : Int)) is.length (by simp [le_len])
  simp only [List.nil_append] at hp
  have hw : IntKind.u64.wrap (is.length : Int) = (is.length : Int) := wrap_u64 (by omega) (by omega)
  have hw2 : IntKind.u64.wrap (os.length : Int) = (os.length : Int) := wrap_u64 (by omega) (by omega)
  have hsl := sizeB_len (is.length : Int)
  have hsl2 := sizeB_len (os.length : Int)
  have hyu : txT ⟨v, is, os, k⟩ = .st [.int .u32 (v.toNat : Int), .sq 35 (is.map inT), .sq 2 (os.map outT), .int .u32 (k.toNat : Int)] := rfl
  rw [hyu]
  repeat refine St (And.intro hp <| And.intro hs <| And.intro hw <| @u32u64) ct81 ?_
  refine AWP.loop (G := { i : Nat // i ≤ is.length }) (fun i => ⟨[(1, .ptr 0 0 []), (3, .own 1), (4, .t (.int .i64 (i.1 : Int)))], [.bx (.t (.st [.int .u32 (v.toNat : Int), .sq 35 (is.map inT), .sq 2 (os.map outT), .int .u32 (k.toNat : Int)])), .by (le 4 (v.toNat : Int) ++ sizeB is.length ++ cat tInB (is.take i.1))]⟩) (fun i => is.length - i.1) ⟨0, by omega⟩ (Wt (And.intro @cat_nil <| @List.take_zero.{0}) [1, 3, 4] [0, 2]) ?_
  intro ⟨i, hi⟩
  dsimp only
  have hcl := cat_in_len (is.take i)
  have hil : (is.take i).length = i := by simp; omega
  have h4 := le_len 4 (v.toNat : Int)
  by_cases hlt : (i : Int) < (is.length : Int)
  · have hlt' : i < is.length := by omega
    have hget := in_getD is i hlt'
    have hcat := cat_take tInB dIn is i hlt'
    generalize is.getD i dIn = x at *
    have hbl : (le 4 (v.toNat : Int) ++ sizeB is.length ++ cat tInB (is.take i)).length ≤ 2000 := by simp only [List.length_append]; omega
    have p1 := rput4 (le 4 (v.toNat : Int) ++ sizeB is.length ++ cat tInB (is.take i) ++ x.prev.1) x.idx (by rw [List.length_append, x.prev.2]; omega)
    have p2 := rput4 (le 4 (v.toNat : Int) ++ sizeB is.length ++ cat tInB (is.take i) ++ x.prev.1 ++ le 4 (x.idx.toNat : Int)) x.seq (by rw [List.length_append, List.length_append, x.prev.2, le_len]; omega)
    have h32 := x.prev.2
    have htk := take32 x.prev
    have hin : tInB x = x.prev.1 ++ le 4 (x.idx.toNat : Int) ++ le 4 (x.seq.toNat : Int) := rfl
    repeat refine St (And.intro hlt <| And.intro hlt' <| And.intro hget <| And.intro @inT.eq_def <| And.intro @refT.eq_def <| And.intro h32 <| And.intro htk <| And.intro hbl <| And.intro p1 <| And.intro p2 <| @u32u64) ct81 ?_
    exact ⟨⟨i + 1, by omega⟩, (Wt (And.intro hcat <| And.intro hin <| @List.append_assoc.{0}) [1, 3, 4] [0, 4]), by simp only; omega⟩
  obtain rfl : i = is.length := by omega
  rw [List.take_length]
  rw [List.take_length] at hcl
  obtain ⟨A, hA⟩ : ∃ A, le 4 (v.toNat : Int) ++ sizeB is.length ++ cat tInB is = A := ⟨_, rfl⟩
  have hAl : A.length ≤ 2000 := by rw [← hA]; simp only [List.length_append]; omega
  rw [hA]
  have hps := rputsize A os.length (by omega)
  repeat refine St (And.intro hlt <| And.intro hps <| hw2) ct81 ?_
  refine AWP.loop (G := { i : Nat // i ≤ os.length }) (fun i => ⟨[(1, .ptr 0 0 []), (3, .own 1), (5, .t (.int .i64 (i.1 : Int)))], [.bx (.t (.st [.int .u32 (v.toNat : Int), .sq 35 (is.map inT), .sq 2 (os.map outT), .int .u32 (k.toNat : Int)])), .by (A ++ sizeB os.length ++ cat tOutB (os.take i.1))]⟩) (fun i => os.length - i.1) ⟨0, by omega⟩ (Wt (And.intro @cat_nil <| @List.take_zero.{0}) [1, 3, 5] [0, 2]) ?_
  intro ⟨i, hi⟩
  dsimp only
  have hcl2 := scr_cat os i c3 c2
  by_cases hlt : (i : Int) < (os.length : Int)
  · have hlt' : i < os.length := by omega
    have hget := out_getD os i hlt'
    have hcat := cat_take tOutB dOut os i hlt'
    have hscr : (os.getD i dOut).scr.length ≤ 1000 := c3 _ (by simp [hlt'])
    generalize os.getD i dOut = x at *
    have p1 := rput8 (A ++ sizeB os.length ++ cat tOutB (os.take i)) x.val (by simp only [List.length_append]; omega)
    have p2 := rputbytes (A ++ sizeB os.length ++ cat tOutB (os.take i) ++ le 8 (x.val.toNat : Int)) x.scr (by simp only [List.length_append, le_len]; omega)
    have hin : tOutB x = le 8 (x.val.toNat : Int) ++ (sizeB x.scr.length ++ x.scr) := rfl
    repeat refine St (And.intro hlt <| And.intro hlt' <| And.intro hget <| And.intro @outT.eq_def <| And.intro p1 <| p2) ct81 ?_
    exact ⟨⟨i + 1, by omega⟩, (Wt (And.intro hcat <| And.intro hin <| @List.append_assoc.{0}) [1, 3, 5] [0, 3]), by simp only; omega⟩
  obtain rfl : i = os.length := by omega
  rw [List.take_length]
  rw [List.take_length] at hcl2
  have p1 := rput4 (A ++ sizeB os.length ++ cat tOutB os) k (by simp only [List.length_append]; omega)
  have hb : bareB ⟨v, is, os, k⟩ = A ++ sizeB os.length ++ cat tOutB os ++ le 4 (k.toNat : Int) := by unfold bareB; rw [← hA]
  repeat refine St (And.intro hlt <| And.intro p1 <| @u32u64) ct81 ?_
  exact AWP.ret (Fin hb [] [2])

theorem rbare_c {t : TTx} (h : countsB t = true) : F81 [txT t] = some ([.by (bareB t)], .own 0) := by
  simp only [F81, inv_of txT_inj]; exact if_pos h

noncomputable def F77 : Fun
  | [y] => match inv txT y with
    | some t => @ite _ (countsB t = true) (Classical.propDecidable _) (some ([.by (wholeB t)], .own 0)) none
    | none => none
  | _ => none

theorem ct77 : CT [(81, ⟨[false], treeG F81⟩), (100, ⟨[false, false], treeG F100⟩)] [0, 1, 2, 3, 4, 11] [] := ⟨(.cons c81.g (.cons c100.g (.nil _)))⟩

set_option maxHeartbeats 1000000 in
theorem c77 : ACon Try.prog 77 F77 := by
  refine aconc E_ok (rs := [.tmp 2 22]) Try.func77 rfl Try.ntmps77 (by kernel_rfl) rfl (by decide) F77 (np := 1) ?_ ?_
  · intro ts h; unfold F77; split <;> first | rfl | (simp at h; done)
  intro ts H r hF hwf
  unfold F77 at hF
  split at hF <;> try (cases hF; done)
  split at hF <;> try (cases hF; done)
  rename_i t ht
  split at hF
  case isFalse => cases hF
  rename_i hc
  have hc := hc
  cases hF
  obtain rfl := inv_inv ht
  have hb := rbare_c hc
  obtain ⟨hbl, hwl⟩ := counts_len hc
  have hcw : ∀ i, (cat witB (t.ins.take i)).length ≤ (wholeB t).length := fun i => by
    have := cat_take_le witB t.ins i
    unfold wholeB; rw [List.length_append]; omega
  have hwh : wholeB t = bareB t ++ cat witB t.ins := rfl
  obtain ⟨c1, c2, c3, c4⟩ := countsB_ok hc
  generalize bareB t = B at *
  generalize wholeB t = W0 at *
  obtain ⟨v, is, os, k⟩ := t
  dsimp only at c1 c2 c3 c4 hcw hwh
  have hyu : txT ⟨v, is, os, k⟩ = .st [.int .u32 (v.toNat : Int), .sq 35 (is.map inT), .sq 2 (os.map outT), .int .u32 (k.toNat : Int)] := rfl
  rw [hyu] at hb
  rw [hyu]
  repeat refine St hb ct77 ?_
  refine AWP.loop (G := { i : Nat // i ≤ is.length }) (fun i => ⟨[(1, .ptr 0 0 []), (3, .own 1), (4, .t (.int .i64 (i.1 : Int)))], [.bx (.t (.st [.int .u32 (v.toNat : Int), .sq 35 (is.map inT), .sq 2 (os.map outT), .int .u32 (k.toNat : Int)])), .by (B ++ cat witB (is.take i.1))]⟩) (fun i => is.length - i.1) ⟨0, by omega⟩ (Wt (And.intro @cat_nil <| @List.take_zero.{0}) [1, 3, 4] [0, 1]) ?_
  intro ⟨i, hi⟩
  dsimp only
  have hci := hcw i
  by_cases hlt : (i : Int) < (is.length : Int)
  · have hlt' : i < is.length := by omega
    have hget := in_getD is i hlt'
    have hcat := cat_take witB dIn is i hlt'
    have hwx := c4 (is.getD i dIn) (by simp [hlt'])
    generalize is.getD i dIn = x at *
    have hfx := flat_le 1000 x.wit hwx.2
    have hfx2 : (flat x.wit).length ≤ 30 * 1009 := Nat.le_trans hfx (Nat.mul_le_mul_right _ hwx.1)
    have p1 := rputlist (B ++ cat witB (is.take i)) x.wit (by simp only [List.length_append]; omega)
    have hin : witB x = sizeB x.wit.length ++ flat x.wit := rfl
    repeat refine St (And.intro hlt <| And.intro hlt' <| And.intro hget <| And.intro @inT.eq_def <| And.intro @refT.eq_def <| p1) ct77 ?_
    exact ⟨⟨i + 1, by omega⟩, (Wt (And.intro hcat <| And.intro hin <| @List.append_assoc.{0}) [1, 3, 4] [0, 2]), by simp only; omega⟩
  obtain rfl : i = is.length := by omega
  rw [List.take_length]
  repeat refine St hlt ct77 ?_
  exact AWP.ret (Fin hwh [] [1])

theorem rwhole_c {t : TTx} (h : countsB t = true) : F77 [txT t] = some ([.by (wholeB t)], .own 0) := by
  simp only [F77, inv_of txT_inj]; exact if_pos h

noncomputable def F46 : Fun
  | [y] => match inv txT y with
    | some t => some ([], .t (.int .i64 (chkE t)))
    | none => none
  | _ => none

theorem ct46 : CT [(76, ⟨[false], treeG F76⟩), (77, ⟨[false], treeG F77⟩)] [0, 1, 2, 5, 9] [] := ⟨(.cons c76.g (.cons c77.g (.nil _)))⟩

theorem c46 : ACon Try.prog 46 F46 := by
  refine aconc E_ok (rs := [.tmp 2 31]) Try.func46 rfl Try.ntmps46 (by kernel_rfl) rfl (by decide) F46 (np := 1) ?_ ?_
  · intro ts h; unfold F46; split <;> first | rfl | (simp at h; done)
  intro ts H r hF hwf
  unfold F46 at hF
  split at hF <;> try (cases hF; done)
  split at hF <;> try (cases hF; done)
  rename_i t ht
  cases hF
  obtain rfl := inv_inv ht
  have h1 := rcounts_c t
  rcases chk_cases t with ⟨e1, e2⟩ | ⟨e1, e2, e3⟩ | ⟨e1, e2, e3⟩
  · rw [e1] at h1
    rw [txT_st] at h1 ⊢
    repeat refine St h1 ct46 ?_
    exact AWP.ret (Fin e2 [] [])
  · have h2 := rwhole_c e1
    rw [e1] at h1
    rw [txT_st] at h1 h2 ⊢
    generalize wholeB t = w0 at *
    have h3 : 12000 < (w0.length : Int) := by omega
    repeat refine St (And.intro h1 <| And.intro h2 <| h3) ct46 ?_
    exact AWP.ret (Fin e3 [] [])
  · have h2 := rwhole_c e1
    rw [e1] at h1
    rw [txT_st] at h1 h2 ⊢
    generalize wholeB t = w0 at *
    have h3 : ¬ 12000 < (w0.length : Int) := by omega
    repeat refine St (And.intro h1 <| And.intro h2 <| h3) ct46 ?_
    exact AWP.ret (Fin e3 [] [])

theorem rcheck_c (t : TTx) : F46 [txT t] = some ([], .t (.int .i64 (chkE t))) := by
  simp only [F46, inv_of txT_inj]

noncomputable def F79 : Fun
  | [y] => match inv txT y with
    | some t => some ([], .t (.by (whoO t)))
    | none => none
  | _ => none

theorem ct79 : CT [(46, ⟨[false], treeG F46⟩), (77, ⟨[false], treeG F77⟩)] [0, 1, 2, 5] [] := ⟨(.cons c46.g (.cons c77.g (.nil _)))⟩

theorem c79 : ACon Try.prog 79 F79 := by
  refine aconc E_ok (rs := [.tmp 2 22]) Try.func79 rfl Try.ntmps79 (by kernel_rfl) rfl (by decide) F79 (np := 1) ?_ ?_
  · intro ts h; unfold F79; split <;> first | rfl | (simp at h; done)
  intro ts H r hF hwf
  unfold F79 at hF
  split at hF <;> try (cases hF; done)
  split at hF <;> try (cases hF; done)
  rename_i t ht
  cases hF
  obtain rfl := inv_inv ht
  have h1 := rcheck_c t
  rcases chk_two t with ⟨e1, e2, e3⟩ | ⟨e1, e2⟩
  · have h2 := rwhole_c e2
    have e4 : whoO t = wholeB t := if_pos (fit_of e2 e3)
    rw [e1] at h1
    rw [e4]
    rw [txT_st] at h1 h2 ⊢
    generalize wholeB t = w0 at *
    repeat refine St (And.intro h1 <| h2) ct79 ?_
    exact AWP.ret (Fin trivial [1] [])
  · have e4 : whoO t = [] := if_neg (by simp [e2])
    rw [e1] at h1
    rw [e4]
    rw [txT_st] at h1 ⊢
    repeat refine St h1 ct79 ?_
    exact AWP.ret (Fin trivial [] [])

noncomputable def F49 : Fun
  | [y] => match inv txT y with
    | some t => some ([], .t (.ba 32 (namO t)))
    | none => none
  | _ => none

theorem ct49 : CT [(41, ⟨[false], treeG F41⟩), (46, ⟨[false], treeG F46⟩), (81, ⟨[false], treeG F81⟩)] [0, 1, 2, 5] [] := ⟨(.cons c41.g (.cons c46.g (.cons c81.g (.nil _))))⟩

theorem rdbl_c1 {b : List UInt8} (h : b.length ≤ 1000000000) : F41 [.by b] = some ([], .t (.ba 32 (shaL (shaL b)))) := if_pos h
theorem c49 : ACon Try.prog 49 F49 := by
  refine aconc E_ok (rs := [.cell 2 25]) Try.func49 rfl Try.ntmps49 (by kernel_rfl) rfl (by decide) F49 (np := 1) ?_ ?_
  · intro ts h; unfold F49; split <;> first | rfl | (simp at h; done)
  intro ts H r hF hwf
  unfold F49 at hF
  split at hF <;> try (cases hF; done)
  split at hF <;> try (cases hF; done)
  rename_i t ht
  cases hF
  obtain rfl := inv_inv ht
  have h1 := rcheck_c t
  rcases chk_two t with ⟨e1, e2, e3⟩ | ⟨e1, e2⟩
  · have h2 := rbare_c e2
    have hl := counts_len e2
    have e4 : namO t = shaL (shaL (bareB t)) := if_pos (fit_of e2 e3)
    have h3 := rdbl_c1 (b := bareB t) (by omega)
    rw [e1] at h1
    rw [e4]
    rw [txT_st] at h1 h2 ⊢
    generalize shaL (shaL (bareB t)) = x at *
    generalize bareB t = w0 at *
    repeat refine St (And.intro h1 <| And.intro h2 <| h3) ct49 ?_
    exact AWP.ret (Fin trivial [] [])
  · have e4 : namO t = zby 32 := if_neg (by simp [e2])
    rw [e1] at h1
    rw [e4]
    rw [txT_st] at h1 ⊢
    repeat refine St h1 ct49 ?_
    exact AWP.ret (Fin trivial [] [])

noncomputable def F52 : Fun
  | [y] => match inv txT y with
    | some t => some ([], .t (.int .i64 (weiO t)))
    | none => none
  | _ => none

theorem ct52 : CT [(46, ⟨[false], treeG F46⟩), (77, ⟨[false], treeG F77⟩), (81, ⟨[false], treeG F81⟩)] [0, 1, 2, 5] [(3, [⟨1, [1], [], []⟩, ⟨1, [6], [0], []⟩, ⟨1, [7], [0, 1], []⟩, ⟨0, [8], [0, 1, 2], []⟩, ⟨1, [1], [], []⟩, ⟨1, [10], [0, 1, 4], []⟩, ⟨1, [11], [0, 1, 4, 5], []⟩, ⟨0, [9, 12], [0, 1, 2, 4, 5, 6], []⟩, ⟨0, [13], [0, 1, 2, 4, 5, 6], []⟩])] := ⟨(.cons c46.g (.cons c77.g (.cons c81.g (.nil _))))⟩

theorem c52 : ACon Try.prog 52 F52 := by
  refine aconc E_ok (rs := [.tmp 2 3]) Try.func52 rfl Try.ntmps52 (by kernel_rfl) rfl (by decide) F52 (np := 1) ?_ ?_
  · intro ts h; unfold F52; split <;> first | rfl | (simp at h; done)
  intro ts H r hF hwf
  unfold F52 at hF
  split at hF <;> try (cases hF; done)
  split at hF <;> try (cases hF; done)
  rename_i t ht
  cases hF
  obtain rfl := inv_inv ht
  have h1 := rcheck_c t
  rcases chk_two t with ⟨e1, e2, e3⟩ | ⟨e1, e2⟩
  · have h2 := rwhole_c e2
    have h3 := rbare_c e2
    obtain ⟨hl1, hl2⟩ := counts_len e2
    have e4 : weiO t = 3 * ((bareB t).length : Int) + ((wholeB t).length : Int) := if_pos (fit_of e2 e3)
    rw [e1] at h1
    rw [e4]
    rw [txT_st] at h1 h2 h3 ⊢
    generalize wholeB t = w0 at *
    generalize bareB t = w1 at *
    have q1 : IntKind.i64.wrap (3 * (w1.length : Int)) = 3 * (w1.length : Int) := wrap_i64 (by omega) (by omega)
    have q2 : IntKind.i64.wrap (3 * (w1.length : Int) + (w0.length : Int)) = 3 * (w1.length : Int) + (w0.length : Int) := wrap_i64 (by omega) (by omega)
    repeat refine St (And.intro h1 <| And.intro h2 <| And.intro h3 <| And.intro q1 <| q2) ct52 ?_
    exact AWP.ret (Fin trivial [] [])
  · have e4 : weiO t = 0 := if_neg (by simp [e2])
    rw [e1] at h1
    rw [e4]
    rw [txT_st] at h1 ⊢
    repeat refine St h1 ct52 ?_
    exact AWP.ret (Fin trivial [] [])

end Go.Fw

end

section
/- tx's answer: the reader. -/
namespace Go.Fw
open Go Go.Proofs
set_option linter.unusedVariables false
set_option linter.unusedSimpArgs false

def hsf9 (l : List UInt8) (i : Nat) : List UInt8 := l.take i ++ List.replicate (32 - i) 0
theorem hsh_len {l : List UInt8} {i : Nat} (h : l.length = 32) (hi : i ≤ 32) : (hsf9 l i).length = 32 := by simp [hsf9]; omega
theorem hsh_set {l : List UInt8} {i : Nat} (h : l.length = 32) (hi : i < 32) : (hsf9 l i).set i (l.getD i 0) = hsf9 l (i + 1) := by
  unfold hsf9
  rw [show 32 - i = (32 - (i + 1)) + 1 by omega, List.replicate_succ, List.set_append_right _ _ (by simp; omega)]
  have e : i - (l.take i).length = 0 := by simp; omega
  rw [e, List.set_cons_zero, List.take_succ_eq_append_getElem (by omega), List.append_assoc]
  have : l.getD i 0 = l[i] := by simp [show i < l.length by omega]
  rw [this]; rfl
theorem hsh_0 (l : List UInt8) : hsf9 l 0 = zby 32 := rfl
theorem hsh_32 {l : List UInt8} (h : l.length = 32) : hsf9 l 32 = l := by unfold hsf9; rw [List.take_of_length_le (by omega)]; simp

def F37 : Fun
  | [.by l] => if l.length = 32 then some ([], .t (.ba 32 l)) else if l.length = 0 then some ([], .t (.ba 32 (zby 32))) else none
  | _ => none

theorem ct37 : CT [] [0, 2, 3, 4, 13] [] := ⟨GClOk.nil _⟩

theorem c37 : ACon Try.prog 37 F37 := by
  refine aconc E_ok (rs := [.cell 2 25]) Try.func37 rfl Try.ntmps37 (by kernel_rfl) rfl (by decide) F37 (np := 1) ?_ ?_
  · intro ts h; unfold F37; split <;> first | rfl | (simp at h; done)
  intro ts H r hF hwf
  unfold F37 at hF
  split at hF <;> try (cases hF; done)
  rename_i l
  split at hF
  · rename_i hl
    cases hF
    repeat refine St trivial ct37 ?_
    refine AWP.loop (G := { i : Nat // i ≤ 32 }) (fun i => ⟨[(0, .t (.by l)), (2, .ptr 0 0 []), (3, .ptr 1 0 []), (4, .t (.int .i64 (i.1 : Int)))], [.bx (.t (.ba 32 (zby 32))), .bx (.t (.ba 32 (hsf9 l i.1)))]⟩) (fun i => 32 - i.1) ⟨0, by omega⟩ (Wt @hsh_0 [0, 2, 3, 4] [0, 1]) ?_
    intro ⟨i, hi⟩
    dsimp only
    have hhl := hsh_len hl hi
    by_cases hlt : (i : Int) < (l.length : Int)
    · have hlt' : i < l.length := by omega
      have h32 : (i : Int) < 32 := by omega
      have h32' : i < 32 := by omega
      have hs := hsh_set hl h32'
      have hof : ∀ c : UInt8, UInt8.ofNat c.toNat = c := fun c => by simp
      repeat refine St (And.intro hlt <| And.intro hlt' <| And.intro h32 <| And.intro h32' <| And.intro hs <| And.intro hhl <| And.intro @u8.eq_def <| And.intro hof <| @T.size.eq_def) ct37 ?_
      exact ⟨⟨i + 1, by omega⟩, (Wt trivial [0, 2, 3, 4] [0, 1]), by simp only; omega⟩
    · have hend : hsf9 l i = l := by rw [show i = 32 by omega]; exact hsh_32 hl
      repeat refine St hlt ct37 ?_
      exact AWP.ret (Fin hend [] [])
  · split at hF
    · rename_i hl
      cases hF
      have hlt : ¬ (0 : Int) < (l.length : Int) := by omega
      repeat refine St trivial ct37 ?_
      refine AWP.loop (G := Unit) (fun i => ⟨[(0, .t (.by l)), (2, .ptr 0 0 []), (3, .ptr 1 0 []), (4, .t (.int .i64 0))], [.bx (.t (.ba 32 (zby 32))), .bx (.t (.ba 32 (zby 32)))]⟩) (fun i => 0) () (Wt trivial [0, 2, 3, 4] [0, 1]) ?_
      intro i
      repeat refine St hlt ct37 ?_
      exact AWP.ret (Fin trivial [] [])
    · cases hF

theorem rd0 {α : Type} (t : List UInt8 → α × List UInt8 × Int) (d : α) {b : List UInt8} {e : Int} (h : e ≠ 0) : rdX false t d ⟨b, e⟩ = (d, ⟨b, e⟩) := if_pos h
theorem rd00 {α : Type} (t : List UInt8 → α × List UInt8 × Int) (d : α) (b : List UInt8) : rdX false t d ⟨b, 0⟩ = ((t b).1, ⟨(t b).2.1, (t b).2.2⟩) := if_neg (by simp)

theorem rnum4 (b : List UInt8) (h : b.length ≤ 549755812000) : F59 [.by b, .int .i64 4] = some ([], .tup [.t (.int .u64 ((t32 b).1.toNat : Int)), .t (.by (t32 b).2.1), .t (.int .i64 (t32 b).2.2)]) := by
  rw [number_c b 4 (by omega) (by omega)]
  show _ = some (_, AV.tup [.t (.int .u64 ((UInt32.ofNat (num (spA b 4))).toNat : Int)), _, _])
  rw [u32_num _ (spA_le b 4 4 (by omega))]; rfl
theorem rnum8 (b : List UInt8) (h : b.length ≤ 549755812000) : F59 [.by b, .int .i64 8] = some ([], .tup [.t (.int .u64 ((t64 b).1.toNat : Int)), .t (.by (t64 b).2.1), .t (.int .i64 (t64 b).2.2)]) := by
  rw [number_c b 8 (by omega) (by omega)]
  show _ = some (_, AV.tup [.t (.int .u64 ((UInt64.ofNat (num (spA b 8))).toNat : Int)), _, _])
  rw [u64_num _ (spA_le b 8 8 (by omega))]; rfl

def G60 : GFun
  | [.bx (.t (.st [.by b, .int .i64 e]))], [.ptr 0 0 [], .t (.int .i64 4)] => if b.length ≤ 549755812000 then (let R := rdX false t32 0 ⟨b, e⟩; some ([rB R.2], .t (.int .u64 (R.1.toNat : Int)))) else none
  | [.bx (.t (.st [.by b, .int .i64 e]))], [.ptr 0 0 [], .t (.int .i64 8)] => if b.length ≤ 549755812000 then (let R := rdX false t64 0 ⟨b, e⟩; some ([rB R.2], .t (.int .u64 (R.1.toNat : Int)))) else none
  | _, _ => none

theorem ct60 : CT [(59, ⟨[false, false], treeG F59⟩)] [0, 1, 4, 5, 6, 7, 12] [] := ⟨(.cons c59.g (.nil _))⟩

theorem g60 : GCon Try.prog 60 G60 := by
  refine gconc E_ok (rs := [.tmp 4 57]) Try.func60 rfl Try.ntmps60 (by kernel_rfl) rfl (by decide) G60 (np := 2) ?_ ?_
  · intro HB xs h; unfold G60; split <;> first | rfl | (simp at h; done)
  intro HB xs H r hG hwf hex
  unfold G60 at hG
  split at hG <;> try (cases hG; done)
  · rename_i b e
    split at hG
    case isFalse => cases hG
    rename_i hb
    cases hG
    have h1 := rnum4 b hb
    by_cases he : e = 0
    · subst he
      rw [rd00]
      generalize t32 b = R at *
      repeat refine St (And.intro (And.intro @gentry.eq_1 <| @gentry.eq_2) <| h1) ct60 ?_
      exact AWP.ret (Fin trivial [] [0])
    · rw [rd0 _ _ he]
      have he' : (e != 0) = true := by simpa using he
      repeat refine St (And.intro (And.intro @gentry.eq_1 <| @gentry.eq_2) <| he') ct60 ?_
      exact AWP.ret (Fin @UInt32.toNat_zero [] [0])
  · rename_i b e
    split at hG
    case isFalse => cases hG
    rename_i hb
    cases hG
    have h1 := rnum8 b hb
    by_cases he : e = 0
    · subst he
      rw [rd00]
      generalize t64 b = R at *
      repeat refine St (And.intro (And.intro @gentry.eq_1 <| @gentry.eq_2) <| h1) ct60 ?_
      exact AWP.ret (Fin trivial [] [0])
    · rw [rd0 _ _ he]
      have he' : (e != 0) = true := by simpa using he
      repeat refine St (And.intro (And.intro @gentry.eq_1 <| @gentry.eq_2) <| he') ct60 ?_
      exact AWP.ret (Fin @UInt64.toNat_zero [] [0])

theorem rn32 (s : RSt) (h : s.b.length ≤ 549755812000) : G60 [rB s] [.ptr 0 0 [], .t (.int .i64 4)] = some ([rB (rdX false t32 0 s).2], .t (.int .u64 ((rdX false t32 0 s).1.toNat : Int))) := by
  simp only [G60]; exact if_pos h
theorem rn64 (s : RSt) (h : s.b.length ≤ 549755812000) : G60 [rB s] [.ptr 0 0 [], .t (.int .i64 8)] = some ([rB (rdX false t64 0 s).2], .t (.int .u64 ((rdX false t64 0 s).1.toNat : Int))) := by
  simp only [G60]; exact if_pos h

def G61 : GFun
  | [.bx (.t (.st [.by b, .int .i64 e]))], [.ptr 0 0 [], .t (.int .i64 20)] => if b.length ≤ 549755812000 then (let R := rdCnt false 20 ⟨b, e⟩; some ([rB R.2], .t (.int .i64 (R.1 : Int)))) else none
  | _, _ => none

theorem ct61 : CT [(32, ⟨[false], treeG F32⟩)] [0, 1, 4, 5, 6, 7, 12, 37, 45] [] := ⟨(.cons c32.g (.nil _))⟩

theorem rtsz (b : List UInt8) (h : b.length ≤ 549755812000) : F32 [.by b] = some ([], .tup [.t (.int .u64 ((sz b).1 : Nat)), .t (.by (sz b).2.1), .t (.int .i64 (sz b).2.2)]) := if_pos (by omega)

theorem g61 : GCon Try.prog 61 G61 := by
  refine gconc E_ok (rs := [.tmp 4 3]) Try.func61 rfl Try.ntmps61 (by kernel_rfl) rfl (by decide) G61 (np := 2) ?_ ?_
  · intro HB xs h; unfold G61; split <;> first | rfl | (simp at h; done)
  intro HB xs H r hG hwf hex
  unfold G61 at hG
  split at hG <;> try (cases hG; done)
  rename_i b e
  split at hG
  case isFalse => cases hG
  rename_i hc
  have hb := hc
  cases hG
  have h1 := rtsz b hb
  have hrd : rdCnt false 20 ⟨b, e⟩ = rdX false (tCntD 20) 0 ⟨b, e⟩ := rfl
  rw [hrd]
  have hsl := sz_lt b
  by_cases he : e = 0
  case neg =>
    rw [rd0 _ _ he]
    have he' : (e != 0) = true := by simpa using he
    repeat refine St (And.intro (And.intro @gentry.eq_1 <| @gentry.eq_2) <| he') ct61 ?_
    exact AWP.ret (Fin trivial [] [0])
  subst he
  rw [rd00]
  have hcases : ((sz b).2.2 ≠ 0 ∧ tCntD 20 b = (0, (sz b).2.1, (sz b).2.2)) ∨ ((sz b).2.2 = 0 ∧ 20 < (sz b).1 ∧ tCntD 20 b = (0, (sz b).2.1, 4)) ∨ ((sz b).2.2 = 0 ∧ (sz b).1 ≤ 20 ∧ tCntD 20 b = ((sz b).1, (sz b).2.1, 0)) := by
    unfold tCntD
    by_cases k1 : (sz b).2.2 = 0
    · by_cases k2 : 20 < (sz b).1
      · exact .inr (.inl ⟨k1, k2, if_pos ⟨k1, k2⟩⟩)
      · exact .inr (.inr ⟨k1, by omega, by rw [if_neg (fun h => k2 h.2), if_neg (by simpa using k1)]⟩)
    · exact .inl ⟨k1, by rw [if_neg (fun h => k1 h.1), if_pos k1]⟩
  generalize sz b = Z at *
  obtain ⟨n, rest, f⟩ := Z
  dsimp only at h1 hcases hsl
  rcases hcases with ⟨k1, k2⟩ | ⟨k1, k2, k3⟩ | ⟨k1, k2, k3⟩
  · rw [k2]
    have k1' : (f == 0) = false := by simpa using k1
    have k1n : (f != 0) = true := by simpa using k1
    repeat refine St (And.intro (And.intro @gentry.eq_1 <| @gentry.eq_2) <| And.intro h1 <| And.intro k1' <| k1n) ct61 ?_
    exact AWP.ret (Fin trivial [] [0])
  · rw [k3]
    subst k1
    have k2' : 20 < (n : Int) := by omega
    repeat refine St (And.intro (And.intro @gentry.eq_1 <| @gentry.eq_2) <| And.intro h1 <| k2') ct61 ?_
    exact AWP.ret (Fin trivial [] [0])
  · rw [k3]
    subst k1
    have k2' : ¬ 20 < (n : Int) := by omega
    have hw : IntKind.i64.wrap (n : Int) = (n : Int) := wrap_i64 (by omega) (by omega)
    repeat refine St (And.intro (And.intro @gentry.eq_1 <| @gentry.eq_2) <| And.intro h1 <| And.intro k2' <| hw) ct61 ?_
    exact AWP.ret (Fin trivial [] [0])

theorem rcnt_r (s : RSt) (h : s.b.length ≤ 549755812000) : G61 [rB s] [.ptr 0 0 [], .t (.int .i64 20)] = some ([rB (rdCnt false 20 s).2], .t (.int .i64 ((rdCnt false 20 s).1 : Int))) := by
  simp only [G61]; exact if_pos h

def G64 : GFun
  | [.bx (.t (.st [.by b, .int .i64 e]))], [.ptr 0 0 []] => if b.length ≤ 549755812000 then (let R := rdX false tWit [] ⟨b, e⟩; some ([rB R.2], .t (.sq 1 (R.1.map .by)))) else none
  | _, _ => none

theorem ct64 : CT [(90, ⟨[false, false, false], treeG F90⟩)] [0, 2, 3, 4, 5, 10] [] := ⟨(.cons c90.g (.nil _))⟩

theorem rtwit (b : List UInt8) (h : b.length ≤ 549755812000) : F90 [.by b, .int .i64 30, .int .i64 1000] = some ([], .tup [.t (.sq 1 ((tWit b).1.map .by)), .t (.by (tWit b).2.1), .t (.int .i64 (tWit b).2.2)]) := if_pos (by omega)
theorem rtscr (b : List UInt8) (h : b.length ≤ 549755812000) : F89 [.by b, .int .i64 1000] = some ([], .tup [.t (.by (tScr b).1), .t (.by (tScr b).2.1), .t (.int .i64 (tScr b).2.2)]) := if_pos (by omega)

theorem g64 : GCon Try.prog 64 G64 := by
  refine gconc E_ok (rs := [.tmp 2 88]) Try.func64 rfl Try.ntmps64 (by kernel_rfl) rfl (by decide) G64 (np := 1) ?_ ?_
  · intro HB xs h; unfold G64; split <;> first | rfl | (simp at h; done)
  intro HB xs H r hG hwf hex
  unfold G64 at hG
  split at hG <;> try (cases hG; done)
  rename_i b e
  split at hG
  case isFalse => cases hG
  rename_i hc
  have hb := hc
  cases hG
  have h1 := rtwit b hb
  by_cases he : e = 0
  · subst he
    rw [rd00]
    generalize tWit b = R at *
    repeat refine St (And.intro (And.intro @gentry.eq_1 <| @gentry.eq_2) <| h1) ct64 ?_
    exact AWP.ret (Fin trivial [] [0])
  · rw [rd0 _ _ he]
    have he' : (e != 0) = true := by simpa using he
    repeat refine St (And.intro (And.intro @gentry.eq_1 <| @gentry.eq_2) <| he') ct64 ?_
    exact AWP.ret (Fin (@List.map_nil.{0, 0}) [] [0])

theorem rwit_r (s : RSt) (h : s.b.length ≤ 549755812000) : G64 [rB s] [.ptr 0 0 []] = some ([rB (rdWit false s).2], .t (.sq 1 ((rdWit false s).1.map .by))) := by
  simp only [G64]; exact if_pos h

def G63 : GFun
  | [.bx (.t (.st [.by b, .int .i64 e]))], [.ptr 0 0 []] => if b.length ≤ 549755811000 then (let R := rdOut false ⟨b, e⟩; some ([rB R.2], .t (outT R.1))) else none
  | _, _ => none

theorem ct63 : CT [(60, ⟨[true, false], G60⟩), (89, ⟨[false, false], treeG F89⟩)] [0, 2, 3, 4, 5, 6, 14] [] := ⟨(.cons g60 (.cons c89.g (.nil _)))⟩

theorem g63 : GCon Try.prog 63 G63 := by
  refine gconc E_ok (rs := [.cell 2 93]) Try.func63 rfl Try.ntmps63 (by kernel_rfl) rfl (by decide) G63 (np := 1) ?_ ?_
  · intro HB xs h; unfold G63; split <;> first | rfl | (simp at h; done)
  intro HB xs H r hG hwf hex
  unfold G63 at hG
  split at hG <;> try (cases hG; done)
  rename_i b e
  split at hG
  case isFalse => cases hG
  rename_i hc
  have hb := hc
  cases hG
  have h1 := rn64 ⟨b, e⟩ (Nat.le_trans hb (by omega))
  have hl := rdX_len (P := false) (d := 0) (s := ⟨b, e⟩) t64_len
  unfold rdOut
  obtain ⟨v, s, r1⟩ : ∃ v s, rdX false t64 0 ⟨b, e⟩ = (v, s) := ⟨_, _, rfl⟩
  rw [r1] at h1 hl ⊢
  obtain ⟨b', e'⟩ := s
  dsimp only at h1 hl ⊢
  have h2 := rtscr b' (by omega)
  by_cases he : e' = 0
  · subst he
    rw [rd00]
    generalize tScr b' = R at *
    repeat refine St (And.intro (And.intro @gentry.eq_1 <| @gentry.eq_2) <| And.intro h1 <| h2) ct63 ?_
    exact AWP.ret (Fin @outT.eq_def [] [0])
  · rw [rd0 _ _ he]
    have he' : (e' != 0) = true := by simpa using he
    repeat refine St (And.intro (And.intro @gentry.eq_1 <| @gentry.eq_2) <| And.intro h1 <| he') ct63 ?_
    exact AWP.ret (Fin @outT.eq_def [] [0])

theorem rout_r (s : RSt) (h : s.b.length ≤ 549755811000) : G63 [rB s] [.ptr 0 0 []] = some ([rB (rdOut false s).2], .t (outT (rdOut false s).1)) := by
  simp only [G63]; exact if_pos h

def G62 : GFun
  | [.bx (.t (.st [.by b, .int .i64 e]))], [.ptr 0 0 []] => if b.length ≤ 549755811000 then (let R := rdIn false ⟨b, e⟩; some ([rB R.2], .t (inT R.1))) else none
  | _, _ => none

theorem ct62 : CT [(37, ⟨[false], treeG F37⟩), (60, ⟨[true, false], G60⟩), (88, ⟨[false, false], treeG F88⟩)] [0, 2, 3, 4, 5, 6, 12] [] := ⟨(.cons c37.g (.cons g60 (.cons c88.g (.nil _))))⟩

theorem rtak (b : List UInt8) (h : b.length ≤ 549755812000) : F88 [.by b, .int .i64 32] = some ([], .tup [.t (.by (spA b 32)), .t (.by (spB b 32)), .t (.int .i64 (spE b 32))]) := if_pos (by omega)
theorem u32_back (n : UInt32) : IntKind.u32.wrap (n.toNat : Int) = (n.toNat : Int) := by have := n.toNat_lt; exact wrap_u32 (by omega) (by omega)
theorem zH_2 : zH.1 = zby 32 := rfl

set_option maxHeartbeats 1000000 in
theorem g62 : GCon Try.prog 62 G62 := by
  refine gconc E_ok (rs := [.cell 2 90]) Try.func62 rfl Try.ntmps62 (by kernel_rfl) rfl (by decide) G62 (np := 1) ?_ ?_
  · intro HB xs h; unfold G62; split <;> first | rfl | (simp at h; done)
  intro HB xs H r hG hwf hex
  unfold G62 at hG
  split at hG <;> try (cases hG; done)
  rename_i b e
  split at hG
  case isFalse => cases hG
  rename_i hc
  have hb := hc
  cases hG
  unfold rdIn
  by_cases he : e = 0
  · subst he
    have h1 := rtak b (by omega)
    rw [rd00]
    have htH : tH b = (hOf (spA b 32), spB b 32, spE b 32) := rfl
    rw [htH]
    have hsb := spB_len b 32
    have hh : F37 [.by (spA b 32)] = some ([], .t (.ba 32 (hOf (spA b 32)).1)) := by
      by_cases hx : spE b 32 = 0
      · obtain ⟨q1, q2, q3⟩ := sp_ok hx
        have hl : (spA b 32).length = 32 := by omega
        have ho : (hOf (spA b 32)).1 = spA b 32 := by unfold hOf; rw [dif_pos hl]
        rw [ho]; exact if_pos hl
      · rw [(sp_bad hx).1]
        rfl
    generalize hOf (spA b 32) = h at *
    generalize spA b 32 = x at *
    generalize spE b 32 = f at *
    generalize spB b 32 = y at *
    dsimp only
    have h2 := rn32 ⟨y, f⟩ (by show y.length ≤ _; omega)
    have hl2 := rdX_len (P := false) (d := 0) (s := ⟨y, f⟩) t32_len
    obtain ⟨j, s, r2⟩ : ∃ v s, rdX false t32 0 ⟨y, f⟩ = (v, s) := ⟨_, _, rfl⟩
    rw [r2] at h2 hl2 ⊢
    dsimp only at h2 hl2 ⊢
    have h3 := rn32 s (by omega)
    obtain ⟨q, s', r3⟩ : ∃ v s', rdX false t32 0 s = (v, s') := ⟨_, _, rfl⟩
    rw [r3] at h3 ⊢
    dsimp only at h3 ⊢
    have h32 := h.2
    repeat refine St (And.intro (And.intro @gentry.eq_1 <| @gentry.eq_2) <| And.intro h1 <| And.intro hh <| And.intro h2 <| And.intro h3 <| And.intro h32 <| @u32_back) ct62 ?_
    exact AWP.ret (Fin (And.intro @inT.eq_def <| And.intro @refT.eq_def <| @List.map_nil.{0, 0}) [] [0])
  · rw [rd0 _ _ he, rd0 _ _ he, rd0 _ _ he]
    have he' : (e != 0) = true := by simpa using he
    repeat refine St (And.intro (And.intro @gentry.eq_1 <| @gentry.eq_2) <| he') ct62 ?_
    exact AWP.ret (Fin (And.intro @inT.eq_def <| And.intro @refT.eq_def <| And.intro @List.map_nil.{0, 0} <| And.intro @zH_2 <| @UInt32.toNat_zero) [] [0])

theorem rin_r (s : RSt) (h : s.b.length ≤ 549755811000) : G62 [rB s] [.ptr 0 0 []] = some ([rB (rdIn false s).2], .t (inT (rdIn false s).1)) := by
  simp only [G62]; exact if_pos h

end Go.Fw

end

section
/- tx's answer: taking, decoding. -/
namespace Go.Fw
open Go Go.Proofs
set_option linter.unusedVariables false
set_option linter.unusedSimpArgs false

noncomputable def F33 : Fun
  | [.by b] => if b.length ≤ 549755800000 then some (txR (takTx b)) else none
  | _ => none

theorem ct33 : CT [(60, ⟨[true, false], G60⟩), (61, ⟨[true, false], G61⟩), (62, ⟨[true], G62⟩), (63, ⟨[true], G63⟩), (64, ⟨[true], G64⟩)] [0, 2, 3, 4, 5, 6, 7, 8, 9, 10, 11, 12, 13, 25, 40, 57, 82, 90] [(19, [⟨0, [6], [], []⟩, ⟨0, [60], [], [2]⟩, ⟨0, [13], [], []⟩, ⟨0, [5], [], []⟩, ⟨2, [63], [], [2]⟩, ⟨1, [61, 62], [4], []⟩, ⟨0, [65], [4, 5], []⟩, ⟨2, [64, 66], [4, 5], [2]⟩]), (23, [⟨1, [], [], []⟩, ⟨0, [5], [], []⟩, ⟨0, [92], [], []⟩, ⟨0, [93], [], []⟩, ⟨0, [94], [], [1]⟩, ⟨2, [2, 91], [0], [1]⟩, ⟨0, [], [0, 5], []⟩, ⟨0, [95], [0, 5], []⟩]), (24, [⟨0, [6], [], [1, 2]⟩, ⟨0, [5], [], []⟩, ⟨0, [97], [], []⟩, ⟨0, [98], [], []⟩, ⟨0, [99], [], [1, 2]⟩, ⟨2, [2, 96], [], [1, 2]⟩, ⟨0, [100], [5], []⟩, ⟨0, [], [5], []⟩])] := ⟨(.cons g60 (.cons g61 (.cons g62 (.cons g63 (.cons g64 (.nil _))))))⟩

set_option maxHeartbeats 4000000 in
theorem c33 : ACon Try.prog 33 F33 := by
  refine aconc E_ok (rs := [.cell 2 55, .tmp 3 22, .tmp 4 31]) Try.func33 rfl Try.ntmps33 (by kernel_rfl) rfl (by decide) F33 (np := 1) ?_ ?_
  · intro ts h; unfold F33; split <;> first | rfl | (simp at h; done)
  intro ts H r hF hwf
  unfold F33 at hF
  split at hF <;> try (cases hF; done)
  rename_i b
  split at hF
  case isFalse => cases hF
  rename_i hb
  have hF' : txR (takTx b) = (H, r) := Option.some.inj hF
  clear hF
  have l1 := rdX_len (P := false) (d := 0) (s := ⟨b, 0⟩) t32_len
  obtain ⟨v, s1, e1⟩ : ∃ v s1, rdX false t32 0 ⟨b, 0⟩ = (v, s1) := ⟨_, _, rfl⟩
  rw [e1] at l1
  replace l1 : s1.b.length ≤ 549755800000 := Nat.le_trans l1 hb
  have l2 := cnt_len (P := false) (m := 20) (s := s1)
  have hn := cnt_most false 20 s1
  obtain ⟨n, s2, e2⟩ : ∃ v s1', rdCnt false 20 s1 = (v, s1') := ⟨_, _, rfl⟩
  rw [e2] at l2 hn
  replace l2 : s2.b.length ≤ 549755800000 := Nat.le_trans l2 l1
  dsimp only at hn
  have hlen : ∀ {α : Type} (f : RSt → α × RSt) (hf : ∀ s, (f s).2.b.length ≤ s.b.length) (s : RSt), s.b.length ≤ 549755800000 → ∀ i, (rdN f i s).2.b.length ≤ 549755800000 := fun f hf s hs i => by
    induction i with
    | zero => exact hs
    | succ i ih => rw [rdN_snoc]; exact Nat.le_trans (hf _) ih
  have hfin : ∀ s, (rdIn false s).2.b.length ≤ s.b.length := fun s => Nat.le_trans (rdX_len t32_len) (Nat.le_trans (rdX_len t32_len) (rdX_len tH_len))
  have hfout : ∀ s, (rdOut false s).2.b.length ≤ s.b.length := fun s => Nat.le_trans (rdX_len tScr_len) (rdX_len t64_len)
  have hfwit : ∀ s, (rdWit false s).2.b.length ≤ s.b.length := fun s => rdX_len tWit_len
  have lis := hlen (rdIn false) hfin s2 l2
  obtain ⟨is, s3, e3⟩ : ∃ is s3, rdN (rdIn false) n s2 = (is, s3) := ⟨_, _, rfl⟩
  have l3 : s3.b.length ≤ 549755800000 := by have := lis n; rw [e3] at this; exact this
  have l4 := cnt_len (P := false) (m := 20) (s := s3)
  have hm := cnt_most false 20 s3
  obtain ⟨m, s4, e4⟩ : ∃ v s1', rdCnt false 20 s3 = (v, s1') := ⟨_, _, rfl⟩
  rw [e4] at l4 hm
  replace l4 : s4.b.length ≤ 549755800000 := Nat.le_trans l4 l3
  dsimp only at hm
  have los := hlen (rdOut false) hfout s4 l4
  obtain ⟨os, s5, e5⟩ : ∃ is s3, rdN (rdOut false) m s4 = (is, s3) := ⟨_, _, rfl⟩
  have l5 : s5.b.length ≤ 549755800000 := by have := los m; rw [e5] at this; exact this
  have l6 := rdX_len (P := false) (d := 0) (s := s5) t32_len
  obtain ⟨k, s6, e6⟩ : ∃ v s1, rdX false t32 0 s5 = (v, s1) := ⟨_, _, rfl⟩
  rw [e6] at l6
  replace l6 : s6.b.length ≤ 549755800000 := Nat.le_trans l6 l5
  have lws := hlen (rdWit false) hfwit s6 l6
  have hil : is.length = n := by have := rdN_len (rdIn false) n s2; rw [e3] at this; exact this
  have hol : os.length = m := by have := rdN_len (rdOut false) m s4; rw [e5] at this; exact this
  have hall : rdTx false ⟨b, 0⟩ = (⟨v, wits is (rdN (rdWit false) is.length s6).1, os, k⟩, (rdN (rdWit false) is.length s6).2) := by
    unfold rdTx; simp only [e1, e2, e3, e4, e5, e6]
  have q1 := rn32 ⟨b, 0⟩ (Nat.le_trans hb (by omega))
  rw [e1] at q1
  have q2 := rcnt_r s1 (by omega)
  rw [e2] at q2
  dsimp only at q1 q2
  repeat refine St (And.intro q1 <| And.intro q2 <| @u32_back) ct33 ?_
  refine AWP.weak (Weak.ownBx (v' := _) 2 [1] 1 (.sq 35 []) rfl (by simp only [W, eqq, ↓reduceIte, Nat.reduceEqDiff, Nat.reduceLT, Nat.reduceLeDiff, Nat.reduceAdd, Nat.reduceMul, Nat.reduceSub, Nat.reduceBEq, Int.reduceLE, Int.reduceLT, Int.reduceNeg, Int.reduceToNat, Int.reduceEq, Int.reduceBEq, Int.reduceBNe, Nat.reduceBNe, bne_self_eq_false, reduceCtorEq, gt_iff_lt, ge_iff_le]) (by simp only [W, eqq, ↓reduceIte, Nat.reduceEqDiff, Nat.reduceLT, Nat.reduceLeDiff, Nat.reduceAdd, Nat.reduceMul, Nat.reduceSub, Nat.reduceBEq, Int.reduceLE, Int.reduceLT, Int.reduceNeg, Int.reduceToNat, Int.reduceEq, Int.reduceBEq, Int.reduceBNe, Nat.reduceBNe, bne_self_eq_false, reduceCtorEq, gt_iff_lt, ge_iff_le]) (by simp only [W, eqq, ↓reduceIte, Nat.reduceEqDiff, Nat.reduceLT, Nat.reduceLeDiff, Nat.reduceAdd, Nat.reduceMul, Nat.reduceSub, Nat.reduceBEq, Int.reduceLE, Int.reduceLT, Int.reduceNeg, Int.reduceToNat, Int.reduceEq, Int.reduceBEq, Int.reduceBNe, Nat.reduceBNe, bne_self_eq_false, reduceCtorEq, gt_iff_lt, ge_iff_le]; rfl) (.inr ⟨_, by decide, rfl⟩)) ?_
  refine AWP.loop (G := { i : Nat // i ≤ n }) (fun i => ⟨[(0, .t (.by b)), (2, .ptr 0 0 []), (5, .ptr 1 0 []), (6, .ptr 2 0 []), (7, .t (.int .i64 (n : Int))), (8, .t (.int .i64 (i.1 : Int)))], [.bx (.t (.st [.int .u32 0, .nil, .nil, .int .u32 0])), rB (rdN (rdIn false) i.1 s2).2, .bx (.st [.t (.int .u32 (v.toNat : Int)), .own 3, .t .nil, .t (.int .u32 0)]), .sq 35 ((rdN (rdIn false) i.1 s2).1.map inT)]⟩) (fun i => n - i.1) ⟨0, by omega⟩ (Wt (And.intro (And.intro @rdN.eq_1 <| @rdN.eq_2) <| @List.map_nil.{0, 0}) [0, 2, 5, 6, 7, 8] [0, 1, 2, 3]) ?_
  intro ⟨i, hi⟩
  dsimp only
  have hsn := rdN_snoc (rdIn false) i s2
  have hln := rdN_len (rdIn false) i s2
  have hli := lis i
  have h3i : i = n → rdN (rdIn false) i s2 = (is, s3) := fun h => h ▸ e3
  generalize rdN (rdIn false) i s2 = R at *
  obtain ⟨acc, s⟩ := R
  dsimp only at hsn hln hli h3i ⊢
  by_cases hlt : (i : Int) < (n : Int)
  · have p1 := rin_r s (by omega)
    obtain ⟨x, t3, r3⟩ : ∃ v s1, rdIn false s = (v, s1) := ⟨_, _, rfl⟩
    rw [r3] at p1 hsn
    dsimp only at p1 hsn
    have hmm : (acc ++ [x]).map inT = acc.map inT ++ [inT x] := by rw [List.map_append]; rfl
    have hal : (acc.map inT).length ≤ 1000 := by rw [List.length_map]; omega
    have hxi : inT x = .st [.st [.ba 32 x.prev.1, .int .u32 (x.idx.toNat : Int)], .int .u32 (x.seq.toNat : Int), .sq 1 (x.wit.map .by)] := rfl
    rw [hxi] at p1 hmm
    repeat refine St (And.intro hlt <| And.intro p1 <| hal) ct33 ?_
    exact ⟨⟨i + 1, by omega⟩, (Wt (And.intro hsn <| hmm) [0, 2, 5, 6, 7, 8] [0, 1, 2, 6]), by simp only; omega⟩
  obtain rfl : i = n := by omega
  have h3e := h3i rfl
  cases h3e
  have q4 := rcnt_r s3 (by omega)
  rw [e4] at q4
  dsimp only at q4
  repeat refine St (And.intro hlt <| q4) ct33 ?_
  refine AWP.weak (Weak.ownBx (v' := _) 2 [2] 2 (.sq 2 []) rfl (by simp only [W, eqq, ↓reduceIte, Nat.reduceEqDiff, Nat.reduceLT, Nat.reduceLeDiff, Nat.reduceAdd, Nat.reduceMul, Nat.reduceSub, Nat.reduceBEq, Int.reduceLE, Int.reduceLT, Int.reduceNeg, Int.reduceToNat, Int.reduceEq, Int.reduceBEq, Int.reduceBNe, Nat.reduceBNe, bne_self_eq_false, reduceCtorEq, gt_iff_lt, ge_iff_le]) (by simp only [W, eqq, ↓reduceIte, Nat.reduceEqDiff, Nat.reduceLT, Nat.reduceLeDiff, Nat.reduceAdd, Nat.reduceMul, Nat.reduceSub, Nat.reduceBEq, Int.reduceLE, Int.reduceLT, Int.reduceNeg, Int.reduceToNat, Int.reduceEq, Int.reduceBEq, Int.reduceBNe, Nat.reduceBNe, bne_self_eq_false, reduceCtorEq, gt_iff_lt, ge_iff_le]) (by simp only [W, eqq, ↓reduceIte, Nat.reduceEqDiff, Nat.reduceLT, Nat.reduceLeDiff, Nat.reduceAdd, Nat.reduceMul, Nat.reduceSub, Nat.reduceBEq, Int.reduceLE, Int.reduceLT, Int.reduceNeg, Int.reduceToNat, Int.reduceEq, Int.reduceBEq, Int.reduceBNe, Nat.reduceBNe, bne_self_eq_false, reduceCtorEq, gt_iff_lt, ge_iff_le]; rfl) (.inr ⟨_, by decide, rfl⟩)) ?_
  refine AWP.loop (G := { j : Nat // j ≤ m }) (fun j => ⟨[(0, .t (.by b)), (2, .ptr 0 0 []), (5, .ptr 1 0 []), (6, .ptr 2 0 []), (7, .t (.int .i64 (i : Int))), (10, .t (.int .i64 (m : Int))), (11, .t (.int .i64 (j.1 : Int)))], [.bx (.t (.st [.int .u32 0, .nil, .nil, .int .u32 0])), rB (rdN (rdOut false) j.1 s4).2, .bx (.st [.t (.int .u32 (v.toNat : Int)), .own 3, .own 4, .t (.int .u32 0)]), .sq 35 (is.map inT), .sq 2 ((rdN (rdOut false) j.1 s4).1.map outT)]⟩) (fun j => m - j.1) ⟨0, by omega⟩ (Wt (And.intro (And.intro @rdN.eq_1 <| @rdN.eq_2) <| @List.map_nil.{0, 0}) [0, 2, 5, 6, 7, 10, 11] [0, 1, 2, 3, 4]) ?_
  intro ⟨j, hj⟩
  dsimp only
  have hsn := rdN_snoc (rdOut false) j s4
  have hln := rdN_len (rdOut false) j s4
  have hli := los j
  have h5i : j = m → rdN (rdOut false) j s4 = (os, s5) := fun h => h ▸ e5
  generalize rdN (rdOut false) j s4 = R at *
  obtain ⟨acc, s⟩ := R
  dsimp only at hsn hln hli h5i ⊢
  by_cases hlt : (j : Int) < (m : Int)
  · have p1 := rout_r s (by omega)
    obtain ⟨x, t3, r3⟩ : ∃ v s1, rdOut false s = (v, s1) := ⟨_, _, rfl⟩
    rw [r3] at p1 hsn
    dsimp only at p1 hsn
    have hmm : (acc ++ [x]).map outT = acc.map outT ++ [outT x] := by rw [List.map_append]; rfl
    have hal : (acc.map outT).length ≤ 1000 := by rw [List.length_map]; omega
    have hxi : outT x = .st [.int .u64 (x.val.toNat : Int), .by x.scr] := rfl
    rw [hxi] at p1 hmm
    repeat refine St (And.intro hlt <| And.intro p1 <| hal) ct33 ?_
    exact ⟨⟨j + 1, by omega⟩, (Wt (And.intro hsn <| hmm) [0, 2, 5, 6, 7, 10, 11] [0, 1, 2, 3, 7]), by simp only; omega⟩
  obtain rfl : j = m := by omega
  have h5e := h5i rfl
  cases h5e
  have q6 := rn32 s5 (by omega)
  rw [e6] at q6
  dsimp only at q6
  have his : is.length ≤ 1000 := by omega
  repeat refine St (And.intro hlt <| And.intro q6 <| @u32_back) ct33 ?_
  refine AWP.loop (G := { i : Nat // i ≤ is.length }) (fun i => ⟨[(0, .t (.by b)), (2, .ptr 0 0 []), (5, .ptr 1 0 []), (6, .ptr 2 0 []), (7, .t (.int .i64 (is.length : Int))), (13, .t (.int .i64 (i.1 : Int)))], [.bx (.t (.st [.int .u32 0, .nil, .nil, .int .u32 0])), rB (rdN (rdWit false) i.1 s6).2, .bx (.st [.t (.int .u32 (v.toNat : Int)), .own 3, .own 4, .t (.int .u32 (k.toNat : Int))]), .sq 35 ((wits is (rdN (rdWit false) i.1 s6).1).map inT), .sq 2 (os.map outT)]⟩) (fun i => is.length - i.1) ⟨0, by omega⟩ (Wt (And.intro (And.intro @rdN.eq_1 <| @rdN.eq_2) <| And.intro @wits_nil <| hil) [0, 2, 5, 6, 7, 13] [0, 1, 2, 3, 4]) ?_
  clear hlt
  intro ⟨i, hi⟩
  dsimp only
  have hsn := rdN_snoc (rdWit false) i s6
  have hln := rdN_len (rdWit false) i s6
  have hli := lws i
  by_cases hlt : (i : Int) < (is.length : Int)
  · generalize rdN (rdWit false) i s6 = R at *
    obtain ⟨acc, s⟩ := R
    dsimp only at hsn hln hli ⊢
    have hlt' : i < is.length := by omega
    have p1 := rwit_r s (by omega)
    obtain ⟨w, t1, r1⟩ : ∃ v s1, rdWit false s = (v, s1) := ⟨_, _, rfl⟩
    rw [r1] at p1 hsn
    dsimp only at p1 hsn
    obtain ⟨hget, hset⟩ := wits_set is acc w i hln hlt'
    generalize is.getD i dIn = x at hget hset
    have hget' : ((wits is acc).map inT).getD i default = T.st [.st [.ba 32 x.prev.1, .int .u32 (x.idx.toNat : Int)], .int .u32 (x.seq.toNat : Int), .sq 1 (x.wit.map .by)] := hget
    have hset' : ((wits is acc).map inT).set i (T.st [.st [.ba 32 x.prev.1, .int .u32 (x.idx.toNat : Int)], .int .u32 (x.seq.toNat : Int), .sq 1 (w.map .by)]) = (wits is (acc ++ [w])).map inT := hset
    have hwl : i < (wits is acc).length := by rw [wits_len]; exact hlt'
    have h32 := x.prev.2
    repeat refine St (And.intro hlt <| And.intro p1 <| And.intro hwl <| And.intro hget' <| And.intro hset' <| h32) ct33 ?_
    exact ⟨⟨i + 1, by omega⟩, (Wt hsn [0, 2, 5, 6, 7, 13] [0, 1, 2, 3, 4]), by simp only; omega⟩
  obtain rfl : i = is.length := by omega
  have l7 := lws is.length
  generalize rdN (rdWit false) is.length s6 = R at *
  obtain ⟨ws, s7⟩ := R
  dsimp only at l7 hall ⊢
  have hgo := (goodTx false).ok b
  have hge := (goodTx false).err b
  rw [hall] at hgo hge
  cases hp : pTx b with
  | ok t x =>
    obtain ⟨rfl, rfl⟩ := Prod.mk.inj (hgo t x hp)
    dsimp only at l7 ⊢
    have hlx : x.length ≤ b.length := by
      have h := rdTx_len (P := false) ⟨b, 0⟩
      rw [hall] at h; exact h
    have hw : IntKind.i64.wrap ((b.length : Int) - (x.length : Int)) = ((b.length - x.length : Nat) : Int) := by rw [wrap_i64 (by omega) (by omega)]; omega
    by_cases h2 : b.length - x.length ≤ 12000
    · have h3 : ¬ 12000 < ((b.length - x.length : Nat) : Int) := by omega
      have e : takTx b = .ok ⟨v, wits is ws, os, k⟩ x := by unfold takTx; rw [hp]; exact if_pos h2
      rw [e] at hF'
      cases hF'
      repeat refine St (And.intro hlt <| And.intro hw <| h3) ct33 ?_
      exact AWP.ret (Fin @txT.eq_def [3, 4] [])
    · have h3 : 12000 < ((b.length - x.length : Nat) : Int) := by omega
      have e : takTx b = .err 4 := by unfold takTx; rw [hp]; exact if_neg h2
      rw [e] at hF'
      cases hF'
      repeat refine St (And.intro hlt <| And.intro hw <| h3) ct33 ?_
      exact AWP.ret (Fin @dTx_T [] [])
  | err e =>
    obtain ⟨he, h2⟩ := hge e hp
    have e : takTx b = .err e := by unfold takTx; rw [hp]
    rw [e] at hF'
    cases hF'
    obtain ⟨x, e'⟩ := s7
    dsimp only at l7 h2 ⊢
    subst h2
    have hlx : x.length ≤ b.length := by
      have h := rdTx_len (P := false) ⟨b, 0⟩
      rw [hall] at h; exact h
    have hw : IntKind.i64.wrap ((b.length : Int) - (x.length : Int)) = ((b.length - x.length : Nat) : Int) := by rw [wrap_i64 (by omega) (by omega)]; omega
    have h5 : (e' != 0) = true := by simpa using he
    have h6 : (e' == 0) = false := by simpa using he
    repeat refine St (And.intro hlt <| And.intro hw <| And.intro h5 <| h6) ct33 ?_
    exact AWP.ret (Fin @dTx_T [] [])

theorem rtake_t {b : List UInt8} (h : b.length ≤ 549755800000) : F33 [.by b] = some (txR (takTx b)) := if_pos h


end Go.Fw

end

section
/- tx's answer: alike. -/
namespace Go.Fw
open Go Go.Proofs
set_option linter.unusedVariables false
set_option linter.unusedSimpArgs false

noncomputable def F34 : Fun
  | [x, y] => match inv txT x, inv txT y with
    | some a, some b => some ([], .t (.bool (decide (a = b))))
    | _, _ => none
  | _ => none

theorem ct34 : CT [(65, ⟨[false, false], treeG F65⟩)] [0, 1, 2, 3, 4, 5, 6, 7, 8, 38, 43, 75, 80, 112] [(6, [⟨0, [2], [], []⟩, ⟨1, [46], [], []⟩, ⟨0, [5], [], []⟩, ⟨1, [47, 48], [1], []⟩, ⟨1, [49], [1, 3], []⟩, ⟨0, [3], [], []⟩, ⟨0, [51], [], [0, 1]⟩, ⟨0, [5], [], []⟩, ⟨0, [52, 53], [], []⟩, ⟨0, [54], [], []⟩, ⟨1, [], [], []⟩, ⟨1, [], [], []⟩, ⟨2, [6, 50], [1, 3, 4, 10, 11], [0, 1]⟩, ⟨2, [7, 55], [1, 3, 4, 10, 11, 12], [0, 1]⟩]), (12, [⟨0, [2], [], []⟩, ⟨1, [83], [], []⟩, ⟨0, [8], [], []⟩, ⟨0, [84, 85], [1], []⟩, ⟨0, [86], [1], []⟩, ⟨0, [87], [1], []⟩, ⟨0, [3], [], []⟩, ⟨1, [89], [], []⟩, ⟨0, [8], [], []⟩, ⟨0, [90, 91], [7], []⟩, ⟨0, [92], [7], []⟩, ⟨0, [93], [7], []⟩, ⟨0, [88, 94], [1, 7], []⟩, ⟨0, [95], [1, 7], []⟩, ⟨0, [2], [1, 7], []⟩, ⟨1, [97], [1, 7], []⟩, ⟨0, [8], [1, 7], []⟩, ⟨0, [98, 99], [1, 7, 15], []⟩, ⟨0, [100], [1, 7, 15], []⟩, ⟨0, [101], [1, 7, 15], []⟩, ⟨1, [102], [1, 7, 15], []⟩, ⟨0, [3], [1, 7], []⟩, ⟨1, [104], [1, 7], []⟩, ⟨0, [8], [1, 7], []⟩, ⟨0, [105, 106], [1, 7, 22], []⟩, ⟨0, [107], [1, 7, 22], []⟩, ⟨0, [108], [1, 7, 22], []⟩, ⟨1, [109], [1, 7, 22], []⟩, ⟨0, [103, 110], [1, 7, 15, 20, 22, 27], []⟩, ⟨0, [96, 111], [1, 7, 15, 20, 22, 27], []⟩])] := ⟨(.cons c65.g (.nil _))⟩

theorem rsame_l (l m : List (List UInt8)) : F65 [.sq 1 (l.map .by), .sq 1 (m.map .by)] = some ([], .t (.bool (l == m))) := by
  simp only [F65, asBys_map]

theorem i_ne {a b : Int} (h : a ≠ b) : (a != b) = true := by rw [bne_iff_ne]; exact h
theorem i_eq {a b : Int} (h : a = b) : (a != b) = false := by rw [bne_eq_false_iff_eq]; exact h

set_option maxHeartbeats 4000000 in
theorem c34 : ACon Try.prog 34 F34 := by
  refine aconc E_ok (rs := [.tmp 4 4]) Try.func34 rfl Try.ntmps34 (by kernel_rfl) rfl (by decide) F34 (np := 2) ?_ ?_
  · intro ts h; unfold F34; split <;> first | rfl | (simp at h; done)
  intro ts H r hF hwf
  unfold F34 at hF
  split at hF <;> try (cases hF; done)
  split at hF <;> try (cases hF; done)
  rename_i a b ha hb
  cases hF
  obtain rfl := inv_inv ha
  obtain rfl := inv_inv hb
  have hla : a.ins.length ≤ maxLen ∧ a.outs.length ≤ maxLen := by
    have h1 : (txT a).wf := hwf (txT a) (by simp)
    simp only [txT_st, T.wf, T.wfL] at h1
    exact ⟨by simpa using h1.2.1.2.1, by simpa using h1.2.2.1.2.1⟩
  unfold maxLen at hla
  obtain ⟨v, is, os, k⟩ := a
  obtain ⟨v', is', os', k'⟩ := b
  rw [txT_st, txT_st]
  dsimp only at hla ⊢
  by_cases q1 : v = v'
  case neg =>
    have q1' := i_ne (fun hh => q1 (n32_inj hh))
    have hd : decide ((⟨v, is, os, k⟩ : TTx) = ⟨v', is', os', k'⟩) = false := decide_eq_false fun hh => q1 (TTx.mk.inj hh).1
    repeat refine St2 q1' ct34 ?_
    exact AWP.ret (Fin hd [] [])
  subst q1
  by_cases q2 : k = k'
  case neg =>
    have q2' := i_ne (fun hh => q2 (n32_inj hh))
    have hd : decide ((⟨v, is, os, k⟩ : TTx) = ⟨v, is', os', k'⟩) = false := decide_eq_false fun hh => q2 (TTx.mk.inj hh).2.2.2
    repeat refine St2 q2' ct34 ?_
    exact AWP.ret (Fin hd [] [])
  subst q2
  by_cases q3 : is.length = is'.length
  case neg =>
    have q3' : ((is.length : Int) != (is'.length : Int)) = true := i_ne (by omega)
    have hd : decide ((⟨v, is, os, k⟩ : TTx) = ⟨v, is', os', k⟩) = false := decide_eq_false fun hh => q3 (by rw [(TTx.mk.inj hh).2.1])
    repeat refine St2 q3' ct34 ?_
    exact AWP.ret (Fin hd [] [])
  have q3' : ((is.length : Int) != (is'.length : Int)) = false := i_eq (by omega)
  by_cases q4 : os.length = os'.length
  case neg =>
    have q4' : ((os.length : Int) != (os'.length : Int)) = true := i_ne (by omega)
    have hd : decide ((⟨v, is, os, k⟩ : TTx) = ⟨v, is', os', k⟩) = false := decide_eq_false fun hh => q4 (by rw [(TTx.mk.inj hh).2.2.1])
    repeat refine St2 (And.intro q3' <| q4') ct34 ?_
    exact AWP.ret (Fin hd [] [])
  have q4' : ((os.length : Int) != (os'.length : Int)) = false := i_eq (by omega)
  repeat refine St2 (And.intro q3' <| q4') ct34 ?_
  refine AWP.loop (G := { i : Nat // i ≤ is.length ∧ is.take i = is'.take i }) (fun i => ⟨[(2, .ptr 0 0 []), (3, .ptr 1 0 []), (5, .t (.int .i64 (i.1 : Int)))], [.bx (.t (.st [.int .u32 (v.toNat : Int), .sq 35 (is.map inT), .sq 2 (os.map outT), .int .u32 (k.toNat : Int)])), .bx (.t (.st [.int .u32 (v.toNat : Int), .sq 35 (is'.map inT), .sq 2 (os'.map outT), .int .u32 (k.toNat : Int)]))]⟩) (fun i => is.length - i.1) ⟨0, by simp⟩ (Wt trivial [2, 3, 5] [0, 1]) ?_
  intro ⟨i, hi, heq⟩
  dsimp only
  by_cases hlt : (i : Int) < (is.length : Int)
  · have hlt' : i < is.length := by omega
    have hlt2 : i < is'.length := by omega
    have hget := in_getD is i hlt'
    have hget2 := in_getD is' i hlt2
    have hts := take_eq_succ dIn hlt' hlt2 heq
    have hne := getD_ne (l := is) (m := is') dIn i
    generalize is.getD i dIn = x at *
    generalize is'.getD i dIn = y at *
    have hdn : x ≠ y → decide ((⟨v, is, os, k⟩ : TTx) = ⟨v, is', os', k⟩) = false := fun h => decide_eq_false fun hh => hne h (TTx.mk.inj hh).2.1
    have hsl := rsame_l x.wit y.wit
    obtain ⟨h, j, s, w⟩ := x
    obtain ⟨h', j', s', w'⟩ := y
    have hl1 := h.2
    have hl2 := h'.2
    dsimp only at hsl
    by_cases r1 : h = h'
    case neg =>
      have r1' : (h.1 == h'.1) = false := by rw [beq_eq_false_iff_ne]; exact fun hh => r1 (Subtype.ext hh)
      have hd := hdn fun hh => r1 (TIn.mk.inj hh).1
      repeat refine St2 (And.intro hlt <| And.intro hlt' <| And.intro hlt2 <| And.intro hget <| And.intro hget2 <| And.intro @inT.eq_def <| And.intro @refT.eq_def <| And.intro hl1 <| And.intro hl2 <| r1') ct34 ?_
      exact AWP.ret (Fin hd [] [])
    subst r1
    have r1' : (h.1 == h.1) = true := beq_self_eq_true _
    by_cases r2 : j = j'
    case neg =>
      have r2' : ((j.toNat : Int) == (j'.toNat : Int)) = false := by rw [beq_eq_false_iff_ne]; exact fun hh => r2 (n32_inj hh)
      have hd := hdn fun hh => r2 (TIn.mk.inj hh).2.1
      repeat refine St2 (And.intro hlt <| And.intro hlt' <| And.intro hlt2 <| And.intro hget <| And.intro hget2 <| And.intro @inT.eq_def <| And.intro @refT.eq_def <| And.intro hl1 <| And.intro hl2 <| And.intro r1' <| r2') ct34 ?_
      exact AWP.ret (Fin hd [] [])
    subst r2
    have r2' : ((j.toNat : Int) == (j.toNat : Int)) = true := beq_self_eq_true _
    by_cases r3 : s = s'
    case neg =>
      have r3' : ((s.toNat : Int) != (s'.toNat : Int)) = true := i_ne fun hh => r3 (n32_inj hh)
      have hd := hdn fun hh => r3 (TIn.mk.inj hh).2.2.1
      repeat refine St2 (And.intro hlt <| And.intro hlt' <| And.intro hlt2 <| And.intro hget <| And.intro hget2 <| And.intro @inT.eq_def <| And.intro @refT.eq_def <| And.intro hl1 <| And.intro hl2 <| And.intro r1' <| And.intro r2' <| r3') ct34 ?_
      exact AWP.ret (Fin hd [] [])
    subst r3
    by_cases r4 : w = w'
    case neg =>
      have r4' : (w == w') = false := by rw [beq_eq_false_iff_ne]; exact r4
      have hd := hdn fun hh => r4 (TIn.mk.inj hh).2.2.2
      rw [r4'] at hsl
      repeat refine St2 (And.intro hlt <| And.intro hlt' <| And.intro hlt2 <| And.intro hget <| And.intro hget2 <| And.intro @inT.eq_def <| And.intro @refT.eq_def <| And.intro hl1 <| And.intro hl2 <| And.intro r1' <| And.intro r2' <| hsl) ct34 ?_
      exact AWP.ret (Fin hd [] [])
    subst r4
    rw [beq_self_eq_true] at hsl
    repeat refine St2 (And.intro hlt <| And.intro hlt' <| And.intro hlt2 <| And.intro hget <| And.intro hget2 <| And.intro @inT.eq_def <| And.intro @refT.eq_def <| And.intro hl1 <| And.intro hl2 <| And.intro r1' <| And.intro r2' <| hsl) ct34 ?_
    exact ⟨⟨i + 1, by omega, hts rfl⟩, (Wt trivial [2, 3, 5] [0, 1]), by simp only; omega⟩
  obtain rfl : i = is.length := by omega
  obtain rfl : is = is' := take_eq_all q3 heq
  repeat refine St2 hlt ct34 ?_
  refine AWP.loop (G := { i : Nat // i ≤ os.length ∧ os.take i = os'.take i }) (fun i => ⟨[(2, .ptr 0 0 []), (3, .ptr 1 0 []), (8, .t (.int .i64 (i.1 : Int)))], [.bx (.t (.st [.int .u32 (v.toNat : Int), .sq 35 (is.map inT), .sq 2 (os.map outT), .int .u32 (k.toNat : Int)])), .bx (.t (.st [.int .u32 (v.toNat : Int), .sq 35 (is.map inT), .sq 2 (os'.map outT), .int .u32 (k.toNat : Int)]))]⟩) (fun i => os.length - i.1) ⟨0, by simp⟩ (Wt trivial [2, 3, 8] [0, 1]) ?_
  intro ⟨i, hi, heq⟩
  dsimp only
  by_cases hlt : (i : Int) < (os.length : Int)
  · have hlt' : i < os.length := by omega
    have hlt2 : i < os'.length := by omega
    have hlt3 : (i : Int) < (os'.length : Int) := by omega
    have hget := out_getD os i hlt'
    have hget2 := out_getD os' i hlt2
    have hts := take_eq_succ dOut hlt' hlt2 heq
    have hne := getD_ne (l := os) (m := os') dOut i
    generalize os.getD i dOut = x at *
    generalize os'.getD i dOut = y at *
    have hdn : x ≠ y → decide ((⟨v, is, os, k⟩ : TTx) = ⟨v, is, os', k⟩) = false := fun h => decide_eq_false fun hh => hne h (TTx.mk.inj hh).2.2.1
    obtain ⟨h, s⟩ := x
    obtain ⟨h', s'⟩ := y
    by_cases r1 : h = h'
    case neg =>
      have r1' : ((h.toNat : Int) != (h'.toNat : Int)) = true := i_ne fun hh => r1 (n64_inj hh)
      have hd := hdn fun hh => r1 (TOut.mk.inj hh).1
      repeat refine St2 (And.intro hlt <| And.intro hlt3 <| And.intro hlt' <| And.intro hlt2 <| And.intro hget <| And.intro hget2 <| And.intro @outT.eq_def <| r1') ct34 ?_
      exact AWP.ret (Fin hd [] [])
    subst r1
    by_cases r2 : s = s'
    case neg =>
      have r2' : (s != s') = true := by rw [bne_iff_ne]; exact r2
      have hd := hdn fun hh => r2 (TOut.mk.inj hh).2
      repeat refine St2 (And.intro hlt <| And.intro hlt3 <| And.intro hlt' <| And.intro hlt2 <| And.intro hget <| And.intro hget2 <| And.intro @outT.eq_def <| r2') ct34 ?_
      exact AWP.ret (Fin hd [] [])
    subst r2
    repeat refine St2 (And.intro hlt <| And.intro hlt3 <| And.intro hlt' <| And.intro hlt2 <| And.intro hget <| And.intro hget2 <| @outT.eq_def) ct34 ?_
    exact ⟨⟨i + 1, by omega, hts rfl⟩, (Wt trivial [2, 3, 8] [0, 1]), by simp only; omega⟩
  obtain rfl : i = os.length := by omega
  obtain rfl : os = os' := take_eq_all q4 heq
  have hd : decide ((⟨v, is, os, k⟩ : TTx) = ⟨v, is, os, k⟩) = true := decide_eq_true rfl
  repeat refine St2 hlt ct34 ?_
  exact AWP.ret (Fin hd [] [])

theorem rsame_t (a b : TTx) : F34 [txT a, txT b] = some ([], .t (.bool (decide (a = b)))) := by
  simp only [F34, inv_of txT_inj]

end Go.Fw

end

section
/- block's answer: headers. -/
namespace Go.Fw
open Go Go.Proofs
set_option linter.unusedVariables false
set_option linter.unusedSimpArgs false

noncomputable def F16 : Fun
  | [y] => match inv hdT y with
    | some h => some ([.by (hdB h)], .own 0)
    | none => none
  | _ => none

theorem ct16 : CT [(39, ⟨[false, false, false], treeG F39⟩)] [0, 1, 2, 3] [] := ⟨(.cons c39.g (.nil _))⟩

set_option maxHeartbeats 1000000 in
theorem c16 : ACon Try.prog 16 F16 := by
  refine aconc E_ok (rs := [.tmp 2 22]) Try.func16 rfl Try.ntmps16 (by kernel_rfl) rfl (by decide) F16 (np := 1) ?_ ?_
  · intro ts h; unfold F16; split <;> first | rfl | (simp at h; done)
  intro ts H r hF hwf
  unfold F16 at hF
  split at hF <;> try (cases hF; done)
  split at hF <;> try (cases hF; done)
  rename_i h hh
  cases hF
  obtain rfl := inv_inv hh
  obtain ⟨v, ⟨p, hp⟩, ⟨q, hq⟩, ti, bi, no⟩ := h
  rw [hdT_st]
  unfold hdB
  dsimp only
  have ll : ∀ n : Int, (le 4 n).length = 4 := fun n => le_len 4 n
  have m1 := ll (v.toNat : Int)
  have m2 := ll (ti.toNat : Int)
  have m3 := ll (bi.toNat : Int)
  have k1 := take32_of hp
  have k2 := take32_of hq
  have p1 : F39 [.by [], .int .u64 (v.toNat : Int), .int .i64 4] = some ([.by (le 4 (v.toNat : Int))], .own 0) := rput4 [] v (by simp)
  have p2 := rput4 (le 4 (v.toNat : Int) ++ p ++ q) ti (by simp; omega)
  have p3 := rput4 (le 4 (v.toNat : Int) ++ p ++ q ++ le 4 (ti.toNat : Int)) bi (by simp; omega)
  have p4 := rput4 (le 4 (v.toNat : Int) ++ p ++ q ++ le 4 (ti.toNat : Int) ++ le 4 (bi.toNat : Int)) no (by simp; omega)
  generalize le 4 (v.toNat : Int) = x1 at *
  have n1 : (x1 ++ p).length ≤ 1000 := by simp; omega
  have n2 : x1.length ≤ 1000 := by omega
  repeat refine St (And.intro p1 <| And.intro p2 <| And.intro p3 <| And.intro p4 <| And.intro hp <| And.intro hq <| And.intro k1 <| And.intro k2 <| And.intro n1 <| And.intro n2 <| @u32u64) ct16 ?_
  exact AWP.ret (Fin trivial [] [6])

theorem rputh_c (h : THd) : F16 [hdT h] = some ([.by (hdB h)], .own 0) := by simp only [F16, inv_of hdT_inj]

def F36 : Fun
  | [.by b, .int .i64 k] => if 0 ≤ k ∧ k + 4 ≤ (b.length : Int) ∧ b.length ≤ 549755800000 then some ([], .t (.int .u32 ((dec4 ((b.drop k.toNat).take 4)).toNat : Int))) else none
  | _ => none

theorem ct36 : CT [(59, ⟨[false, false], treeG F59⟩)] [0, 1, 4, 5] [] := ⟨(.cons c59.g (.nil _))⟩

theorem c36 : ACon Try.prog 36 F36 := by
  refine aconc E_ok (rs := [.tmp 4 24]) Try.func36 rfl Try.ntmps36 (by kernel_rfl) rfl (by decide) F36 (np := 2) ?_ ?_
  · intro ts h; unfold F36; split <;> first | rfl | (simp at h; done)
  intro ts H r hF hwf
  unfold F36 at hF
  split at hF <;> try (cases hF; done)
  rename_i b k
  split at hF
  case isFalse => cases hF
  rename_i hc
  cases hF
  obtain ⟨c1, c2, c3⟩ := hc
  obtain ⟨n, rfl⟩ : ∃ n : Nat, k = (n : Int) := ⟨k.toNat, by omega⟩
  rw [Int.toNat_natCast]
  have hdl : (b.drop n).length ≤ 549755812000 := by simp; omega
  have h1 := rnum4 (b.drop n) hdl
  have h2 : (t32 (b.drop n)).1 = dec4 ((b.drop n).take 4) := by
    have h3 : spA (b.drop n) 4 = (b.drop n).take 4 := by
      have h4 : ((b.drop n).take 4).length = 4 := by simp; omega
      have h5 := spA_app ((b.drop n).take 4) ((b.drop n).drop 4)
      rw [List.take_append_drop, h4] at h5
      exact h5
    show UInt32.ofNat (num (spA (b.drop n) 4)) = _
    rw [h3]; rfl
  rw [h2] at h1
  generalize t32 (b.drop n) = R at *
  have k2 : n ≤ b.length := by omega
  generalize dec4 ((b.drop n).take 4) = D at *
  repeat refine St (And.intro h1 <| And.intro k2 <| @u32_back) ct36 ?_
  exact AWP.ret (Fin trivial [] [])

theorem rnumber_k {b : List UInt8} (k : Nat) (h : k + 4 ≤ b.length) (hb : b.length ≤ 549755800000) : F36 [.by b, .int .i64 (k : Int)] = some ([], .t (.int .u32 ((dec4 ((b.drop k).take 4)).toNat : Int))) := by
  simp only [F36]
  rw [if_pos ⟨by omega, by omega, hb⟩, Int.toNat_natCast]

theorem rhash_h {l : List UInt8} (h : l.length = 32) : F37 [.by l] = some ([], .t (.ba 32 l)) := if_pos h

def F14 : Fun
  | [.by b] => if b.length ≤ 549755800000 then some (hdR b) else none
  | _ => none

theorem ct14 : CT [(36, ⟨[false, false], treeG F36⟩), (37, ⟨[false], treeG F37⟩)] [0, 2, 3, 4, 5, 8] [(3, [⟨0, [0], [], []⟩, ⟨1, [10], [], []⟩, ⟨0, [0], [], []⟩, ⟨1, [12], [], []⟩, ⟨1, [13], [1, 3], []⟩, ⟨0, [0], [], []⟩, ⟨1, [15], [], []⟩, ⟨1, [16], [1, 3, 4, 6], []⟩, ⟨0, [0], [], []⟩, ⟨1, [18], [1, 3, 4, 6, 7], []⟩, ⟨0, [0], [], []⟩, ⟨1, [20], [1, 3, 4, 6, 7, 9], []⟩, ⟨0, [0], [], []⟩, ⟨1, [22], [1, 3, 4, 6, 7, 9, 11], []⟩, ⟨1, [11, 14, 17, 19, 21, 23], [1, 3, 4, 6, 7, 9, 11, 13], []⟩, ⟨1, [], [], []⟩, ⟨2, [5, 24], [1, 3, 4, 6, 7, 9, 11, 13, 14, 15], []⟩]), (4, [⟨1, [5], [], []⟩, ⟨0, [0], [], []⟩, ⟨0, [26], [], [1]⟩, ⟨2, [2, 25], [0], [1]⟩, ⟨0, [27], [0, 3], []⟩, ⟨0, [], [0, 3], []⟩])] := ⟨(.cons c36.g (.cons c37.g (.nil _)))⟩

set_option maxRecDepth 20000 in
set_option maxHeartbeats 2000000 in
theorem c14 : ACon Try.prog 14 F14 := by
  refine aconc E_ok (rs := [.cell 2 27, .tmp 3 22, .tmp 4 31]) Try.func14 rfl Try.ntmps14 (by kernel_rfl) rfl (by decide) F14 (np := 1) ?_ ?_
  · intro ts h; unfold F14; split <;> first | rfl | (simp at h; done)
  intro ts H r hF hwf
  unfold F14 at hF
  split at hF <;> try (cases hF; done)
  rename_i b
  split at hF
  case isFalse => cases hF
  rename_i hb2
  have hF' : hdR b = (H, r) := Option.some.inj hF
  clear hF
  by_cases hl : b.length < 80
  · rw [show hdR b = ([], .tup [.t (hdT dHd), .t (.by []), .t (.int .i64 2)]) from if_pos hl] at hF'
    cases hF'
    have hl' : (b.length : Int) < 80 := by omega
    rw [dHd_T]
    repeat refine St hl' ct14 ?_
    exact AWP.ret (Fin trivial [] [])
  rw [show hdR b = ([], .tup [.t (hdT (hdOf b)), .t (.by (b.drop 80)), .t (.int .i64 0)]) from if_neg hl] at hF'
  cases hF'
  have hl' : ¬ (b.length : Int) < 80 := by omega
  have p1 : F36 [.by b, .int .i64 0] = some ([], .t (.int .u32 ((dec4 (b.take 4)).toNat : Int))) := rnumber_k 0 (by omega) hb2
  have p2 : F36 [.by b, .int .i64 68] = some ([], .t (.int .u32 ((dec4 ((b.drop 68).take 4)).toNat : Int))) := rnumber_k 68 (by omega) hb2
  have p3 : F36 [.by b, .int .i64 72] = some ([], .t (.int .u32 ((dec4 ((b.drop 72).take 4)).toNat : Int))) := rnumber_k 72 (by omega) hb2
  have p4 : F36 [.by b, .int .i64 76] = some ([], .t (.int .u32 ((dec4 ((b.drop 76).take 4)).toNat : Int))) := rnumber_k 76 (by omega) hb2
  have d1 : (b.take 36).drop 4 = (b.drop 4).take 32 := by rw [List.drop_take]
  have d2 : (b.take 68).drop 36 = (b.drop 36).take 32 := by rw [List.drop_take]
  have l1 : ((b.drop 4).take 32).length = 32 := by simp; omega
  have l2 : ((b.drop 36).take 32).length = 32 := by simp; omega
  have v1 := hOf_val l1
  have v2 := hOf_val l2
  have hT : hdT (hdOf b) = .st [.int .u32 ((dec4 (b.take 4)).toNat : Int), .ba 32 ((b.drop 4).take 32), .ba 32 ((b.drop 36).take 32), .int .u32 ((dec4 ((b.drop 68).take 4)).toNat : Int), .int .u32 ((dec4 ((b.drop 72).take 4)).toNat : Int), .int .u32 ((dec4 ((b.drop 76).take 4)).toNat : Int)] := by
    rw [hdT_st]; unfold hdOf; dsimp only; rw [v1, v2]
  rw [hT]
  have g1 := rhash_h l1
  have g2 := rhash_h l2
  clear hT v1 v2
  generalize dec4 (b.take 4) = e1 at *
  generalize dec4 ((b.drop 68).take 4) = e2 at *
  generalize dec4 ((b.drop 72).take 4) = e3 at *
  generalize dec4 ((b.drop 76).take 4) = e4 at *
  generalize (b.drop 4).take 32 = y1 at *
  generalize (b.drop 36).take 32 = y2 at *
  have n1 : 36 ≤ b.length := by omega
  have n2 : 68 ≤ b.length := by omega
  have n3 : 80 ≤ b.length := by omega
  repeat refine St (And.intro hl' <| And.intro p1 <| And.intro p2 <| And.intro p3 <| And.intro p4 <| And.intro d1 <| And.intro d2 <| And.intro l1 <| And.intro l2 <| And.intro n1 <| And.intro n2 <| And.intro n3 <| And.intro g1 <| g2) ct14 ?_
  exact AWP.ret (Fin trivial [] [])

theorem rtakeh_c {b : List UInt8} (h : b.length ≤ 549755800000) : F14 [.by b] = some (hdR b) := if_pos h

noncomputable def F18 : Fun
  | [y] => match inv hdT y with
    | some h => some ([], .t (.ba 32 (shaL (shaL (hdB h)))))
    | none => none
  | _ => none

theorem ct18 : CT [(16, ⟨[false], treeG F16⟩), (41, ⟨[false], treeG F41⟩)] [0, 1, 2] [] := ⟨(.cons c16.g (.cons c41.g (.nil _)))⟩

theorem c18 : ACon Try.prog 18 F18 := by
  refine aconc E_ok (rs := [.cell 2 25]) Try.func18 rfl Try.ntmps18 (by kernel_rfl) rfl (by decide) F18 (np := 1) ?_ ?_
  · intro ts h; unfold F18; split <;> first | rfl | (simp at h; done)
  intro ts H r hF hwf
  unfold F18 at hF
  split at hF <;> try (cases hF; done)
  split at hF <;> try (cases hF; done)
  rename_i h hh
  cases hF
  obtain rfl := inv_inv hh
  have h1 := rputh_c h
  have h2 : F41 [.by (hdB h)] = some ([], .t (.ba 32 (shaL (shaL (hdB h))))) := if_pos (by rw [hdB_len]; omega)
  have l1 := shaL_len (shaL (hdB h))
  have h32a := h.prev.2
  have h32b := h.root.2
  rw [hdT_st] at h1 ⊢
  generalize shaL (shaL (hdB h)) = x at *
  generalize hdB h = y at *
  repeat refine St (And.intro h1 <| And.intro h2 <| And.intro l1 <| And.intro h32a <| h32b) ct18 ?_
  exact AWP.ret (Fin trivial [] [])

theorem rnamh_c (h : THd) : F18 [hdT h] = some ([], .t (.ba 32 (shaL (shaL (hdB h))))) := by simp only [F18, inv_of hdT_inj]

end Go.Fw

end

section
/- block's answer: blocks. -/
namespace Go.Fw
open Go Go.Proofs
set_option linter.unusedVariables false
set_option linter.unusedSimpArgs false

theorem rwho_x (t : TTx) : F79 [txT t] = some ([], .t (.by (whoO t))) := by simp only [F79, inv_of txT_inj]

noncomputable def F47 : Fun
  | [y] => match inv blT y with
    | some b => @ite _ ((decide (b.txs.length ≤ 30) && b.txs.all fitsB) = true) (Classical.propDecidable _) (some ([.by (blB b)], .own 0)) none
    | none => none
  | _ => none

theorem ct47 : CT [(16, ⟨[false], treeG F16⟩), (78, ⟨[false, false], treeG F78⟩), (79, ⟨[false], treeG F79⟩)] [0, 1, 2, 3, 4, 17] [(1, [⟨0, [1], [], []⟩, ⟨1, [5], [], []⟩, ⟨1, [6], [1], []⟩, ⟨0, [1], [], []⟩, ⟨1, [8], [], []⟩, ⟨1, [9], [4], []⟩, ⟨1, [10], [4, 5], []⟩, ⟨1, [7, 11], [1, 2, 4, 5, 6], []⟩, ⟨0, [12], [1, 2, 4, 5, 6, 7], []⟩])] := ⟨(.cons c16.g (.cons c78.g (.cons c79.g (.nil _))))⟩

set_option maxHeartbeats 2000000 in
theorem c47 : ACon Try.prog 47 F47 := by
  refine aconc E_ok (rs := [.tmp 2 22]) Try.func47 rfl Try.ntmps47 (by kernel_rfl) rfl (by decide) F47 (np := 1) ?_ ?_
  · intro ts h; unfold F47; split <;> first | rfl | (simp at h; done)
  intro ts H r hF hwf
  unfold F47 at hF
  split at hF <;> try (cases hF; done)
  split at hF <;> try (cases hF; done)
  rename_i b hb
  split at hF
  case isFalse => cases hF
  rename_i hc
  have hc := hc
  cases hF
  obtain rfl := inv_inv hb
  rw [Bool.and_eq_true, decide_eq_true_eq] at hc
  obtain ⟨h30, hall⟩ := hc
  have p1 := rputh_c b.hd
  have p1l := hdB_len b.hd
  have h32a := b.hd.prev.2
  have h32b := b.hd.root.2
  have hblB : blB b = hdB b.hd ++ sizeB b.txs.length ++ cat wholeB b.txs := rfl
  rw [hdT_st] at p1
  rw [blT_st, hblB]
  have hw : IntKind.u64.wrap (b.txs.length : Int) = (b.txs.length : Int) := wrap_u64 (by omega) (by omega)
  have p2 := rputsize (hdB b.hd) (b.txs.length : Int) (by omega)
  have hsl := sizeB_len (b.txs.length : Int)
  obtain ⟨hd, l⟩ := b
  dsimp only at *
  generalize hdB hd = A at *
  obtain ⟨B, hB⟩ : ∃ B, A ++ sizeB l.length = B := ⟨_, rfl⟩
  have hBl : B.length ≤ 100 := by rw [← hB, List.length_append]; omega
  rw [hB] at p2 ⊢
  repeat refine St (And.intro p1 <| And.intro p2 <| And.intro hw <| And.intro h32a <| h32b) ct47 ?_
  refine AWP.loop (G := { i : Nat // i ≤ l.length }) (fun i => ⟨[(1, .ptr 0 0 []), (3, .own 1), (4, .t (.int .i64 (i.1 : Int)))], [.bx (.t (.st [.st [.int .u32 (hd.ver.toNat : Int), .ba 32 hd.prev.1, .ba 32 hd.root.1, .int .u32 (hd.time.toNat : Int), .int .u32 (hd.bits.toNat : Int), .int .u32 (hd.nonce.toNat : Int)], .sq 4 (l.map txT)])), .by (B ++ cat wholeB (l.take i.1))]⟩) (fun i => l.length - i.1) ⟨0, by omega⟩ (Wt (And.intro @List.take_zero.{0} <| And.intro @cat_nil <| @List.append_nil.{0}) [1, 3, 4] [0, 2]) ?_
  intro ⟨i, hi⟩
  dsimp only
  by_cases hlt : (i : Int) < (l.length : Int)
  · have hlt' : i < l.length := by omega
    have hget := tx_getD l i hlt'
    have hct := cat_take wholeB dTx l i hlt'
    have hcl := cat_take_le wholeB l i
    have hcl2 := cat_who hall
    have hf : fitsB (l.getD i dTx) = true := List.all_eq_true.1 hall _ (by simp [hlt'])
    generalize l.getD i dTx = x at *
    have q2 := rwho_x x
    rw [show whoO x = wholeB x from if_pos hf] at q2
    rw [txT_st] at q2 hget
    have hxl := fits_len hf
    have hnl : (B ++ cat wholeB (l.take i)).length + (wholeB x).length ≤ 1000000 := by rw [List.length_append]; omega
    have hnl2 : (B ++ cat wholeB (l.take i)).length ≤ 1000000 := by omega
    have hfx : B ++ cat wholeB (l.take i) ++ wholeB x = B ++ cat wholeB (l.take (i + 1)) := by rw [hct, List.append_assoc]
    generalize wholeB x = w at *
    repeat refine St (And.intro hlt <| And.intro hlt' <| And.intro hget <| And.intro q2 <| And.intro hnl <| hnl2) ct47 ?_
    exact ⟨⟨i + 1, by omega⟩, (Wt hfx [1, 3, 4] [0, 2]), by simp only; omega⟩
  obtain rfl : i = l.length := by omega
  rw [List.take_length]
  generalize B ++ cat wholeB l = O at *
  repeat refine St hlt ct47 ?_
  exact AWP.ret (Fin trivial [] [1])

theorem rbytes_c {b : TBl} (h1 : b.txs.length ≤ 30) (h2 : b.txs.all fitsB = true) : F47 [blT b] = some ([.by (blB b)], .own 0) := by
  simp only [F47, inv_of blT_inj]
  exact if_pos (by rw [Bool.and_eq_true, decide_eq_true_eq]; exact ⟨h1, h2⟩)

noncomputable def F21 : Fun
  | [y] => match inv blT y with
    | some b => some ([], .tup [.t (.by (encE b)), .t (.int .i64 (encI b))])
    | none => none
  | _ => none

theorem ct21 : CT [(46, ⟨[false], treeG F46⟩), (47, ⟨[false], treeG F47⟩)] [0, 1, 2, 3, 4, 5, 9, 14, 23, 28] [] := ⟨(.cons c46.g (.cons c47.g (.nil _)))⟩

set_option maxHeartbeats 2000000 in
theorem c21 : ACon Try.prog 21 F21 := by
  refine aconc E_ok (rs := [.tmp 2 22, .tmp 3 31]) Try.func21 rfl Try.ntmps21 (by kernel_rfl) rfl (by decide) F21 (np := 1) ?_ ?_
  · intro ts h; unfold F21; split <;> first | rfl | (simp at h; done)
  intro ts H r hF hwf
  unfold F21 at hF
  split at hF <;> try (cases hF; done)
  split at hF <;> try (cases hF; done)
  rename_i b hb
  cases hF
  obtain rfl := inv_inv hb
  have hno := @fitBl_no b
  have hyes := @fitBl_yes b
  have henc0 := @encBl_no b
  have henc1 := @encBl_yes b
  have hbytes := @rbytes_c b
  have h32a := b.hd.prev.2
  have h32b := b.hd.root.2
  rw [blT_st] at hbytes ⊢
  by_cases h30 : 30 < (b.txs.length : Int)
  · obtain ⟨e1, e2⟩ := henc0 (hno (fun hh => by omega))
    rw [e1, e2]
    repeat refine St h30 ct21 ?_
    exact AWP.ret (Fin trivial [] [])
  generalize encE b = E at *
  generalize encI b = I at *
  generalize blB b = O at *
  obtain ⟨hd, l⟩ := b
  dsimp only at *
  repeat refine St h30 ct21 ?_
  refine AWP.loop (G := { i : Nat // i ≤ l.length ∧ (l.take i).all fitsB = true }) (fun i => ⟨[(1, .ptr 0 0 []), (4, .t (.int .i64 (i.1 : Int)))], [.bx (.t (.st [.st [.int .u32 (hd.ver.toNat : Int), .ba 32 hd.prev.1, .ba 32 hd.root.1, .int .u32 (hd.time.toNat : Int), .int .u32 (hd.bits.toNat : Int), .int .u32 (hd.nonce.toNat : Int)], .sq 4 (l.map txT)]))]⟩) (fun i => l.length - i.1) ⟨0, by omega, rfl⟩ (Wt trivial [1, 4] [0]) ?_
  intro ⟨i, hi, ha⟩
  dsimp only
  by_cases hlt : (i : Int) < (l.length : Int)
  · have hlt' : i < l.length := by omega
    have hget := tx_getD l i hlt'
    have hal := all_take fitsB dTx l i hlt'
    have hbad := all_getD fitsB dTx l i hlt'
    generalize l.getD i dTx = x at *
    have q1 := rcheck_c x
    rcases chk_two x with ⟨e1, e2, e3⟩ | ⟨e1, e2⟩
    · have hf := fit_of e2 e3
      rw [e1] at q1
      rw [ha, hf] at hal
      rw [txT_st] at q1 hget
      repeat refine St (And.intro hlt <| And.intro hlt' <| And.intro hget <| q1) ct21 ?_
      exact ⟨⟨i + 1, by omega, by rw [hal]; rfl⟩, (Wt trivial [1, 4] [0]), by simp only; omega⟩
    · obtain ⟨k1, k2⟩ := henc0 (hno (fun hh => by have := hh.2.1; rw [hbad e2] at this; cases this))
      subst k1
      subst k2
      rw [e1] at q1
      rw [txT_st] at q1 hget
      repeat refine St (And.intro hlt <| And.intro hlt' <| And.intro hget <| q1) ct21 ?_
      exact AWP.ret (Fin trivial [] [])
  obtain rfl : i = l.length := by omega
  rw [List.take_length] at ha
  have q3 := hbytes (by omega) ha
  by_cases h40 : 40000 < (O.length : Int)
  · obtain ⟨k1, k2⟩ := henc0 (hno (fun hh => by have := hh.2.2; omega))
    subst k1
    subst k2
    repeat refine St (And.intro hlt <| And.intro q3 <| And.intro h40 <| And.intro h32a <| h32b) ct21 ?_
    exact AWP.ret (Fin trivial [] [])
  · obtain ⟨k1, k2⟩ := henc1 (hyes (by omega) ha (by omega))
    subst k1
    subst k2
    repeat refine St (And.intro hlt <| And.intro q3 <| And.intro h40 <| And.intro h32a <| h32b) ct21 ?_
    exact AWP.ret (Fin trivial [1] [])

theorem renc_b (b : TBl) : F21 [blT b] = some ([], .tup [.t (.by (encE b)), .t (.int .i64 (encI b))]) := by simp only [F21, inv_of blT_inj]

def smallBl (l : List TTx) : Bool := decide (l.length ≤ 8) && l.all smallT
theorem smallBl_ok {l : List TTx} (h : smallBl l = true) : l.length ≤ 8 ∧ l.all smallT = true := by
  simpa [smallBl] using h
abbrev txsT (l : List TTx) : T := .sq 4 (l.map txT)
theorem txsT_inj (a b : List TTx) (h : txsT a = txsT b) : a = b := by
  simp only [txsT, T.sq.injEq, true_and] at h
  exact map_inj txT_inj _ _ h
noncomputable def F20 : Fun
  | [y] => match inv txsT y with
    | some l => some ([], .t (.bool (smallBl l)))
    | none => none
  | _ => none

theorem ct20 : CT [(45, ⟨[false], treeG F45⟩)] [0, 2, 3, 7, 19] [] := ⟨(.cons c45.g (.nil _))⟩

set_option maxHeartbeats 1000000 in
theorem c20 : ACon Try.prog 20 F20 := by
  refine aconc E_ok (rs := [.tmp 2 4]) Try.func20 rfl Try.ntmps20 (by kernel_rfl) rfl (by decide) F20 (np := 1) ?_ ?_
  · intro ts h; unfold F20; split <;> first | rfl | (simp at h; done)
  intro ts H r hF hwf
  unfold F20 at hF
  split at hF <;> try (cases hF; done)
  split at hF <;> try (cases hF; done)
  rename_i l hl
  cases hF
  obtain rfl := inv_inv hl
  have hg : l.length ≤ maxLen := by
    have h1 := hwf (txsT l) (by simp)
    simp only [txsT, T.wf] at h1
    simpa using h1.2.1
  unfold maxLen at hg
  have hsm : smallBl l = (decide (l.length ≤ 8) && l.all smallT) := rfl
  obtain ⟨c, hc⟩ : ∃ c, smallBl l = c := ⟨_, rfl⟩
  rw [hc] at hsm ⊢
  dsimp only [txsT]
  repeat refine St trivial ct20 ?_
  refine AWP.loop (G := { i : Nat // i ≤ l.length ∧ i ≤ 8 ∧ (l.take i).all smallT = true }) (fun i => ⟨[(0, .t (.sq 4 (l.map txT))), (3, .t (.int .i64 (i.1 : Int)))], []⟩) (fun i => l.length - i.1) ⟨0, by omega, by omega, rfl⟩ (Wt trivial [0, 3] []) ?_
  intro ⟨i, hi, hi8, ha⟩
  dsimp only
  by_cases hlt : (i : Int) < (l.length : Int)
  · have hlt' : i < l.length := by omega
    by_cases h8 : i = 8
    · have e : c = false := by rw [hsm, decide_eq_false (by omega)]; rfl
      have h8' : ((i : Int) == 8) = true := by rw [beq_iff_eq]; omega
      subst e
      repeat refine St (And.intro hlt <| h8') ct20 ?_
      exact AWP.ret (Fin trivial [] [])
    have h8' : ((i : Int) == 8) = false := by rw [beq_eq_false_iff_ne]; omega
    have hget := tx_getD l i hlt'
    have hal := all_take smallT dTx l i hlt'
    have hbad := all_getD smallT dTx l i hlt'
    generalize l.getD i dTx = x at *
    have q1 : F45 [txT x] = some ([], .t (.bool (smallT x))) := by simp only [F45, inv_of txT_inj]
    rw [txT_st] at q1 hget
    cases hx : smallT x with
    | false =>
      rw [hx] at q1
      have e : c = false := by rw [hsm, hbad hx, Bool.and_false]
      subst e
      repeat refine St (And.intro hlt <| And.intro hlt' <| And.intro h8' <| And.intro hget <| q1) ct20 ?_
      exact AWP.ret (Fin trivial [] [])
    | true =>
      rw [hx] at q1
      rw [ha, hx] at hal
      repeat refine St (And.intro hlt <| And.intro hlt' <| And.intro h8' <| And.intro hget <| q1) ct20 ?_
      exact ⟨⟨i + 1, by omega, by omega, by rw [hal]; rfl⟩, (Wt trivial [0, 3] []), by simp only; omega⟩
  obtain rfl : i = l.length := by omega
  rw [List.take_length] at ha
  have e : c = true := by rw [hsm, ha, decide_eq_true hi8]; rfl
  subst e
  repeat refine St hlt ct20 ?_
  exact AWP.ret (Fin trivial [] [])

theorem rsmallb_c (l : List TTx) : F20 [.sq 4 (l.map txT)] = some ([], .t (.bool (smallBl l))) := by
  have : F20 [txsT l] = some ([], .t (.bool (smallBl l))) := by simp only [F20, inv_of txsT_inj]
  exact this

noncomputable def F12 : Fun
  | [x, y] => match inv blT x, inv blT y with
    | some a, some b => some ([], .t (.bool (decide (a = b))))
    | _, _ => none
  | _ => none

theorem ct12 : CT [(34, ⟨[false, false], treeG F34⟩)] [0, 1, 2, 3, 4, 5, 19, 24, 38] [(6, [⟨0, [2], [], []⟩, ⟨1, [27], [], []⟩, ⟨0, [5], [], []⟩, ⟨1, [28, 29], [1], []⟩, ⟨1, [30], [1, 3], []⟩, ⟨0, [3], [], []⟩, ⟨1, [32], [], []⟩, ⟨0, [5], [], []⟩, ⟨1, [33, 34], [6], []⟩, ⟨1, [35], [6, 8], []⟩, ⟨1, [31, 36], [1, 3, 4, 6, 8, 9], []⟩, ⟨0, [37], [1, 3, 4, 6, 8, 9, 10], []⟩])] := ⟨(.cons c34.g (.nil _))⟩

set_option maxHeartbeats 4000000 in
theorem c12 : ACon Try.prog 12 F12 := by
  refine aconc E_ok (rs := [.tmp 4 4]) Try.func12 rfl Try.ntmps12 (by kernel_rfl) rfl (by decide) F12 (np := 2) ?_ ?_
  · intro ts h; unfold F12; split <;> first | rfl | (simp at h; done)
  intro ts H r hF hwf
  unfold F12 at hF
  split at hF <;> try (cases hF; done)
  split at hF <;> try (cases hF; done)
  rename_i a b ha hb
  cases hF
  obtain rfl := inv_inv ha
  obtain rfl := inv_inv hb
  have hla : a.txs.length ≤ maxLen := by
    have h1 : (blT a).wf := hwf (blT a) (by simp)
    simp only [blT_st, T.wf, T.wfL] at h1
    simpa using h1.2.1.2.1
  unfold maxLen at hla
  obtain ⟨⟨v, p, q, t, bi, no⟩, l⟩ := a
  obtain ⟨⟨v', p', q', t', bi', no'⟩, l'⟩ := b
  rw [blT_st, blT_st]
  dsimp only at hla ⊢
  have hp1 := p.2
  have hp2 := p'.2
  have hq1 := q.2
  have hq2 := q'.2
  by_cases e0 : v = v'
  case neg =>
    have f0 : ((v.toNat : Int) == (v'.toNat : Int)) = false := by rw [beq_eq_false_iff_ne]; exact fun hh => e0 (n32_inj hh)
    have hd : decide ((⟨⟨v, p, q, t, bi, no⟩, l⟩ : TBl) = ⟨⟨v', p', q', t', bi', no'⟩, l'⟩) = false := decide_eq_false fun hh => e0 (THd.mk.inj (TBl.mk.inj hh).1).1
    repeat refine St (And.intro hp1 <| And.intro hp2 <| And.intro hq1 <| And.intro hq2 <| f0) ct12 ?_
    exact AWP.ret (Fin hd [] [])
  subst e0
  have f0 : ((v.toNat : Int) == (v.toNat : Int)) = true := beq_self_eq_true _
  by_cases e1 : p = p'
  case neg =>
    have f1 : (p.1 == p'.1) = false := by rw [beq_eq_false_iff_ne]; exact fun hh => e1 (Subtype.ext hh)
    have hd : decide ((⟨⟨v, p, q, t, bi, no⟩, l⟩ : TBl) = ⟨⟨v, p', q', t', bi', no'⟩, l'⟩) = false := decide_eq_false fun hh => e1 (THd.mk.inj (TBl.mk.inj hh).1).2.1
    repeat refine St (And.intro hp1 <| And.intro hp2 <| And.intro hq1 <| And.intro hq2 <| And.intro f0 <| f1) ct12 ?_
    exact AWP.ret (Fin hd [] [])
  subst e1
  have f1 : (p.1 == p.1) = true := beq_self_eq_true _
  by_cases e2 : q = q'
  case neg =>
    have f2 : (q.1 == q'.1) = false := by rw [beq_eq_false_iff_ne]; exact fun hh => e2 (Subtype.ext hh)
    have hd : decide ((⟨⟨v, p, q, t, bi, no⟩, l⟩ : TBl) = ⟨⟨v, p, q', t', bi', no'⟩, l'⟩) = false := decide_eq_false fun hh => e2 (THd.mk.inj (TBl.mk.inj hh).1).2.2.1
    repeat refine St (And.intro hp1 <| And.intro hp2 <| And.intro hq1 <| And.intro hq2 <| And.intro f0 <| And.intro f1 <| f2) ct12 ?_
    exact AWP.ret (Fin hd [] [])
  subst e2
  have f2 : (q.1 == q.1) = true := beq_self_eq_true _
  by_cases e3 : t = t'
  case neg =>
    have f3 : ((t.toNat : Int) == (t'.toNat : Int)) = false := by rw [beq_eq_false_iff_ne]; exact fun hh => e3 (n32_inj hh)
    have hd : decide ((⟨⟨v, p, q, t, bi, no⟩, l⟩ : TBl) = ⟨⟨v, p, q, t', bi', no'⟩, l'⟩) = false := decide_eq_false fun hh => e3 (THd.mk.inj (TBl.mk.inj hh).1).2.2.2.1
    repeat refine St (And.intro hp1 <| And.intro hp2 <| And.intro hq1 <| And.intro hq2 <| And.intro f0 <| And.intro f1 <| And.intro f2 <| f3) ct12 ?_
    exact AWP.ret (Fin hd [] [])
  subst e3
  have f3 : ((t.toNat : Int) == (t.toNat : Int)) = true := beq_self_eq_true _
  by_cases e4 : bi = bi'
  case neg =>
    have f4 : ((bi.toNat : Int) == (bi'.toNat : Int)) = false := by rw [beq_eq_false_iff_ne]; exact fun hh => e4 (n32_inj hh)
    have hd : decide ((⟨⟨v, p, q, t, bi, no⟩, l⟩ : TBl) = ⟨⟨v, p, q, t, bi', no'⟩, l'⟩) = false := decide_eq_false fun hh => e4 (THd.mk.inj (TBl.mk.inj hh).1).2.2.2.2.1
    repeat refine St (And.intro hp1 <| And.intro hp2 <| And.intro hq1 <| And.intro hq2 <| And.intro f0 <| And.intro f1 <| And.intro f2 <| And.intro f3 <| f4) ct12 ?_
    exact AWP.ret (Fin hd [] [])
  subst e4
  have f4 : ((bi.toNat : Int) == (bi.toNat : Int)) = true := beq_self_eq_true _
  by_cases e5 : no = no'
  case neg =>
    have f5 : ((no.toNat : Int) == (no'.toNat : Int)) = false := by rw [beq_eq_false_iff_ne]; exact fun hh => e5 (n32_inj hh)
    have hd : decide ((⟨⟨v, p, q, t, bi, no⟩, l⟩ : TBl) = ⟨⟨v, p, q, t, bi, no'⟩, l'⟩) = false := decide_eq_false fun hh => e5 (THd.mk.inj (TBl.mk.inj hh).1).2.2.2.2.2
    repeat refine St (And.intro hp1 <| And.intro hp2 <| And.intro hq1 <| And.intro hq2 <| And.intro f0 <| And.intro f1 <| And.intro f2 <| And.intro f3 <| And.intro f4 <| f5) ct12 ?_
    exact AWP.ret (Fin hd [] [])
  subst e5
  have f5 : ((no.toNat : Int) == (no.toNat : Int)) = true := beq_self_eq_true _
  by_cases q3 : l.length = l'.length
  case neg =>
    have q3' : ((l.length : Int) != (l'.length : Int)) = true := i_ne (by omega)
    have hd : decide ((⟨⟨v, p, q, t, bi, no⟩, l⟩ : TBl) = ⟨⟨v, p, q, t, bi, no⟩, l'⟩) = false := decide_eq_false fun hh => q3 (by rw [(TBl.mk.inj hh).2])
    repeat refine St (And.intro hp1 <| And.intro hp2 <| And.intro hq1 <| And.intro hq2 <| And.intro f0 <| And.intro f1 <| And.intro f2 <| And.intro f3 <| And.intro f4 <| And.intro f5 <| q3') ct12 ?_
    exact AWP.ret (Fin hd [] [])
  have q3' : ((l.length : Int) != (l'.length : Int)) = false := i_eq (by omega)
  repeat refine St (And.intro hp1 <| And.intro hp2 <| And.intro hq1 <| And.intro hq2 <| And.intro f0 <| And.intro f1 <| And.intro f2 <| And.intro f3 <| And.intro f4 <| And.intro f5 <| q3') ct12 ?_
  refine AWP.loop (G := { i : Nat // i ≤ l.length ∧ l.take i = l'.take i }) (fun i => ⟨[(2, .ptr 0 0 []), (3, .ptr 1 0 []), (5, .t (.int .i64 (i.1 : Int)))], [.bx (.t (.st [.st [.int .u32 (v.toNat : Int), .ba 32 p.1, .ba 32 q.1, .int .u32 (t.toNat : Int), .int .u32 (bi.toNat : Int), .int .u32 (no.toNat : Int)], .sq 4 (l.map txT)])), .bx (.t (.st [.st [.int .u32 (v.toNat : Int), .ba 32 p.1, .ba 32 q.1, .int .u32 (t.toNat : Int), .int .u32 (bi.toNat : Int), .int .u32 (no.toNat : Int)], .sq 4 (l'.map txT)]))]⟩) (fun i => l.length - i.1) ⟨0, by simp⟩ (Wt trivial [2, 3, 5] [0, 1]) ?_
  intro ⟨i, hi, heq⟩
  dsimp only
  by_cases hlt : (i : Int) < (l.length : Int)
  · have hlt' : i < l.length := by omega
    have hlt2 : i < l'.length := by omega
    have hlt3 : (i : Int) < (l'.length : Int) := by omega
    have hget := tx_getD l i hlt'
    have hget2 := tx_getD l' i hlt2
    have hts := take_eq_succ dTx hlt' hlt2 heq
    have hne := getD_ne (l := l) (m := l') dTx i
    generalize l.getD i dTx = x at *
    generalize l'.getD i dTx = y at *
    have hs := rsame_t x y
    by_cases r1 : x = y
    case neg =>
      rw [decide_eq_false r1] at hs
      have hd : decide ((⟨⟨v, p, q, t, bi, no⟩, l⟩ : TBl) = ⟨⟨v, p, q, t, bi, no⟩, l'⟩) = false := decide_eq_false fun hh => hne r1 (TBl.mk.inj hh).2
      rw [txT_st, txT_st] at hs
      rw [txT_st] at hget hget2
      repeat refine St (And.intro hlt <| And.intro hlt3 <| And.intro hlt' <| And.intro hlt2 <| And.intro hget <| And.intro hget2 <| And.intro hs <| And.intro hp1 <| hq1) ct12 ?_
      exact AWP.ret (Fin hd [] [])
    rw [decide_eq_true r1] at hs
    subst r1
    rw [txT_st] at hs
    rw [txT_st] at hget hget2
    repeat refine St (And.intro hlt <| And.intro hlt3 <| And.intro hlt' <| And.intro hlt2 <| And.intro hget <| And.intro hget2 <| And.intro hs <| And.intro hp1 <| hq1) ct12 ?_
    exact ⟨⟨i + 1, by omega, hts rfl⟩, (Wt trivial [2, 3, 5] [0, 1]), by simp only; omega⟩
  obtain rfl : i = l.length := by omega
  obtain rfl : l = l' := take_eq_all q3 heq
  have hd : decide ((⟨⟨v, p, q, t, bi, no⟩, l⟩ : TBl) = ⟨⟨v, p, q, t, bi, no⟩, l⟩) = true := decide_eq_true rfl
  repeat refine St hlt ct12 ?_
  exact AWP.ret (Fin hd [] [])

theorem rsameb_c (a b : TBl) : F12 [blT a, blT b] = some ([], .t (.bool (decide (a = b)))) := by
  simp only [F12, inv_of blT_inj]

noncomputable def F11 : Fun
  | [.by b] => if b.length ≤ 549755800000 then some (blR (decBl b)) else none
  | _ => none

theorem ct11 : CT [(14, ⟨[false], treeG F14⟩), (32, ⟨[false], treeG F32⟩), (33, ⟨[false], treeG F33⟩)] [0, 2, 3, 4, 5, 6, 7, 8, 9, 10, 11, 12, 20, 30, 34, 40, 50, 62, 66] [] := ⟨(.cons c14.g (.cons c32.g (.cons c33.g (.nil _))))⟩

theorem rtsz_x {b r : List UInt8} {n : Nat} {e : Int} (h : b.length ≤ 549755800000) (hs : sz b = (n, r, e)) : F32 [.by b] = some ([], .tup [.t (.int .u64 (n : Int)), .t (.by r), .t (.int .i64 e)]) := by
  have : F32 [.by b] = some ([], .tup [.t (.int .u64 ((sz b).1 : Nat)), .t (.by (sz b).2.1), .t (.int .i64 (sz b).2.2)]) := if_pos (by omega)
  rw [this, hs]

set_option maxHeartbeats 4000000 in
theorem c11 : ACon Try.prog 11 F11 := by
  refine aconc E_ok (rs := [.cell 2 30, .tmp 3 31]) Try.func11 rfl Try.ntmps11 (by kernel_rfl) rfl (by decide) F11 (np := 1) ?_ ?_
  · intro ts h; unfold F11; split <;> first | rfl | (simp at h; done)
  intro ts H r hF hwf
  unfold F11 at hF
  split at hF <;> try (cases hF; done)
  rename_i b
  split at hF
  case isFalse => cases hF
  rename_i hb
  have hF' : blR (decBl b) = (H, r) := Option.some.inj hF
  clear hF
  have h1 := rtakeh_c hb
  have hdw := decW b
  generalize decBl b = D at *
  have hdl : (b.drop 80).length ≤ 549755800000 := by simp; omega
  have h32a := (hdOf b).prev.2
  have h32b := (hdOf b).root.2
  have hok : ∀ _ : ¬ b.length < 80, F14 [.by b] = some ([], .tup [.t (.st [.int .u32 ((hdOf b).ver.toNat : Int), .ba 32 (hdOf b).prev.1, .ba 32 (hdOf b).root.1, .int .u32 ((hdOf b).time.toNat : Int), .int .u32 ((hdOf b).bits.toNat : Int), .int .u32 ((hdOf b).nonce.toNat : Int)]), .t (.by (b.drop 80)), .t (.int .i64 0)]) := fun h => by
    rw [h1]; unfold hdR; rw [if_neg h]; rfl
  by_cases hshort : b.length < 80
  · cases hdw <;> try contradiction
    have h1' : F14 [.by b] = some ([], .tup [.t (.st [.int .u32 0, .ba 32 (zby 32), .ba 32 (zby 32), .int .u32 0, .int .u32 0, .int .u32 0]), .t (.by []), .t (.int .i64 2)]) := by
      rw [h1]; unfold hdR; rw [if_pos hshort]; rfl
    cases hF'
    repeat refine St h1' ct11 ?_
    exact AWP.ret (Fin @dBl_T [] [])
  have q1 := hok hshort
  obtain ⟨n, r0, e0, hs⟩ : ∃ n r e, sz (b.drop 80) = (n, r, e) := ⟨_, _, _, rfl⟩
  have q2 := rtsz_x hdl hs
  have hrl : r0.length ≤ 549755800000 := by have := sz_len (b.drop 80); rw [hs] at this; dsimp only at this; omega
  have hcase : (e0 ≠ 0 ∧ D = .err e0) ∨ (e0 = 0 ∧ 30 < n ∧ D = .err 4) ∨ (e0 = 0 ∧ n ≤ 30 ∧ ∃ e, pN takTx n r0 = .err e ∧ D = .err e) ∨ (e0 = 0 ∧ n ≤ 30 ∧ ∃ l s, pN takTx n r0 = .ok l s ∧ ((s ≠ [] ∧ D = .err 3) ∨ (s = [] ∧ 40000 < b.length ∧ D = .err 4) ∨ (s = [] ∧ b.length ≤ 40000 ∧ D = .ok ⟨hdOf b, l⟩ []))) := by
    cases hdw with
    | short h => exact absurd h hshort
    | size h e n' r' hs' he => rw [hs] at hs'; cases hs'; exact .inl ⟨he, rfl⟩
    | many h n' r' hs' hn => rw [hs] at hs'; cases hs'; exact .inr (.inl ⟨rfl, hn, rfl⟩)
    | bad h n' r' hs' hn e hp => rw [hs] at hs'; cases hs'; exact .inr (.inr (.inl ⟨rfl, hn, e, hp, rfl⟩))
    | left h n' r' hs' hn l s hp hl => rw [hs] at hs'; cases hs'; exact .inr (.inr (.inr ⟨rfl, hn, l, s, hp, .inl ⟨hl, rfl⟩⟩))
    | large h n' r' hs' hn l hp hl => rw [hs] at hs'; cases hs'; exact .inr (.inr (.inr ⟨rfl, hn, l, [], hp, .inr (.inl ⟨rfl, by omega, rfl⟩)⟩))
    | ok h n' r' hs' hn l hp hl => rw [hs] at hs'; cases hs'; exact .inr (.inr (.inr ⟨rfl, hn, l, [], hp, .inr (.inr ⟨rfl, hl, rfl⟩)⟩))
  clear hdw hok h1
  have hres : ∀ l, blR (.ok ⟨hdOf b, l⟩ []) = ([], .tup [.t (.st [.st [.int .u32 ((hdOf b).ver.toNat : Int), .ba 32 (hdOf b).prev.1, .ba 32 (hdOf b).root.1, .int .u32 ((hdOf b).time.toNat : Int), .int .u32 ((hdOf b).bits.toNat : Int), .int .u32 ((hdOf b).nonce.toNat : Int)], .sq 4 (l.map txT)]), .t (.int .i64 0)]) := fun l => rfl
  generalize hdOf b = hd at *
  rcases hcase with ⟨he, rfl⟩ | ⟨rfl, hn, rfl⟩ | hrest
  · have heb : (e0 != 0) = true := by simpa using he
    cases hF'
    repeat refine St (And.intro q1 <| And.intro q2 <| And.intro heb <| And.intro h32a <| h32b) ct11 ?_
    exact AWP.ret (Fin @dBl_T [] [])
  · have hn' : 30 < (n : Int) := by omega
    cases hF'
    repeat refine St (And.intro q1 <| And.intro q2 <| And.intro hn' <| And.intro h32a <| h32b) ct11 ?_
    exact AWP.ret (Fin @dBl_T [] [])
  have hn : n ≤ 30 := by rcases hrest with h | h; exact h.2.1; exact h.2.1
  have he0 : e0 = 0 := by rcases hrest with h | h; exact h.1; exact h.1
  subst he0
  have hn' : ¬ 30 < (n : Int) := by omega
  repeat refine St (And.intro q1 <| And.intro q2 <| And.intro hn' <| And.intro h32a <| h32b) ct11 ?_
  refine AWP.weak (Weak.ownBx (v' := _) 2 [1] 68 (.sq 4 []) rfl (by simp only [W, eqq, ↓reduceIte, Nat.reduceEqDiff, Nat.reduceLT, Nat.reduceLeDiff, Nat.reduceAdd, Nat.reduceMul, Nat.reduceSub, Nat.reduceBEq, Int.reduceLE, Int.reduceLT, Int.reduceNeg, Int.reduceToNat, Int.reduceEq, Int.reduceBEq, Int.reduceBNe, Nat.reduceBNe, bne_self_eq_false, reduceCtorEq, gt_iff_lt, ge_iff_le]) (by simp only [W, eqq, ↓reduceIte, Nat.reduceEqDiff, Nat.reduceLT, Nat.reduceLeDiff, Nat.reduceAdd, Nat.reduceMul, Nat.reduceSub, Nat.reduceBEq, Int.reduceLE, Int.reduceLT, Int.reduceNeg, Int.reduceToNat, Int.reduceEq, Int.reduceBEq, Int.reduceBNe, Nat.reduceBNe, bne_self_eq_false, reduceCtorEq, gt_iff_lt, ge_iff_le]) (by simp only [W, eqq, ↓reduceIte, Nat.reduceEqDiff, Nat.reduceLT, Nat.reduceLeDiff, Nat.reduceAdd, Nat.reduceMul, Nat.reduceSub, Nat.reduceBEq, Int.reduceLE, Int.reduceLT, Int.reduceNeg, Int.reduceToNat, Int.reduceEq, Int.reduceBEq, Int.reduceBNe, Nat.reduceBNe, bne_self_eq_false, reduceCtorEq, gt_iff_lt, ge_iff_le]; rfl) (.inr ⟨_, by decide, rfl⟩)) ?_
  refine AWP.loop (G := { q : Nat × List TTx × List UInt8 // q.1 ≤ n ∧ pN takTx q.1 r0 = .ok q.2.1 q.2.2 ∧ q.2.2.length ≤ r0.length }) (fun q => ⟨[(0, .t (.by b)), (2, .ptr 0 0 []), (5, .t (.by q.1.2.2)), (7, .t (.int .u64 (n : Int))), (8, .ptr 1 0 []), (9, .t (.int .u64 (q.1.1 : Int)))], [.bx (.t (.st [.st [.int .u32 0, .ba 32 (zby 32), .ba 32 (zby 32), .int .u32 0, .int .u32 0, .int .u32 0], .nil])), .bx (.st [.t (.st [.int .u32 (hd.ver.toNat : Int), .ba 32 hd.prev.1, .ba 32 hd.root.1, .int .u32 (hd.time.toNat : Int), .int .u32 (hd.bits.toNat : Int), .int .u32 (hd.nonce.toNat : Int)]), .own 2]), .sq 4 (q.1.2.1.map txT)]⟩) (fun q => n - q.1.1) ⟨(0, [], r0), Nat.zero_le _, rfl, Nat.le_refl _⟩ (Wt (@List.map_nil.{0, 0}) [0, 2, 5, 7, 8, 9] [0, 2, 3]) ?_
  intro ⟨⟨i, acc, rest⟩, hi, hp, hr⟩
  dsimp only at hi hp hr ⊢
  have hal := pN_len hp
  have hsn := pN_snoc takTx i r0
  rw [hp] at hsn
  dsimp only at hsn
  by_cases hlt : (i : Int) < (n : Int)
  · have h1 := rtake_t (b := rest) (by omega)
    cases hq : takTx rest with
    | ok t s =>
      rw [hq] at h1 hsn
      have h1' : F33 [.by rest] = some ([], .tup [.t (txT t), .t (.by s), .t (.int .i64 0)]) := h1
      have hsl := takTx_len hq
      have hmm : (acc ++ [t]).map txT = acc.map txT ++ [txT t] := by rw [List.map_append]; rfl
      have haml : (acc.map txT).length ≤ 1000 := by rw [List.length_map]; omega
      have hw : IntKind.u64.wrap ((i : Int) + 1) = ((i + 1 : Nat) : Int) := by rw [wrap_u64 (by omega) (by omega)]; omega
      rw [txT_st] at h1' hmm
      repeat refine St (And.intro hlt <| And.intro h1' <| And.intro haml <| And.intro hw <| And.intro h32a <| h32b) ct11 ?_
      exact ⟨⟨(i + 1, acc ++ [t], s), by dsimp only; omega, hsn, by dsimp only; omega⟩, (Wt hmm [0, 2, 5, 7, 8, 9] [0, 1, 5]), by simp only; omega⟩
    | err e =>
      have he := takTx_err hq
      rw [hq] at h1 hsn
      have h1' : F33 [.by rest] = some ([], .tup [.t (.st [.int .u32 0, .sq 35 [], .sq 2 [], .int .u32 0]), .t (.by []), .t (.int .i64 e)]) := h1
      have hpe := pN_err n hsn (by omega)
      have hD : D = .err e := by
        rcases hrest with ⟨_, _, e', h5, h6⟩ | ⟨_, _, l', s', h5, _⟩
        · rw [hpe] at h5; cases h5; exact h6
        · rw [hpe] at h5; cases h5
      subst hD
      cases hF'
      have heb : (e != 0) = true := by simpa using he
      repeat refine St (And.intro hlt <| And.intro h1' <| heb) ct11 ?_
      exact AWP.ret (Fin @dBl_T [] [])
  obtain rfl : i = n := by omega
  have hD : (rest ≠ [] ∧ D = .err 3) ∨ (rest = [] ∧ 40000 < b.length ∧ D = .err 4) ∨ (rest = [] ∧ b.length ≤ 40000 ∧ D = .ok ⟨hd, acc⟩ []) := by
    rcases hrest with ⟨_, _, e', h5, h6⟩ | ⟨_, _, l', s', h5, h6⟩
    · rw [hp] at h5; cases h5
    · rw [hp] at h5; cases h5; exact h6
  rcases hD with ⟨g1, rfl⟩ | ⟨rfl, g2, rfl⟩ | ⟨rfl, g2, rfl⟩
  · have hsl : 0 < (rest.length : Int) := by
      have : 0 < rest.length := List.length_pos_iff.2 g1
      omega
    cases hF'
    repeat refine St (And.intro hlt <| hsl) ct11 ?_
    exact AWP.ret (Fin @dBl_T [] [])
  · have hbl : 40000 < (b.length : Int) := by omega
    cases hF'
    repeat refine St (And.intro hlt <| hbl) ct11 ?_
    exact AWP.ret (Fin @dBl_T [] [])
  · have hbl : ¬ 40000 < (b.length : Int) := by omega
    rw [hres] at hF'
    cases hF'
    repeat refine St (And.intro hlt <| And.intro hbl <| And.intro h32a <| h32b) ct11 ?_
    exact AWP.ret (Fin trivial [2] [])

theorem rdecb_c {b : List UInt8} (h : b.length ≤ 549755800000) : F11 [.by b] = some (blR (decBl b)) := if_pos h

end Go.Fw

end

section
/- Chapter 11: the live question, BlockHeader, BlockDecode, BlockEncode: their code walked. -/
namespace Go.Fw
open Go Go.Proofs
set_option linter.unusedVariables false
set_option linter.unusedSimpArgs false

def one11 : THd := ⟨0, zH, zH, 0, 0, 1⟩
theorem one11_76 : (((hdB one11).getD 76 0).toNat : Int) = 1 := by decide +kernel
theorem decBl_nil : decBl [] = .err 2 := by rw [decBl_eq, if_pos (by decide)]

def F9 : Fun
  | [] => some ([], .t (.bool true))
  | _ => none

theorem ct9 : CT [(10, ⟨[false], treeG F10⟩), (13, ⟨[false], treeG F13⟩), (15, ⟨[false], treeG F15⟩)] [0, 1, 2, 3, 4, 5, 7] [] := ⟨(.cons c10.g (.cons c13.g (.cons c15.g (.nil _))))⟩

set_option maxHeartbeats 2000000 in
theorem c9 : ACon Try.prog 9 F9 := by
  refine aconc E_ok (rs := [.tmp 0 4]) Try.func9 rfl Try.ntmps9 (by kernel_rfl) rfl (by decide) F9 (np := 0) ?_ ?_
  · intro ts h; unfold F9; split <;> first | rfl | (simp at h; done)
  intro ts H r hF hwf
  unfold F9 at hF
  split at hF <;> try (cases hF; done)
  cases hF
  have h1 : F15 [.st [.int .u32 0, .ba 32 (zby 32), .ba 32 (zby 32), .int .u32 0, .int .u32 0, .int .u32 1]] = some ([.by (hdB one11)], .own 0) := puth_c one11
  have hl := hdB_len one11
  have h2 := takeh_c (b := hdB one11 ++ [UInt8.ofNat 9]) (by simp; omega)
  have h2r : hdR (hdB one11 ++ [UInt8.ofNat 9]) = ([], .tup [.t (.st [.int .u32 0, .ba 32 (zby 32), .ba 32 (zby 32), .int .u32 0, .int .u32 0, .int .u32 1]), .t (.by [UInt8.ofNat 9]), .t (.int .i64 0)]) := by
    unfold hdR
    rw [if_neg (by simp; omega), (hd_put one11 _).1, (hd_put one11 _).2]; rfl
  rw [h2r] at h2
  have h3 : F10 [.by []] = some ([], .tup [.t (.st [.st [.int .u32 0, .ba 32 (zby 32), .ba 32 (zby 32), .int .u32 0, .int .u32 0, .int .u32 0], .sq 4 []]), .t (.int .i64 2)]) := by
    have := decb_c (b := []) (by simp)
    rw [decBl_nil] at this; exact this
  have g1 := one11_76
  generalize hdB one11 = B at *
  have g2 : (((B.getD 76 0).toNat : Int) == 1) = true := by rw [g1]; rfl
  have g3 : 76 < B.length := by omega
  have g4 : (76 : Int) < (B.length : Int) := by omega
  have g5 : B.length ≤ 1000 := by omega
  repeat refine St (And.intro h1 <| And.intro h2 <| And.intro h3 <| And.intro hl <| And.intro g2 <| And.intro g3 <| And.intro g4 <| g5) ct9 ?_
  exact AWP.ret (Fin trivial [] [])

noncomputable def F4 : Fun
  | [y, .by b] => match inv hdT y with
    | some h => some ([], .t (.bool true))
    | none => none
  | _ => none

theorem ct4 : CT [(9, ⟨[], treeG F9⟩), (13, ⟨[false], treeG F13⟩), (14, ⟨[false], treeG F14⟩), (15, ⟨[false], treeG F15⟩), (16, ⟨[false], treeG F16⟩), (17, ⟨[false], treeG F17⟩), (18, ⟨[false], treeG F18⟩)] [0, 1, 2, 4, 5, 6, 7, 8, 9, 10, 11, 14] [(6, (List.cons (⟨1, [], [], []⟩ : Info) <| List.cons (⟨0, [31], [0], []⟩ : Info) <| List.cons (⟨1, [2], [0], []⟩ : Info) <| List.cons (⟨1, [33], [0, 2], []⟩ : Info) <| List.cons (⟨1, [34], [0, 2, 3], []⟩ : Info) <| List.cons (⟨1, [2], [0], []⟩ : Info) <| List.cons (⟨1, [36], [0, 2, 3, 5], []⟩ : Info) <| List.cons (⟨1, [37], [0, 2, 3, 5, 6], []⟩ : Info) <| List.cons (⟨0, [35, 38], [0, 2, 3, 4, 5, 6, 7], []⟩ : Info) <| List.cons (⟨0, [32, 39], [0, 2, 3, 4, 5, 6, 7], []⟩ : Info) <| List.cons (⟨0, [40], [0, 2, 3, 4, 5, 6, 7], []⟩ : Info) <| List.cons (⟨1, [2], [0, 2, 3, 4, 5, 6, 7], []⟩ : Info) <| List.cons (⟨1, [42], [0, 2, 3, 4, 5, 6, 7, 11], []⟩ : Info) <| List.cons (⟨1, [2], [0, 2, 3, 4, 5, 6, 7], []⟩ : Info) <| List.cons (⟨1, [44], [0, 2, 3, 4, 5, 6, 7, 11, 12, 13], []⟩ : Info) <| List.cons (⟨0, [43, 45], [0, 2, 3, 4, 5, 6, 7, 11, 12, 13, 14], []⟩ : Info) <| List.cons (⟨0, [41, 46], [0, 2, 3, 4, 5, 6, 7, 11, 12, 13, 14], []⟩ : Info) <| List.cons (⟨0, [47], [0, 2, 3, 4, 5, 6, 7, 11, 12, 13, 14], []⟩ : Info) <| List.cons (⟨1, [6], [0, 2, 3, 4, 5, 6, 7, 11, 12, 13, 14], []⟩ : Info) <| List.cons (⟨1, [9], [0, 2, 3, 4, 5, 6, 7, 11, 12, 13, 14], []⟩ : Info) <| List.cons (⟨0, [49, 50], [0, 2, 3, 4, 5, 6, 7, 11, 12, 13, 14, 18, 19], []⟩ : Info) <| List.cons (⟨0, [48, 51], [0, 2, 3, 4, 5, 6, 7, 11, 12, 13, 14, 18, 19], []⟩ : Info) <| List.cons (⟨0, [52], [0, 2, 3, 4, 5, 6, 7, 11, 12, 13, 14, 18, 19], []⟩ : Info) <| List.cons (⟨0, [7], [0, 2, 3, 4, 5, 6, 7, 11, 12, 13, 14, 18, 19], []⟩ : Info) <| List.cons (⟨1, [54], [0, 2, 3, 4, 5, 6, 7, 11, 12, 13, 14, 18, 19], []⟩ : Info) <| List.cons (⟨0, [10], [0, 2, 3, 4, 5, 6, 7, 11, 12, 13, 14, 18, 19], []⟩ : Info) <| List.cons (⟨1, [56], [0, 2, 3, 4, 5, 6, 7, 11, 12, 13, 14, 18, 19], []⟩ : Info) <| List.cons (⟨0, [55, 57], [0, 2, 3, 4, 5, 6, 7, 11, 12, 13, 14, 18, 19, 24, 26], []⟩ : Info) <| List.cons (⟨0, [53, 58], [0, 2, 3, 4, 5, 6, 7, 11, 12, 13, 14, 18, 19, 24, 26], []⟩ : Info) <| List.cons (⟨0, [59], [0, 2, 3, 4, 5, 6, 7, 11, 12, 13, 14, 18, 19, 24, 26], []⟩ : Info) <| List.cons (⟨0, [8], [0, 2, 3, 4, 5, 6, 7, 11, 12, 13, 14, 18, 19, 24, 26], []⟩ : Info) <| List.cons (⟨0, [11], [0, 2, 3, 4, 5, 6, 7, 11, 12, 13, 14, 18, 19, 24, 26], []⟩ : Info) <| List.cons (⟨0, [61, 62], [0, 2, 3, 4, 5, 6, 7, 11, 12, 13, 14, 18, 19, 24, 26], []⟩ : Info) <| List.cons (⟨0, [60, 63], [0, 2, 3, 4, 5, 6, 7, 11, 12, 13, 14, 18, 19, 24, 26], []⟩ : Info) <| List.cons (⟨0, [64], [0, 2, 3, 4, 5, 6, 7, 11, 12, 13, 14, 18, 19, 24, 26], []⟩ : Info) <| List.cons (⟨0, [5], [0, 2, 3, 4, 5, 6, 7, 11, 12, 13, 14, 18, 19, 24, 26], []⟩ : Info) <| List.cons (⟨1, [66], [0, 2, 3, 4, 5, 6, 7, 11, 12, 13, 14, 18, 19, 24, 26], []⟩ : Info) <| List.cons (⟨0, [1], [0, 2, 3, 4, 5, 6, 7, 11, 12, 13, 14, 18, 19, 24, 26], []⟩ : Info) <| List.cons (⟨1, [68], [0, 2, 3, 4, 5, 6, 7, 11, 12, 13, 14, 18, 19, 24, 26], []⟩ : Info) <| List.cons (⟨0, [67, 69], [0, 2, 3, 4, 5, 6, 7, 11, 12, 13, 14, 18, 19, 24, 26, 36, 38], []⟩ : Info) <| List.cons (⟨0, [65, 70], [0, 2, 3, 4, 5, 6, 7, 11, 12, 13, 14, 18, 19, 24, 26, 36, 38], []⟩ : Info) <| List.cons (⟨0, [71], [0, 2, 3, 4, 5, 6, 7, 11, 12, 13, 14, 18, 19, 24, 26, 36, 38], []⟩ : Info) <| []))] := ⟨(.cons c9.g (.cons c13.g (.cons c14.g (.cons c15.g (.cons c16.g (.cons c17.g (.cons c18.g (.nil _))))))))⟩

set_option maxRecDepth 20000 in
set_option maxHeartbeats 4000000 in
theorem c4 : ACon Try.prog 4 F4 := by
  refine aconc E_ok (rs := [.tmp 4 4]) Try.func4 rfl Try.ntmps4 (by kernel_rfl) rfl (by decide) F4 (np := 2) ?_ ?_
  · intro ts h; unfold F4; split <;> first | rfl | (simp at h; done)
  intro ts H r hF hwf
  unfold F4 at hF
  split at hF <;> try (cases hF; done)
  rename_i y b
  split at hF <;> try (cases hF; done)
  rename_i h hh
  cases hF
  obtain rfl := inv_inv hh
  have h32a := h.prev.2
  have h32b := h.root.2
  have h1 := puth_c h
  have h2 := rputh_c h
  have h3 := namh_c h
  have h4 := rnamh_c h
  have l1 := shaL_len (shaL (hdB h))
  rw [hdT_st] at h1 h2 h3 h4 ⊢
  generalize shaL (shaL (hdB h)) = n at *
  have hbl := hdB_len h
  generalize hdB h = B at *
  by_cases hn : 2500 < (b.length : Int)
  · repeat refine St (And.intro hn <| And.intro h32a <| And.intro h32b <| @F9.eq_def) ct4 ?_
    exact AWP.ret (Fin trivial [] [])
  have h5 := takeh_c (b := b) (by omega)
  have h6 := rtakeh_c (b := b) (by omega)
  have hb1 : b.length ≤ 3000 := by omega
  have r1 : (B == B) = true := beq_self_eq_true _
  have r2 : (n == n) = true := beq_self_eq_true _
  have r3 : (b == b) = true := beq_self_eq_true _
  by_cases hs : b.length < 80
  · have e : hdR b = ([], .tup [.t (.st [.int .u32 0, .ba 32 (zby 32), .ba 32 (zby 32), .int .u32 0, .int .u32 0, .int .u32 0]), .t (.by []), .t (.int .i64 2)]) := by
      unfold hdR; rw [if_pos hs]; rfl
    rw [e] at h5 h6
    repeat refine St (And.intro hn <| And.intro h1 <| And.intro h2 <| And.intro h3 <| And.intro h4 <| And.intro h5 <| And.intro h6 <| And.intro l1 <| And.intro hb1 <| And.intro r1 <| And.intro r2 <| And.intro r3 <| And.intro h32a <| And.intro h32b <| @F9.eq_def) ct4 ?_
    exact AWP.ret (Fin trivial [] [])
  · have e : hdR b = ([], .tup [.t (.st [.int .u32 ((hdOf b).ver.toNat : Int), .ba 32 (hdOf b).prev.1, .ba 32 (hdOf b).root.1, .int .u32 ((hdOf b).time.toNat : Int), .int .u32 ((hdOf b).bits.toNat : Int), .int .u32 ((hdOf b).nonce.toNat : Int)]), .t (.by (b.drop 80)), .t (.int .i64 0)]) := by
      unfold hdR; rw [if_neg hs]; rfl
    rw [e] at h5 h6
    have g32a := (hdOf b).prev.2
    have g32b := (hdOf b).root.2
    clear e
    generalize hdOf b = g at *
    generalize b.drop 80 = d at *
    have r4 : (d == d) = true := beq_self_eq_true _
    repeat refine St (And.intro hn <| And.intro h1 <| And.intro h2 <| And.intro h3 <| And.intro h4 <| And.intro h5 <| And.intro h6 <| And.intro l1 <| And.intro hb1 <| And.intro r1 <| And.intro r2 <| And.intro r3 <| And.intro r4 <| And.intro h32a <| And.intro h32b <| And.intro g32a <| And.intro g32b <| @F9.eq_def) ct4 ?_
    exact AWP.ret (Fin trivial [] [])

theorem shx_header (a : THd) (b : List UInt8) : F4 [hdT a, .by b] = some ([], .t (.bool true)) := by simp only [F4, inv_of hdT_inj]

theorem blR_ok (x : TBl) (r : List UInt8) : blR (.ok x r) = ([], .tup [.t (.st [.st [.int .u32 (x.hd.ver.toNat : Int), .ba 32 x.hd.prev.1, .ba 32 x.hd.root.1, .int .u32 (x.hd.time.toNat : Int), .int .u32 (x.hd.bits.toNat : Int), .int .u32 (x.hd.nonce.toNat : Int)], .sq 4 (x.txs.map txT)]), .t (.int .i64 0)]) := rfl
theorem blR_err (e : Int) : blR (.err e) = ([], .tup [.t (.st [.st [.int .u32 0, .ba 32 (zby 32), .ba 32 (zby 32), .int .u32 0, .int .u32 0, .int .u32 0], .sq 4 []]), .t (.int .i64 e)]) := rfl

def F3 : Fun
  | [.by b] => some ([], .t (.bool true))
  | _ => none

theorem ct3 : CT [(9, ⟨[], treeG F9⟩), (10, ⟨[false], treeG F10⟩), (11, ⟨[false], treeG F11⟩), (12, ⟨[false, false], treeG F12⟩)] [0, 2, 3, 4, 5, 6, 7, 10] [] := ⟨(.cons c9.g (.cons c10.g (.cons c11.g (.cons c12.g (.nil _)))))⟩

set_option maxHeartbeats 4000000 in
theorem c3 : ACon Try.prog 3 F3 := by
  refine aconc E_ok (rs := [.tmp 2 4]) Try.func3 rfl Try.ntmps3 (by kernel_rfl) rfl (by decide) F3 (np := 1) ?_ ?_
  · intro ts h; unfold F3; split <;> first | rfl | (simp at h; done)
  intro ts H r hF hwf
  unfold F3 at hF
  split at hF <;> try (cases hF; done)
  rename_i b
  cases hF
  by_cases hn : 2500 < (b.length : Int)
  · repeat refine St (And.intro hn <| @F9.eq_def) ct3 ?_
    exact AWP.ret (Fin trivial [] [])
  have h1 := decb_c (b := b) (by omega)
  have h2 := rdecb_c (b := b) (by omega)
  have hb1 : b.length ≤ 3000 := by omega
  have r3 : (b == b) = true := beq_self_eq_true _
  cases hd : decBl b with
  | err e =>
    have h3 := rsameb_c dBl dBl
    rw [decide_eq_true rfl, dBl_T] at h3
    rw [hd, blR_err] at h1 h2
    have r4 : (e == e) = true := beq_self_eq_true _
    repeat refine St (And.intro hn <| And.intro h1 <| And.intro h2 <| And.intro h3 <| And.intro hb1 <| And.intro r3 <| And.intro r4 <| @F9.eq_def) ct3 ?_
    exact AWP.ret (Fin trivial [] [])
  | ok x r =>
    have h3 := rsameb_c x x
    rw [decide_eq_true (p := x = x) rfl, blT_st] at h3
    rw [hd, blR_ok] at h1 h2
    have g32a := x.hd.prev.2
    have g32b := x.hd.root.2
    repeat refine St (And.intro hn <| And.intro h1 <| And.intro h2 <| And.intro h3 <| And.intro hb1 <| And.intro r3 <| And.intro g32a <| And.intro g32b <| @F9.eq_def) ct3 ?_
    exact AWP.ret (Fin trivial [] [])

noncomputable def F6 : Fun
  | [y] => match inv blT y with
    | some b => some ([], .t (.bool true))
    | none => none
  | _ => none

theorem ct6 : CT [(9, ⟨[], treeG F9⟩), (19, ⟨[false], treeG F19⟩), (20, ⟨[false], treeG F20⟩), (21, ⟨[false], treeG F21⟩), (22, ⟨[false], treeG F22⟩)] [0, 1, 2, 3, 4, 5, 6, 10] [] := ⟨(.cons c9.g (.cons c19.g (.cons c20.g (.cons c21.g (.cons c22.g (.nil _))))))⟩

set_option maxHeartbeats 2000000 in
theorem c6 : ACon Try.prog 6 F6 := by
  refine aconc E_ok (rs := [.tmp 2 4]) Try.func6 rfl Try.ntmps6 (by kernel_rfl) rfl (by decide) F6 (np := 1) ?_ ?_
  · intro ts h; unfold F6; split <;> first | rfl | (simp at h; done)
  intro ts H r hF hwf
  unfold F6 at hF
  split at hF <;> try (cases hF; done)
  split at hF <;> try (cases hF; done)
  rename_i b hb
  cases hF
  obtain rfl := inv_inv hb
  have h0 := rsmallb_c b.txs
  have h1 := enc_b b
  have h2 := renc_b b
  have h3 := chk_b b
  have g32a := b.hd.prev.2
  have g32b := b.hd.root.2
  rw [blT_st] at h1 h2 h3 ⊢
  generalize encE b = E at *
  generalize encI b = I at *
  have r1 : (E == E) = true := beq_self_eq_true _
  have r2 : (I == I) = true := beq_self_eq_true _
  cases hs : smallBl b.txs with
  | false =>
    rw [hs] at h0
    repeat refine St (And.intro h0 <| And.intro g32a <| And.intro g32b <| @F9.eq_def) ct6 ?_
    exact AWP.ret (Fin trivial [] [])
  | true =>
    rw [hs] at h0
    repeat refine St (And.intro h0 <| And.intro h1 <| And.intro h2 <| And.intro h3 <| And.intro r1 <| And.intro r2 <| And.intro g32a <| And.intro g32b <| @F9.eq_def) ct6 ?_
    exact AWP.ret (Fin trivial [] [])

theorem shx_encode (a : TBl) : F6 [blT a] = some ([], .t (.bool true)) := by simp only [F6, inv_of blT_inj]

end Go.Fw

end
