/- The abstract machine, and the contracts of the code: part 49. -/
import Derived.Test.YtchljppcenckaaaP48

section
/- compact: bytes taken apart. -/
namespace Go.Fw
open Go Go.Proofs
set_option linter.unusedVariables false
set_option linter.unusedSimpArgs false

def F98 : Fun
  | [.by b, .int .i64 n] => some ([], .tup [.t (.by (spA b n)), .t (.by (spB b n)), .t (.int .i64 (spE b n))])
  | _ => none

theorem ct98 : CT [] [0, 1, 4, 5, 6, 7, 10] [(5, [⟨0, [0], [], []⟩, ⟨0, [1], [], []⟩, ⟨1, [15, 16], [], []⟩, ⟨0, [0], [], []⟩, ⟨0, [1], [], []⟩, ⟨1, [18, 19], [], []⟩, ⟨0, [17], [2], []⟩, ⟨0, [20], [2, 5], []⟩, ⟨0, [], [2, 5], []⟩])] := ⟨GClOk.nil _⟩

theorem c98 : ACon Try.prog 98 F98 := by
  refine aconc E_ok (rs := [.tmp 4 22, .tmp 5 22, .tmp 6 29]) Try.func98 rfl Try.ntmps98 (by kernel_rfl) rfl (by decide) F98 (np := 2) ?_ ?_
  · intro ts h; unfold F98; split <;> first | rfl | (simp at h; done)
  intro ts H r hF hwf
  unfold F98 at hF
  split at hF <;> try (cases hF; done)
  rename_i b n
  cases hF
  by_cases h1 : n < 0
  · repeat refine St trivial ct98 ?_
    exact AWP.ret (Fin (And.intro @spA.eq_def <| And.intro @spB.eq_def <| And.intro @spE.eq_def <| h1) [] [])
  by_cases h2 : (b.length : Int) < n
  · repeat refine St trivial ct98 ?_
    exact AWP.ret (Fin (And.intro @spA.eq_def <| And.intro @spB.eq_def <| And.intro @spE.eq_def <| And.intro h1 <| h2) [] [])
  repeat refine St trivial ct98 ?_
  exact AWP.ret (Fin (And.intro @spA.eq_def <| And.intro @spB.eq_def <| And.intro @spE.eq_def <| And.intro h1 <| h2) [] [])

def F79 : Fun
  | [.by b, .int .i64 n] => if b.length ≤ 549755813000 then some ([.by (spA b n)], .tup [.own 0, .t (.by (spB b n)), .t (.int .i64 (spE b n))]) else none
  | _ => none

theorem ct79 : CT [(96, ⟨[false], treeG F96⟩), (98, ⟨[false, false], treeG F98⟩)] [0, 1, 4, 5, 6, 7, 8, 9] [] := ⟨(.cons c96.g (.cons c98.g (.nil _)))⟩

theorem c79 : ACon Try.prog 79 F79 := by
  refine aconc E_ok (rs := [.tmp 4 22, .tmp 5 22, .tmp 6 29]) Try.func79 rfl Try.ntmps79 (by kernel_rfl) rfl (by decide) F79 (np := 2) ?_ ?_
  · intro ts h; unfold F79; split <;> first | rfl | (simp at h; done)
  intro ts H r hF hwf
  unfold F79 at hF
  split at hF <;> try (cases hF; done)
  rename_i b n
  split at hF
  case isFalse => cases hF
  rename_i hc
  have hb := hc
  cases hF
  have h1 := spA_len b n
  have h2 := spB_len b n
  have ha : F96 [.by (spA b n)] = some ([.by (spA b n)], .own 0) := if_pos (by omega)
  have hb : F96 [.by (spB b n)] = some ([.by (spB b n)], .own 0) := if_pos (by omega)
  repeat refine St (And.intro @F98.eq_def <| And.intro ha <| hb) ct79 ?_
  exact AWP.ret (Fin trivial [1] [0])

theorem take_c {b : List UInt8} (n : Int) (h : b.length ≤ 549755813000) : F79 [.by b, .int .i64 n] = some ([.by (spA b n)], .tup [.own 0, .t (.by (spB b n)), .t (.int .i64 (spE b n))]) := if_pos h

def F95 : Fun
  | [.by b, .int .i64 n] => if n ≤ 8 then some ([], .tup [.t (.int .u64 (num (spA b n))), .t (.by (spB b n)), .t (.int .i64 (spE b n))]) else none
  | _ => none

theorem ct95 : CT [(98, ⟨[false, false], treeG F98⟩)] [0, 1, 4, 5, 6, 7, 8, 9, 10, 11, 20, 21, 22] [] := ⟨(.cons c98.g (.nil _))⟩

theorem c95 : ACon Try.prog 95 F95 := by
  refine aconc E_ok (rs := [.tmp 4 35, .tmp 5 22, .tmp 6 29]) Try.func95 rfl Try.ntmps95 (by kernel_rfl) rfl (by decide) F95 (np := 2) ?_ ?_
  · intro ts h; unfold F95; split <;> first | rfl | (simp at h; done)
  intro ts H r hF hwf
  unfold F95 at hF
  split at hF <;> try (cases hF; done)
  rename_i b n
  split at hF
  case isFalse => cases hF
  rename_i hc
  have hn := hc
  cases hF
  have h8 := spA_le b n 8 hn
  generalize hx : spA b n = x at h8
  repeat refine St (And.intro @F98.eq_def <| hx) ct95 ?_
  have hz : num (x.take 0) = 0 := by simp [num]
  refine AWP.loop (G := { k : Nat // k ≤ x.length }) (fun k => ⟨[(7, .t (.by x)), (8, .t (.by (spB b n))), (9, .t (.int .i64 (spE b n))), (10, .t (.int .u64 (num (x.take k.1)))), (20, .t (.int .i64 (x.length : Int))), (21, .t (.int .i64 (k.1 : Int)))], []⟩)
    (fun k => x.length - k.1) ⟨0, by omega⟩ (Wt (And.intro hz <| (And.intro @num.eq_1 <| @num.eq_2)) [7, 8, 9, 10, 20, 21] []) ?_
  intro ⟨k, hk⟩
  dsimp only
  by_cases hlt : (k : Int) < (x.length : Int)
  · have hd := num_take x k (by omega)
    have h88 := num_lt8 (x.take (k + 1)) (by simp; omega)
    have hp := num_lt (x.take k)
    have htl : (x.take k).length = k := by simp; omega
    rw [htl] at hp
    have hc := (x.getD k 0).toNat_lt
    have e1 : IntKind.i64.wrap (8 * (k : Int)) = ((8 * k : Nat) : Int) := by rw [wrap_i64 (by omega) (by omega)]; omega
    have e2 : IntKind.u64.wrap (((x.getD k 0).toNat : Int) * 2 ^ min (8 * k) IntKind.u64.bits) = (((x.getD k 0).toNat * 256 ^ k : Nat) : Int) := by
      have := shl_step (x.getD k 0).toNat k (by omega) (by omega)
      simp only [arith, Int.toNat_natCast] at this
      rw [if_neg (by omega)] at this
      have h1 : min (8 * k) IntKind.u64.bits = min (8 * k) 64 := rfl
      simpa using this
    have e3 : abits .or .u64 (num (x.take k) : Int) (((x.getD k 0).toNat * 256 ^ k : Nat) : Int) = ((num (x.take (k + 1)) : Nat) : Int) := by
      have := or_step (num (x.take k)) (x.getD k 0).toNat k hp (by omega)
      rw [← hd] at this
      simpa only [arith, Option.some.injEq, T.int.injEq, true_and] using this
    have e0 : ¬ ((8 * k : Nat) : Int) < 0 := by omega
    have hkx : k < x.length := by omega
    have e4 : IntKind.u64.wrap ((x.getD k 0).toNat : Int) = ((x.getD k 0).toNat : Int) := wrap_u64 (by omega) (by omega)
    repeat refine St (And.intro hkx <| And.intro e0 <| And.intro e1 <| And.intro e2 <| And.intro e3 <| e4) ct95 ?_
    exact ⟨⟨k + 1, by omega⟩, (Wt trivial [7, 8, 9, 10, 20, 21] []), by simp only; omega⟩
  · obtain rfl : k = x.length := by omega
    repeat refine St trivial ct95 ?_
    exact AWP.ret (Fin (@List.take_length.{0}) [] [])

theorem read_c (l : List UInt8) (n : Int) (h : n ≤ 8) : F95 [.by l, .int .i64 n] = some ([], .tup [.t (.int .u64 (num (spA l n))), .t (.by (spB l n)), .t (.int .i64 (spE l n))]) := if_pos h

def F77 : Fun
  | [.by b] => if b.length ≤ 549755813000 then some ([], .tup [.t (.int .u32 (num (spA b 4))), .t (.by (spB b 4)), .t (.int .i64 (spE b 4))]) else none
  | _ => none

theorem ct77 : CT [(95, ⟨[false, false], treeG F95⟩), (96, ⟨[false], treeG F96⟩)] [0, 2, 3, 4, 5, 6, 7] [] := ⟨(.cons c95.g (.cons c96.g (.nil _)))⟩

theorem c77 : ACon Try.prog 77 F77 := by
  refine aconc E_ok (rs := [.tmp 2 24, .tmp 3 22, .tmp 4 29]) Try.func77 rfl Try.ntmps77 (by kernel_rfl) rfl (by decide) F77 (np := 1) ?_ ?_
  · intro ts h; unfold F77; split <;> first | rfl | (simp at h; done)
  intro ts H r hF hwf
  unfold F77 at hF
  split at hF <;> try (cases hF; done)
  rename_i b
  split at hF
  case isFalse => cases hF
  rename_i hc
  have hb := hc
  cases hF
  have hl := spB_len b 4
  have h4 := num_lt4 (spA b 4) (spA_le b 4 4 (by omega))
  have hw : IntKind.u32.wrap (num (spA b 4) : Int) = num (spA b 4) := wrap_u32 (by omega) (by omega)
  have h1 := read_c b 4 (by omega)
  have h2 : F96 [.by (spB b 4)] = some ([.by (spB b 4)], .own 0) := if_pos (by omega)
  repeat refine St (And.intro h1 <| And.intro h2 <| hw) ct77 ?_
  exact AWP.ret (Fin trivial [0] [])

def F80 : Fun
  | [.by b] => if b.length ≤ 549755813000 then some ([], .tup [.t (.int .u64 (num (spA b 8))), .t (.by (spB b 8)), .t (.int .i64 (spE b 8))]) else none
  | _ => none

theorem ct80 : CT [(95, ⟨[false, false], treeG F95⟩), (96, ⟨[false], treeG F96⟩)] [0, 2, 3, 4, 5, 6, 7] [] := ⟨(.cons c95.g (.cons c96.g (.nil _)))⟩

theorem c80 : ACon Try.prog 80 F80 := by
  refine aconc E_ok (rs := [.tmp 2 35, .tmp 3 22, .tmp 4 29]) Try.func80 rfl Try.ntmps80 (by kernel_rfl) rfl (by decide) F80 (np := 1) ?_ ?_
  · intro ts h; unfold F80; split <;> first | rfl | (simp at h; done)
  intro ts H r hF hwf
  unfold F80 at hF
  split at hF <;> try (cases hF; done)
  rename_i b
  split at hF
  case isFalse => cases hF
  rename_i hc
  have hb := hc
  cases hF
  have hl := spB_len b 8
  have h4 := num_lt8 (spA b 8) (spA_le b 8 8 (by omega))
  have hw : IntKind.u64.wrap (num (spA b 8) : Int) = num (spA b 8) := wrap_u64 (by omega) (by omega)
  have h1 := read_c b 8 (by omega)
  have h2 : F96 [.by (spB b 8)] = some ([.by (spB b 8)], .own 0) := if_pos (by omega)
  repeat refine St (And.intro h1 <| And.intro h2 <| hw) ct80 ?_
  exact AWP.ret (Fin trivial [0] [])

theorem take64_c {b : List UInt8} (h : b.length ≤ 549755813000) : F80 [.by b] = some ([], .tup [.t (.int .u64 (num (spA b 8))), .t (.by (spB b 8)), .t (.int .i64 (spE b 8))]) := if_pos h
theorem take32_c {b : List UInt8} (h : b.length ≤ 549755813000) : F77 [.by b] = some ([], .tup [.t (.int .u32 (num (spA b 4))), .t (.by (spB b 4)), .t (.int .i64 (spE b 4))]) := if_pos h
def F97 : Fun
  | [.by b] => some ([], .tup [.t (.int .u64 ((sz b).1 : Nat)), .t (.by (sz b).2.1), .t (.int .i64 (sz b).2.2)])
  | _ => none

theorem ct97 : CT [(95, ⟨[false, false], treeG F95⟩)] [0, 2, 3, 4, 5, 6, 7, 8, 9, 10, 18, 20, 23, 25, 27, 36, 40] [] := ⟨(.cons c95.g (.nil _))⟩

set_option maxHeartbeats 2000000 in
theorem c97 : ACon Try.prog 97 F97 := by
  refine aconc E_ok (rs := [.tmp 2 35, .tmp 3 22, .tmp 4 29]) Try.func97 rfl Try.ntmps97 (by kernel_rfl) rfl (by decide) F97 (np := 1) ?_ ?_
  · intro ts h; unfold F97; split <;> first | rfl | (simp at h; done)
  intro ts H r hF hwf
  unfold F97 at hF
  split at hF <;> try (cases hF; done)
  rename_i b
  cases hF
  have r1 := read_c b 1 (by omega)
  have r2 := read_c (spB b 1) 2 (by omega)
  have r4 := read_c (spB b 1) 4 (by omega)
  have r8 := read_c (spB b 1) 8 (by omega)
  have hsz := sz.eq_1 b
  generalize sz b = R at *
  generalize spB b 1 = y at *
  by_cases h1 : spE b 1 = 0
  case neg =>
    simp only [h1, ne_eq, not_false_eq_true, if_true] at hsz
    repeat refine St r1 ct97 ?_
    exact AWP.ret (Fin hsz [] [])
  simp only [h1, ne_eq, not_true_eq_false, if_false] at hsz
  rw [h1] at r1
  obtain ⟨x, hx⟩ : ∃ x : Nat, num (spA b 1) = x := ⟨_, rfl⟩
  rw [hx] at hsz r1
  by_cases h253 : x = 253
  case pos =>
    subst h253
    simp only [Nat.reduceEqDiff, if_true, if_false] at hsz
    unfold rdR at hsz
    by_cases k1 : spE y 2 = 0
    case neg =>
      simp only [k1, ne_eq, not_false_eq_true, if_true] at hsz
      repeat refine St (And.intro r1 <| r2) ct97 ?_
      exact AWP.ret (Fin hsz [] [])
    simp only [k1, ne_eq, not_true_eq_false, if_false] at hsz
    rw [k1] at r2
    split at hsz
    · repeat refine St (And.intro r1 <| r2) ct97 ?_
      exact AWP.ret (Fin hsz [] [])
    · repeat refine St (And.intro r1 <| r2) ct97 ?_
      exact AWP.ret (Fin hsz [] [])
  by_cases h254 : x = 254
  case pos =>
    subst h254
    simp only [Nat.reduceEqDiff, if_true, if_false] at hsz
    unfold rdR at hsz
    by_cases k1 : spE y 4 = 0
    case neg =>
      simp only [k1, ne_eq, not_false_eq_true, if_true] at hsz
      repeat refine St (And.intro r1 <| r4) ct97 ?_
      exact AWP.ret (Fin hsz [] [])
    simp only [k1, ne_eq, not_true_eq_false, if_false] at hsz
    rw [k1] at r4
    split at hsz
    · repeat refine St (And.intro r1 <| r4) ct97 ?_
      exact AWP.ret (Fin hsz [] [])
    · repeat refine St (And.intro r1 <| r4) ct97 ?_
      exact AWP.ret (Fin hsz [] [])
  by_cases h255 : x = 255
  case pos =>
    subst h255
    simp only [Nat.reduceEqDiff, if_true, if_false] at hsz
    unfold rdR at hsz
    by_cases k1 : spE y 8 = 0
    case neg =>
      simp only [k1, ne_eq, not_false_eq_true, if_true] at hsz
      repeat refine St (And.intro r1 <| r8) ct97 ?_
      exact AWP.ret (Fin hsz [] [])
    simp only [k1, ne_eq, not_true_eq_false, if_false] at hsz
    rw [k1] at r8
    split at hsz
    · repeat refine St (And.intro r1 <| r8) ct97 ?_
      exact AWP.ret (Fin hsz [] [])
    · repeat refine St (And.intro r1 <| r8) ct97 ?_
      exact AWP.ret (Fin hsz [] [])
  simp only [h253, h254, h255, if_false] at hsz
  repeat refine St r1 ct97 ?_
  exact AWP.ret (Fin hsz [] [])

def F78 : Fun
  | [.by b] => if b.length ≤ 549755813000 then some ([], .tup [.t (.int .u64 ((sz b).1 : Nat)), .t (.by (sz b).2.1), .t (.int .i64 (sz b).2.2)]) else none
  | _ => none

theorem ct78 : CT [(96, ⟨[false], treeG F96⟩), (97, ⟨[false], treeG F97⟩)] [0, 2, 3, 4, 5, 6, 7] [] := ⟨(.cons c96.g (.cons c97.g (.nil _)))⟩

theorem c78 : ACon Try.prog 78 F78 := by
  refine aconc E_ok (rs := [.tmp 2 35, .tmp 3 22, .tmp 4 29]) Try.func78 rfl Try.ntmps78 (by kernel_rfl) rfl (by decide) F78 (np := 1) ?_ ?_
  · intro ts h; unfold F78; split <;> first | rfl | (simp at h; done)
  intro ts H r hF hwf
  unfold F78 at hF
  split at hF <;> try (cases hF; done)
  rename_i b
  split at hF
  case isFalse => cases hF
  rename_i hc
  have hb := hc
  cases hF
  have hl := sz_len b
  have h2 : F96 [.by (sz b).2.1] = some ([.by (sz b).2.1], .own 0) := if_pos (by omega)
  repeat refine St (And.intro @F97.eq_def <| h2) ct78 ?_
  exact AWP.ret (Fin trivial [0] [])

theorem takesize_c {b : List UInt8} (h : b.length ≤ 549755813000) : F78 [.by b] = some ([], .tup [.t (.int .u64 ((sz b).1 : Nat)), .t (.by (sz b).2.1), .t (.int .i64 (sz b).2.2)]) := if_pos h

end Go.Fw

end

section
/- compact: bounded things, lists. -/
namespace Go.Fw
open Go Go.Proofs
set_option linter.unusedVariables false
set_option linter.unusedSimpArgs false

def F100 : Fun
  | [.by b, .int .i64 most] => some ([], .tup [.t (.int .i64 ((bnd b most).1 : Nat)), .t (.by (bnd b most).2.1), .t (.int .i64 (bnd b most).2.2)])
  | _ => none

theorem ct100 : CT [(97, ⟨[false], treeG F97⟩)] [0, 1, 4, 5, 6, 7, 8, 9, 16, 20] [] := ⟨(.cons c97.g (.nil _))⟩

theorem c100 : ACon Try.prog 100 F100 := by
  refine aconc E_ok (rs := [.tmp 4 3, .tmp 5 22, .tmp 6 29]) Try.func100 rfl Try.ntmps100 (by kernel_rfl) rfl (by decide) F100 (np := 2) ?_ ?_
  · intro ts h; unfold F100; split <;> first | rfl | (simp at h; done)
  intro ts H r hF hwf
  unfold F100 at hF
  split at hF <;> try (cases hF; done)
  rename_i b most
  cases hF
  have hm := inK_i64 (hwf (.int .i64 most) (by simp))
  have hs : F97 [.by b] = some ([], .tup [.t (.int .u64 ((sz b).1 : Nat)), .t (.by (sz b).2.1), .t (.int .i64 (sz b).2.2)]) := rfl
  have hb := bnd.eq_1 b most
  generalize bnd b most = R at *
  generalize sz b = Z at *
  by_cases h1 : Z.2.2 = 0
  case neg =>
    simp only [h1, ne_eq, not_false_eq_true, if_true] at hb
    repeat refine St hs ct100 ?_
    exact AWP.ret (Fin hb [] [])
  simp only [h1, ne_eq, not_true_eq_false, if_false] at hb
  rw [h1] at hs
  by_cases h2 : most < 0
  · simp only [h2, true_or, if_true] at hb
    repeat refine St (And.intro hs <| h2) ct100 ?_
    exact AWP.ret (Fin hb [] [])
  have hw : IntKind.u64.wrap most = most := wrap_u64 (by omega) (by omega)
  by_cases h3 : most < (Z.1 : Int)
  · simp only [h3, or_true, if_true] at hb
    repeat refine St (And.intro hs <| And.intro h2 <| And.intro h3 <| hw) ct100 ?_
    exact AWP.ret (Fin hb [] [])
  simp only [h2, h3, or_self, if_false] at hb
  repeat refine St (And.intro hs <| And.intro h2 <| And.intro h3 <| hw) ct100 ?_
  exact AWP.ret (Fin hb [] [])

def F99 : Fun
  | [.by b, .int .i64 most] => some ([], .tup [.t (.by (lim b most).1), .t (.by (lim b most).2.1), .t (.int .i64 (lim b most).2.2)])
  | _ => none

theorem ct99 : CT [(98, ⟨[false, false], treeG F98⟩), (100, ⟨[false, false], treeG F100⟩)] [0, 1, 4, 5, 6, 7, 8, 9, 18] [] := ⟨(.cons c98.g (.cons c100.g (.nil _)))⟩

theorem c99 : ACon Try.prog 99 F99 := by
  refine aconc E_ok (rs := [.tmp 4 22, .tmp 5 22, .tmp 6 29]) Try.func99 rfl Try.ntmps99 (by kernel_rfl) rfl (by decide) F99 (np := 2) ?_ ?_
  · intro ts h; unfold F99; split <;> first | rfl | (simp at h; done)
  intro ts H r hF hwf
  unfold F99 at hF
  split at hF <;> try (cases hF; done)
  rename_i b most
  cases hF
  by_cases h1 : (bnd b most).2.2 = 0
  · have hl : lim b most = (spA (bnd b most).2.1 (bnd b most).1, spB (bnd b most).2.1 (bnd b most).1, spE (bnd b most).2.1 (bnd b most).1) := by simp only [lim, h1, ne_eq, not_true_eq_false, if_false]
    repeat refine St (And.intro @F100.eq_def <| @F98.eq_def) ct99 ?_
    exact AWP.ret (Fin hl [] [])
  · have hl : lim b most = ([], [], (bnd b most).2.2) := by simp only [lim, h1, ne_eq, not_false_eq_true, if_true]
    repeat refine St @F100.eq_def ct99 ?_
    exact AWP.ret (Fin hl [] [])

def F81 : Fun
  | [.by b, .int .i64 most] => if b.length ≤ 549755813000 then some ([], .tup [.t (.by (lim b most).1), .t (.by (lim b most).2.1), .t (.int .i64 (lim b most).2.2)]) else none
  | _ => none

theorem ct81 : CT [(96, ⟨[false], treeG F96⟩), (99, ⟨[false, false], treeG F99⟩)] [0, 1, 4, 5, 6, 7, 8, 9] [] := ⟨(.cons c96.g (.cons c99.g (.nil _)))⟩

theorem c81 : ACon Try.prog 81 F81 := by
  refine aconc E_ok (rs := [.tmp 4 22, .tmp 5 22, .tmp 6 29]) Try.func81 rfl Try.ntmps81 (by kernel_rfl) rfl (by decide) F81 (np := 2) ?_ ?_
  · intro ts h; unfold F81; split <;> first | rfl | (simp at h; done)
  intro ts H r hF hwf
  unfold F81 at hF
  split at hF <;> try (cases hF; done)
  rename_i b most
  split at hF
  case isFalse => cases hF
  rename_i hc
  have hb := hc
  cases hF
  obtain ⟨hl1, hl2⟩ := lim_len b most
  have h1 : F96 [.by (lim b most).1] = some ([.by (lim b most).1], .own 0) := if_pos (by omega)
  have h2 : F96 [.by (lim b most).2.1] = some ([.by (lim b most).2.1], .own 0) := if_pos (by omega)
  repeat refine St (And.intro @F99.eq_def <| And.intro h1 <| h2) ct81 ?_
  exact AWP.ret (Fin trivial [0, 1] [])

theorem takebytes_c {b : List UInt8} (most : Int) (h : b.length ≤ 549755813000) : F81 [.by b, .int .i64 most] = some ([], .tup [.t (.by (lim b most).1), .t (.by (lim b most).2.1), .t (.int .i64 (lim b most).2.2)]) := if_pos h

def F82 : Fun
  | [.by b, .int .i64 many, .int .i64 most] => if b.length ≤ 549755812000 then some ([], .tup [.t (.sq 1 ((lst b many most).1.map .by)), .t (.by (lst b many most).2.1), .t (.int .i64 (lst b many most).2.2)]) else none
  | _ => none

theorem ct82 : CT [(96, ⟨[false], treeG F96⟩), (99, ⟨[false, false], treeG F99⟩), (100, ⟨[false, false], treeG F100⟩)] [0, 1, 2, 6, 7, 8, 9, 10, 11, 12, 13, 14, 15, 24, 26, 27, 28, 37] [] := ⟨(.cons c96.g (.cons c99.g (.cons c100.g (.nil _))))⟩

theorem c82 : ACon Try.prog 82 F82 := by
  refine aconc E_ok (rs := [.tmp 6 46, .tmp 7 22, .tmp 8 29]) Try.func82 rfl Try.ntmps82 (by kernel_rfl) rfl (by decide) F82 (np := 3) ?_ ?_
  · intro ts h; unfold F82; split <;> first | rfl | (simp at h; done)
  intro ts H r hF hwf
  unfold F82 at hF
  split at hF <;> try (cases hF; done)
  rename_i b many most
  split at hF
  case isFalse => cases hF
  rename_i hc
  have hb := hc
  cases hF
  have hmany := inK_i64 (hwf (.int .i64 many) (by simp))
  have hbl := bnd_len b many
  have hlt := bnd_lt b many hmany.2
  by_cases h1 : (bnd b many).2.2 = 0
  case neg =>
    have hl : lst b many most = ([], [], (bnd b many).2.2) := by simp only [lst, h1, ne_eq, not_false_eq_true, if_true]
    repeat refine St @F100.eq_def ct82 ?_
    exact AWP.ret (Fin (And.intro hl <| @List.map_nil.{0, 0}) [] [])
  have hl : lst b many most = tkF most (bnd b many).1 [] (bnd b many).2.1 := by simp only [lst, h1, ne_eq, not_true_eq_false, if_false]
  rw [hl]
  have hbd : F100 [.by b, .int .i64 many] = some ([], .tup [.t (.int .i64 ((bnd b many).1 : Nat)), .t (.by (bnd b many).2.1), .t (.int .i64 0)]) := by rw [← h1]; rfl
  generalize (bnd b many).2.1 = q at *
  generalize (bnd b many).1 = n at *
  repeat refine St hbd ct82 ?_
  refine AWP.weak (Wo 12 (.sq 1 [])) ?_
  refine AWP.loop (G := { p : Nat × List (List UInt8) × List UInt8 // p.1 ≤ n ∧ p.2.1.length = p.1 ∧ p.2.1.length + p.2.2.length ≤ q.length ∧ tkF most (n - p.1) p.2.1 p.2.2 = tkF most n [] q })
    (fun p => ⟨[(2, .t (.int .i64 most)), (10, .t (.by p.1.2.2)), (12, .own 0), (26, .t (.int .i64 n)), (27, .t (.int .i64 (p.1.1 : Int)))], [.sq 1 (p.1.2.1.map .by)]⟩)
    (fun p => n - p.1.1) ⟨(0, [], q), by simp⟩ (Wt trivial [2, 10, 12, 26, 27] [0]) ?_
  intro ⟨⟨k, acc, r⟩, hk, ha, hr, ht⟩
  dsimp only at hk ha hr ht ⊢
  by_cases hkn : (k : Int) < (n : Int)
  · have hs : n - k = (n - (k + 1)) + 1 := by omega
    rw [hs, tkF_succ] at ht
    obtain ⟨hlm1, hlm2⟩ := lim_len r most
    by_cases h3 : (lim r most).2.2 = 0
    · rw [if_neg (by simp [h3])] at ht
      have he := lim_eat h3
      have hcp : F96 [.by (lim r most).1] = some ([.by (lim r most).1], .own 0) := if_pos (by omega)
      have hal : (acc.map T.by).length ≤ 549755812000 := by simp; omega
      repeat refine St (And.intro @F99.eq_def <| And.intro hcp <| hal) ct82 ?_
      exact ⟨⟨(k + 1, acc ++ [(lim r most).1], (lim r most).2.1), by omega, by simp; omega, by simp; omega, ht⟩, (Wt @map_snoc [2, 10, 12, 26, 27] [3]), by simp only; omega⟩
    · rw [if_pos h3] at ht
      repeat refine St @F99.eq_def ct82 ?_
      exact AWP.ret (Fin (And.intro ht.symm <| @List.map_nil.{0, 0}) [] [])
  · obtain rfl : k = n := by omega
    rw [Nat.sub_self] at ht
    have hcp : F96 [.by r] = some ([.by r], .own 0) := if_pos (by omega)
    repeat refine St hcp ct82 ?_
    exact AWP.ret (Fin (And.intro ht.symm <| (And.intro @tkF.eq_1 <| @tkF.eq_2)) [0, 1] [])

theorem takelist_c {b : List UInt8} (many most : Int) (h : b.length ≤ 549755812000) : F82 [.by b, .int .i64 many, .int .i64 most] = some ([], .tup [.t (.sq 1 ((lst b many most).1.map .by)), .t (.by (lst b many most).2.1), .t (.int .i64 (lst b many most).2.2)]) := if_pos h

end Go.Fw

end

section
/- tx: the reader. -/
namespace Go.Fw
open Go Go.Proofs
set_option linter.unusedVariables false
set_option linter.unusedSimpArgs false

/-- A reader: what is left, the first error. -/
abbrev rB (s : RSt) : Blk := .bx (.t (.st [.by s.b, .int .i64 s.e]))

def G31 : GFun
  | [.bx (.t (.st [.by b, .int .i64 e]))], [.ptr 0 0 [], .t (.int .i64 x)] => some ([.bx (.t (.st [.by b, .int .i64 (if e = 0 then x else e)]))], .t (.bool (decide ((if e = 0 then x else e) = 0))))
  | _, _ => none

theorem ct31 : CT [] [0, 1, 4, 9] [] := ⟨GClOk.nil _⟩

theorem g31 : GCon Try.prog 31 G31 := by
  refine gconc E_ok (rs := [.tmp 4 4]) Try.func31 rfl Try.ntmps31 (by kernel_rfl) rfl (by decide) G31 (np := 2) ?_ ?_
  · intro HB xs h; unfold G31; split <;> first | rfl | (simp at h; done)
  intro HB xs H r hG hwf hex
  unfold G31 at hG
  split at hG <;> try (cases hG; done)
  rename_i b e x
  cases hG
  by_cases he : e = 0
  · subst he
    have h1 : (if (0 : Int) = 0 then x else 0) = x := if_pos rfl
    rw [h1]
    by_cases hx : x = 0
    · subst hx
      repeat refine St (And.intro @gentry.eq_1 <| @gentry.eq_2) ct31 ?_
      exact AWP.ret (Fin trivial [] [0])
    · have h2 : (x == 0) = false := by simpa using hx
      have h3 : decide (x = 0) = false := by simpa using hx
      rw [h3]
      repeat refine St (And.intro (And.intro @gentry.eq_1 <| @gentry.eq_2) <| h2) ct31 ?_
      exact AWP.ret (Fin trivial [] [0])
  · have h1 : (if e = 0 then x else e) = e := if_neg he
    have h2 : (e == 0) = false := by simpa using he
    have h3 : decide (e = 0) = false := by simpa using he
    rw [h1, h3]
    repeat refine St (And.intro (And.intro @gentry.eq_1 <| @gentry.eq_2) <| h2) ct31 ?_
    exact AWP.ret (Fin trivial [] [0])

theorem fine_0 (b : List UInt8) (x : Int) : G31 [.bx (.t (.st [.by b, .int .i64 0]))] [.ptr 0 0 [], .t (.int .i64 x)] = some ([.bx (.t (.st [.by b, .int .i64 x]))], .t (.bool (decide (x = 0)))) := rfl
theorem fine_1 (b : List UInt8) {e : Int} (x : Int) (h : e ≠ 0) : G31 [.bx (.t (.st [.by b, .int .i64 e]))] [.ptr 0 0 [], .t (.int .i64 x)] = some ([.bx (.t (.st [.by b, .int .i64 e]))], .t (.bool false)) := by
  have h1 : (if e = 0 then x else e) = e := if_neg h
  have h3 : decide (e = 0) = false := by simpa using h
  simp only [G31, h1, h3]

theorem take32_r (b : List UInt8) (h : b.length ≤ 549755812000) : F77 [.by b] = some ([], .tup [.t (.int .u32 ((t32 b).1.toNat : Int)), .t (.by (t32 b).2.1), .t (.int .i64 (t32 b).2.2)]) := by
  rw [take32_c (by omega)]
  show _ = some (_, AV.tup [.t (.int .u32 ((UInt32.ofNat (num (spA b 4))).toNat : Int)), _, _])
  rw [u32_num _ (spA_le b 4 4 (by omega))]; rfl
theorem take64_r (b : List UInt8) (h : b.length ≤ 549755812000) : F80 [.by b] = some ([], .tup [.t (.int .u64 ((t64 b).1.toNat : Int)), .t (.by (t64 b).2.1), .t (.int .i64 (t64 b).2.2)]) := by
  rw [take64_c (by omega)]
  show _ = some (_, AV.tup [.t (.int .u64 ((UInt64.ofNat (num (spA b 8))).toNat : Int)), _, _])
  rw [u64_num _ (spA_le b 8 8 (by omega))]; rfl
theorem takescr_r (b : List UInt8) (h : b.length ≤ 549755812000) : F81 [.by b, .int .i64 1000] = some ([], .tup [.t (.by (tScr b).1), .t (.by (tScr b).2.1), .t (.int .i64 (tScr b).2.2)]) := takebytes_c 1000 (by omega)
theorem takewit_r (b : List UInt8) (h : b.length ≤ 549755812000) : F82 [.by b, .int .i64 30, .int .i64 1000] = some ([], .tup [.t (.sq 1 ((tWit b).1.map .by)), .t (.by (tWit b).2.1), .t (.int .i64 (tWit b).2.2)]) := takelist_c 30 1000 (by omega)

theorem rd_1 {α : Type} (t : List UInt8 → α × List UInt8 × Int) (d : α) {b : List UInt8} {e : Int} (h : e ≠ 0) : rd t d ⟨b, e⟩ = (d, ⟨b, e⟩) := if_pos h
theorem rd_2 {α : Type} (t : List UInt8 → α × List UInt8 × Int) (d : α) {b : List UInt8} (h : (t b).2.2 ≠ 0) : rd t d ⟨b, 0⟩ = (d, ⟨b, (t b).2.2⟩) := by
  unfold rd; rw [if_neg (by simp)]; exact if_pos h
theorem rd_3 {α : Type} (t : List UInt8 → α × List UInt8 × Int) (d : α) {b : List UInt8} (h : (t b).2.2 = 0) : rd t d ⟨b, 0⟩ = ((t b).1, ⟨(t b).2.1, 0⟩) := by
  unfold rd; rw [if_neg (by simp)]; exact if_neg (by simpa using h)

def G50 : GFun
  | [.bx (.t (.st [.by b, .int .i64 e]))], [.ptr 0 0 []] => if b.length ≤ 549755812000 then (let R := rd t32 0 ⟨b, e⟩; some ([rB R.2], .t (.int .u32 (R.1.toNat : Int)))) else none
  | _, _ => none

theorem ct50 : CT [(31, ⟨[true, false], G31⟩), (77, ⟨[false], treeG F77⟩)] [0, 2, 3, 4, 5, 18] [] := ⟨(.cons g31 (.cons c77.g (.nil _)))⟩

theorem g50 : GCon Try.prog 50 G50 := by
  refine gconc E_ok (rs := [.tmp 2 24]) Try.func50 rfl Try.ntmps50 (by kernel_rfl) rfl (by decide) G50 (np := 1) ?_ ?_
  · intro HB xs h; unfold G50; split <;> first | rfl | (simp at h; done)
  intro HB xs H r hG hwf hex
  unfold G50 at hG
  split at hG <;> try (cases hG; done)
  rename_i b e
  split at hG
  case isFalse => cases hG
  rename_i hc
  have hb := hc
  cases hG
  have h1 := take32_r b hb
  by_cases he : e = 0
  · subst he
    have h2 := fine_0 b (t32 b).2.2
    by_cases hx : (t32 b).2.2 = 0
    · rw [rd_3 _ _ hx]
      rw [hx] at h1 h2
      generalize t32 b = R at *
      repeat refine St (And.intro (And.intro @gentry.eq_1 <| @gentry.eq_2) <| And.intro h1 <| h2) ct50 ?_
      exact AWP.ret (Fin trivial [] [0])
    · rw [rd_2 _ _ hx]
      have h3 : decide ((t32 b).2.2 = 0) = false := by simpa using hx
      rw [h3] at h2
      generalize t32 b = R at *
      repeat refine St (And.intro (And.intro @gentry.eq_1 <| @gentry.eq_2) <| And.intro h1 <| h2) ct50 ?_
      exact AWP.ret (Fin @UInt32.toNat_zero [] [0])
  · have h2 := fine_1 b (t32 b).2.2 he
    rw [rd_1 _ _ he]
    generalize t32 b = R at *
    repeat refine St (And.intro (And.intro @gentry.eq_1 <| @gentry.eq_2) <| And.intro h1 <| h2) ct50 ?_
    exact AWP.ret (Fin @UInt32.toNat_zero [] [0])

def G53 : GFun
  | [.bx (.t (.st [.by b, .int .i64 e]))], [.ptr 0 0 []] => if b.length ≤ 549755812000 then (let R := rd t64 0 ⟨b, e⟩; some ([rB R.2], .t (.int .u64 (R.1.toNat : Int)))) else none
  | _, _ => none

theorem ct53 : CT [(31, ⟨[true, false], G31⟩), (80, ⟨[false], treeG F80⟩)] [0, 2, 3, 4, 5, 18] [] := ⟨(.cons g31 (.cons c80.g (.nil _)))⟩

theorem g53 : GCon Try.prog 53 G53 := by
  refine gconc E_ok (rs := [.tmp 2 35]) Try.func53 rfl Try.ntmps53 (by kernel_rfl) rfl (by decide) G53 (np := 1) ?_ ?_
  · intro HB xs h; unfold G53; split <;> first | rfl | (simp at h; done)
  intro HB xs H r hG hwf hex
  unfold G53 at hG
  split at hG <;> try (cases hG; done)
  rename_i b e
  split at hG
  case isFalse => cases hG
  rename_i hc
  have hb := hc
  cases hG
  have h1 := take64_r b hb
  by_cases he : e = 0
  · subst he
    have h2 := fine_0 b (t64 b).2.2
    by_cases hx : (t64 b).2.2 = 0
    · rw [rd_3 _ _ hx]
      rw [hx] at h1 h2
      generalize t64 b = R at *
      repeat refine St (And.intro (And.intro @gentry.eq_1 <| @gentry.eq_2) <| And.intro h1 <| h2) ct53 ?_
      exact AWP.ret (Fin trivial [] [0])
    · rw [rd_2 _ _ hx]
      have h3 : decide ((t64 b).2.2 = 0) = false := by simpa using hx
      rw [h3] at h2
      generalize t64 b = R at *
      repeat refine St (And.intro (And.intro @gentry.eq_1 <| @gentry.eq_2) <| And.intro h1 <| h2) ct53 ?_
      exact AWP.ret (Fin @UInt64.toNat_zero [] [0])
  · have h2 := fine_1 b (t64 b).2.2 he
    rw [rd_1 _ _ he]
    generalize t64 b = R at *
    repeat refine St (And.intro (And.intro @gentry.eq_1 <| @gentry.eq_2) <| And.intro h1 <| h2) ct53 ?_
    exact AWP.ret (Fin @UInt64.toNat_zero [] [0])

def G54 : GFun
  | [.bx (.t (.st [.by b, .int .i64 e]))], [.ptr 0 0 []] => if b.length ≤ 549755812000 then (let R := rd tScr [] ⟨b, e⟩; some ([rB R.2], .t (.by R.1))) else none
  | _, _ => none

theorem ct54 : CT [(31, ⟨[true, false], G31⟩), (81, ⟨[false, false], treeG F81⟩)] [0, 2, 3, 4, 5, 18] [] := ⟨(.cons g31 (.cons c81.g (.nil _)))⟩

theorem g54 : GCon Try.prog 54 G54 := by
  refine gconc E_ok (rs := [.tmp 2 22]) Try.func54 rfl Try.ntmps54 (by kernel_rfl) rfl (by decide) G54 (np := 1) ?_ ?_
  · intro HB xs h; unfold G54; split <;> first | rfl | (simp at h; done)
  intro HB xs H r hG hwf hex
  unfold G54 at hG
  split at hG <;> try (cases hG; done)
  rename_i b e
  split at hG
  case isFalse => cases hG
  rename_i hc
  have hb := hc
  cases hG
  have h1 := takescr_r b hb
  by_cases he : e = 0
  · subst he
    have h2 := fine_0 b (tScr b).2.2
    by_cases hx : (tScr b).2.2 = 0
    · rw [rd_3 _ _ hx]
      rw [hx] at h1 h2
      generalize tScr b = R at *
      repeat refine St (And.intro (And.intro @gentry.eq_1 <| @gentry.eq_2) <| And.intro h1 <| h2) ct54 ?_
      exact AWP.ret (Fin trivial [] [0])
    · rw [rd_2 _ _ hx]
      have h3 : decide ((tScr b).2.2 = 0) = false := by simpa using hx
      rw [h3] at h2
      generalize tScr b = R at *
      repeat refine St (And.intro (And.intro @gentry.eq_1 <| @gentry.eq_2) <| And.intro h1 <| h2) ct54 ?_
      exact AWP.ret (Fin trivial [] [0])
  · have h2 := fine_1 b (tScr b).2.2 he
    rw [rd_1 _ _ he]
    generalize tScr b = R at *
    repeat refine St (And.intro (And.intro @gentry.eq_1 <| @gentry.eq_2) <| And.intro h1 <| h2) ct54 ?_
    exact AWP.ret (Fin trivial [] [0])

def G55 : GFun
  | [.bx (.t (.st [.by b, .int .i64 e]))], [.ptr 0 0 []] => if b.length ≤ 549755812000 then (let R := rd tWit [] ⟨b, e⟩; some ([rB R.2], .t (.sq 1 (R.1.map .by)))) else none
  | _, _ => none

theorem ct55 : CT [(31, ⟨[true, false], G31⟩), (82, ⟨[false, false, false], treeG F82⟩)] [0, 2, 3, 4, 5, 18] [] := ⟨(.cons g31 (.cons c82.g (.nil _)))⟩

theorem g55 : GCon Try.prog 55 G55 := by
  refine gconc E_ok (rs := [.tmp 2 46]) Try.func55 rfl Try.ntmps55 (by kernel_rfl) rfl (by decide) G55 (np := 1) ?_ ?_
  · intro HB xs h; unfold G55; split <;> first | rfl | (simp at h; done)
  intro HB xs H r hG hwf hex
  unfold G55 at hG
  split at hG <;> try (cases hG; done)
  rename_i b e
  split at hG
  case isFalse => cases hG
  rename_i hc
  have hb := hc
  cases hG
  have h1 := takewit_r b hb
  by_cases he : e = 0
  · subst he
    have h2 := fine_0 b (tWit b).2.2
    by_cases hx : (tWit b).2.2 = 0
    · rw [rd_3 _ _ hx]
      rw [hx] at h1 h2
      generalize tWit b = R at *
      repeat refine St (And.intro (And.intro @gentry.eq_1 <| @gentry.eq_2) <| And.intro h1 <| h2) ct55 ?_
      exact AWP.ret (Fin trivial [] [0])
    · rw [rd_2 _ _ hx]
      have h3 : decide ((tWit b).2.2 = 0) = false := by simpa using hx
      rw [h3] at h2
      generalize tWit b = R at *
      repeat refine St (And.intro (And.intro @gentry.eq_1 <| @gentry.eq_2) <| And.intro h1 <| h2) ct55 ?_
      exact AWP.ret (Fin (@List.map_nil.{0, 0}) [] [0])
  · have h2 := fine_1 b (tWit b).2.2 he
    rw [rd_1 _ _ he]
    generalize tWit b = R at *
    repeat refine St (And.intro (And.intro @gentry.eq_1 <| @gentry.eq_2) <| And.intro h1 <| h2) ct55 ?_
    exact AWP.ret (Fin (@List.map_nil.{0, 0}) [] [0])


end Go.Fw

end

section
/- tx's answer: the reader. -/
namespace Go.Fw
open Go Go.Proofs
set_option linter.unusedVariables false
set_option linter.unusedSimpArgs false

def hsf9 (l : List UInt8) (i : Nat) : List UInt8 := l.take i ++ List.replicate (32 - i) 0
theorem hsh_len {l : List UInt8} {i : Nat} (h : l.length = 32) (hi : i ≤ 32) : (hsf9 l i).length = 32 := by simp [hsf9]; omega
theorem hsh_set {l : List UInt8} {i : Nat} (h : l.length = 32) (hi : i < 32) : (hsf9 l i).set i (l.getD i 0) = hsf9 l (i + 1) := by
  unfold hsf9
  rw [show 32 - i = (32 - (i + 1)) + 1 by omega, List.replicate_succ, List.set_append_right _ _ (by simp; omega)]
  have e : i - (l.take i).length = 0 := by simp; omega
  rw [e, List.set_cons_zero, List.take_succ_eq_append_getElem (by omega), List.append_assoc]
  have : l.getD i 0 = l[i] := by simp [show i < l.length by omega]
  rw [this]; rfl
theorem hsh_0 (l : List UInt8) : hsf9 l 0 = zby 32 := rfl
theorem hsh_32 {l : List UInt8} (h : l.length = 32) : hsf9 l 32 = l := by unfold hsf9; rw [List.take_of_length_le (by omega)]; simp

def F59 : Fun
  | [.by l] => if l.length = 32 then some ([], .t (.ba 32 l)) else if l.length = 0 then some ([], .t (.ba 32 (zby 32))) else none
  | _ => none

theorem ct59 : CT [] [0, 2, 3, 4, 13] [] := ⟨GClOk.nil _⟩

theorem c59 : ACon Try.prog 59 F59 := by
  refine aconc E_ok (rs := [.cell 2 43]) Try.func59 rfl Try.ntmps59 (by kernel_rfl) rfl (by decide) F59 (np := 1) ?_ ?_
  · intro ts h; unfold F59; split <;> first | rfl | (simp at h; done)
  intro ts H r hF hwf
  unfold F59 at hF
  split at hF <;> try (cases hF; done)
  rename_i l
  split at hF
  · rename_i hl
    cases hF
    repeat refine St trivial ct59 ?_
    refine AWP.loop (G := { i : Nat // i ≤ 32 }) (fun i => ⟨[(0, .t (.by l)), (2, .ptr 0 0 []), (3, .ptr 1 0 []), (4, .t (.int .i64 (i.1 : Int)))], [.bx (.t (.ba 32 (zby 32))), .bx (.t (.ba 32 (hsf9 l i.1)))]⟩) (fun i => 32 - i.1) ⟨0, by omega⟩ (Wt @hsh_0 [0, 2, 3, 4] [0, 1]) ?_
    intro ⟨i, hi⟩
    dsimp only
    have hhl := hsh_len hl hi
    by_cases hlt : (i : Int) < (l.length : Int)
    · have hlt' : i < l.length := by omega
      have h32 : (i : Int) < 32 := by omega
      have h32' : i < 32 := by omega
      have hs := hsh_set hl h32'
      have hof : ∀ c : UInt8, UInt8.ofNat c.toNat = c := fun c => by simp
      repeat refine St (And.intro hlt <| And.intro hlt' <| And.intro h32 <| And.intro h32' <| And.intro hs <| And.intro hhl <| And.intro @u8.eq_def <| And.intro hof <| @T.size.eq_def) ct59 ?_
      exact ⟨⟨i + 1, by omega⟩, (Wt trivial [0, 2, 3, 4] [0, 1]), by simp only; omega⟩
    · have hend : hsf9 l i = l := by rw [show i = 32 by omega]; exact hsh_32 hl
      repeat refine St hlt ct59 ?_
      exact AWP.ret (Fin hend [] [])
  · split at hF
    · rename_i hl
      cases hF
      have hlt : ¬ (0 : Int) < (l.length : Int) := by omega
      repeat refine St trivial ct59 ?_
      refine AWP.loop (G := Unit) (fun i => ⟨[(0, .t (.by l)), (2, .ptr 0 0 []), (3, .ptr 1 0 []), (4, .t (.int .i64 0))], [.bx (.t (.ba 32 (zby 32))), .bx (.t (.ba 32 (zby 32)))]⟩) (fun i => 0) () (Wt trivial [0, 2, 3, 4] [0, 1]) ?_
      intro i
      repeat refine St hlt ct59 ?_
      exact AWP.ret (Fin trivial [] [])
    · cases hF

theorem rd0 {α : Type} (t : List UInt8 → α × List UInt8 × Int) (d : α) {b : List UInt8} {e : Int} (h : e ≠ 0) : rdX false t d ⟨b, e⟩ = (d, ⟨b, e⟩) := if_pos h
theorem rd00 {α : Type} (t : List UInt8 → α × List UInt8 × Int) (d : α) (b : List UInt8) : rdX false t d ⟨b, 0⟩ = ((t b).1, ⟨(t b).2.1, (t b).2.2⟩) := if_neg (by simp)

theorem rnum4 (b : List UInt8) (h : b.length ≤ 549755812000) : F56 [.by b, .int .i64 4] = some ([], .tup [.t (.int .u64 ((t32 b).1.toNat : Int)), .t (.by (t32 b).2.1), .t (.int .i64 (t32 b).2.2)]) := by
  rw [number_c b 4 (by omega) (by omega)]
  show _ = some (_, AV.tup [.t (.int .u64 ((UInt32.ofNat (num (spA b 4))).toNat : Int)), _, _])
  rw [u32_num _ (spA_le b 4 4 (by omega))]; rfl
theorem rnum8 (b : List UInt8) (h : b.length ≤ 549755812000) : F56 [.by b, .int .i64 8] = some ([], .tup [.t (.int .u64 ((t64 b).1.toNat : Int)), .t (.by (t64 b).2.1), .t (.int .i64 (t64 b).2.2)]) := by
  rw [number_c b 8 (by omega) (by omega)]
  show _ = some (_, AV.tup [.t (.int .u64 ((UInt64.ofNat (num (spA b 8))).toNat : Int)), _, _])
  rw [u64_num _ (spA_le b 8 8 (by omega))]; rfl

def G32 : GFun
  | [.bx (.t (.st [.by b, .int .i64 e]))], [.ptr 0 0 [], .t (.int .i64 4)] => if b.length ≤ 549755812000 then (let R := rdX false t32 0 ⟨b, e⟩; some ([rB R.2], .t (.int .u64 (R.1.toNat : Int)))) else none
  | [.bx (.t (.st [.by b, .int .i64 e]))], [.ptr 0 0 [], .t (.int .i64 8)] => if b.length ≤ 549755812000 then (let R := rdX false t64 0 ⟨b, e⟩; some ([rB R.2], .t (.int .u64 (R.1.toNat : Int)))) else none
  | _, _ => none

theorem ct32 : CT [(56, ⟨[false, false], treeG F56⟩)] [0, 1, 4, 5, 6, 7, 12] [] := ⟨(.cons c56.g (.nil _))⟩

theorem g32 : GCon Try.prog 32 G32 := by
  refine gconc E_ok (rs := [.tmp 4 35]) Try.func32 rfl Try.ntmps32 (by kernel_rfl) rfl (by decide) G32 (np := 2) ?_ ?_
  · intro HB xs h; unfold G32; split <;> first | rfl | (simp at h; done)
  intro HB xs H r hG hwf hex
  unfold G32 at hG
  split at hG <;> try (cases hG; done)
  · rename_i b e
    split at hG
    case isFalse => cases hG
    rename_i hb
    cases hG
    have h1 := rnum4 b hb
    by_cases he : e = 0
    · subst he
      rw [rd00]
      generalize t32 b = R at *
      repeat refine St (And.intro (And.intro @gentry.eq_1 <| @gentry.eq_2) <| h1) ct32 ?_
      exact AWP.ret (Fin trivial [] [0])
    · rw [rd0 _ _ he]
      have he' : (e != 0) = true := by simpa using he
      repeat refine St (And.intro (And.intro @gentry.eq_1 <| @gentry.eq_2) <| he') ct32 ?_
      exact AWP.ret (Fin @UInt32.toNat_zero [] [0])
  · rename_i b e
    split at hG
    case isFalse => cases hG
    rename_i hb
    cases hG
    have h1 := rnum8 b hb
    by_cases he : e = 0
    · subst he
      rw [rd00]
      generalize t64 b = R at *
      repeat refine St (And.intro (And.intro @gentry.eq_1 <| @gentry.eq_2) <| h1) ct32 ?_
      exact AWP.ret (Fin trivial [] [0])
    · rw [rd0 _ _ he]
      have he' : (e != 0) = true := by simpa using he
      repeat refine St (And.intro (And.intro @gentry.eq_1 <| @gentry.eq_2) <| he') ct32 ?_
      exact AWP.ret (Fin @UInt64.toNat_zero [] [0])

theorem rn32 (s : RSt) (h : s.b.length ≤ 549755812000) : G32 [rB s] [.ptr 0 0 [], .t (.int .i64 4)] = some ([rB (rdX false t32 0 s).2], .t (.int .u64 ((rdX false t32 0 s).1.toNat : Int))) := by
  simp only [G32]; exact if_pos h
theorem rn64 (s : RSt) (h : s.b.length ≤ 549755812000) : G32 [rB s] [.ptr 0 0 [], .t (.int .i64 8)] = some ([rB (rdX false t64 0 s).2], .t (.int .u64 ((rdX false t64 0 s).1.toNat : Int))) := by
  simp only [G32]; exact if_pos h

def G33 : GFun
  | [.bx (.t (.st [.by b, .int .i64 e]))], [.ptr 0 0 [], .t (.int .i64 20)] => if b.length ≤ 549755812000 then (let R := rdCnt false 20 ⟨b, e⟩; some ([rB R.2], .t (.int .i64 (R.1 : Int)))) else none
  | _, _ => none

theorem ct33 : CT [(57, ⟨[false], treeG F57⟩)] [0, 1, 4, 5, 6, 7, 12, 37, 45] [] := ⟨(.cons c57.g (.nil _))⟩

theorem rtsz (b : List UInt8) (h : b.length ≤ 549755812000) : F57 [.by b] = some ([], .tup [.t (.int .u64 ((sz b).1 : Nat)), .t (.by (sz b).2.1), .t (.int .i64 (sz b).2.2)]) := if_pos (by omega)

theorem g33 : GCon Try.prog 33 G33 := by
  refine gconc E_ok (rs := [.tmp 4 3]) Try.func33 rfl Try.ntmps33 (by kernel_rfl) rfl (by decide) G33 (np := 2) ?_ ?_
  · intro HB xs h; unfold G33; split <;> first | rfl | (simp at h; done)
  intro HB xs H r hG hwf hex
  unfold G33 at hG
  split at hG <;> try (cases hG; done)
  rename_i b e
  split at hG
  case isFalse => cases hG
  rename_i hc
  have hb := hc
  cases hG
  have h1 := rtsz b hb
  have hrd : rdCnt false 20 ⟨b, e⟩ = rdX false (tCntD 20) 0 ⟨b, e⟩ := rfl
  rw [hrd]
  have hsl := sz_lt b
  by_cases he : e = 0
  case neg =>
    rw [rd0 _ _ he]
    have he' : (e != 0) = true := by simpa using he
    repeat refine St (And.intro (And.intro @gentry.eq_1 <| @gentry.eq_2) <| he') ct33 ?_
    exact AWP.ret (Fin trivial [] [0])
  subst he
  rw [rd00]
  have hcases : ((sz b).2.2 ≠ 0 ∧ tCntD 20 b = (0, (sz b).2.1, (sz b).2.2)) ∨ ((sz b).2.2 = 0 ∧ 20 < (sz b).1 ∧ tCntD 20 b = (0, (sz b).2.1, 4)) ∨ ((sz b).2.2 = 0 ∧ (sz b).1 ≤ 20 ∧ tCntD 20 b = ((sz b).1, (sz b).2.1, 0)) := by
    unfold tCntD
    by_cases k1 : (sz b).2.2 = 0
    · by_cases k2 : 20 < (sz b).1
      · exact .inr (.inl ⟨k1, k2, if_pos ⟨k1, k2⟩⟩)
      · exact .inr (.inr ⟨k1, by omega, by rw [if_neg (fun h => k2 h.2), if_neg (by simpa using k1)]⟩)
    · exact .inl ⟨k1, by rw [if_neg (fun h => k1 h.1), if_pos k1]⟩
  generalize sz b = Z at *
  obtain ⟨n, rest, f⟩ := Z
  dsimp only at h1 hcases hsl
  rcases hcases with ⟨k1, k2⟩ | ⟨k1, k2, k3⟩ | ⟨k1, k2, k3⟩
  · rw [k2]
    have k1' : (f == 0) = false := by simpa using k1
    have k1n : (f != 0) = true := by simpa using k1
    repeat refine St (And.intro (And.intro @gentry.eq_1 <| @gentry.eq_2) <| And.intro h1 <| And.intro k1' <| k1n) ct33 ?_
    exact AWP.ret (Fin trivial [] [0])
  · rw [k3]
    subst k1
    have k2' : 20 < (n : Int) := by omega
    repeat refine St (And.intro (And.intro @gentry.eq_1 <| @gentry.eq_2) <| And.intro h1 <| k2') ct33 ?_
    exact AWP.ret (Fin trivial [] [0])
  · rw [k3]
    subst k1
    have k2' : ¬ 20 < (n : Int) := by omega
    have hw : IntKind.i64.wrap (n : Int) = (n : Int) := wrap_i64 (by omega) (by omega)
    repeat refine St (And.intro (And.intro @gentry.eq_1 <| @gentry.eq_2) <| And.intro h1 <| And.intro k2' <| hw) ct33 ?_
    exact AWP.ret (Fin trivial [] [0])

theorem rcnt_r (s : RSt) (h : s.b.length ≤ 549755812000) : G33 [rB s] [.ptr 0 0 [], .t (.int .i64 20)] = some ([rB (rdCnt false 20 s).2], .t (.int .i64 ((rdCnt false 20 s).1 : Int))) := by
  simp only [G33]; exact if_pos h

def G36 : GFun
  | [.bx (.t (.st [.by b, .int .i64 e]))], [.ptr 0 0 []] => if b.length ≤ 549755812000 then (let R := rdX false tWit [] ⟨b, e⟩; some ([rB R.2], .t (.sq 1 (R.1.map .by)))) else none
  | _, _ => none

theorem ct36 : CT [(61, ⟨[false, false, false], treeG F61⟩)] [0, 2, 3, 4, 5, 10] [] := ⟨(.cons c61.g (.nil _))⟩

theorem rtwit (b : List UInt8) (h : b.length ≤ 549755812000) : F61 [.by b, .int .i64 30, .int .i64 1000] = some ([], .tup [.t (.sq 1 ((tWit b).1.map .by)), .t (.by (tWit b).2.1), .t (.int .i64 (tWit b).2.2)]) := if_pos (by omega)
theorem rtscr (b : List UInt8) (h : b.length ≤ 549755812000) : F60 [.by b, .int .i64 1000] = some ([], .tup [.t (.by (tScr b).1), .t (.by (tScr b).2.1), .t (.int .i64 (tScr b).2.2)]) := if_pos (by omega)

theorem g36 : GCon Try.prog 36 G36 := by
  refine gconc E_ok (rs := [.tmp 2 46]) Try.func36 rfl Try.ntmps36 (by kernel_rfl) rfl (by decide) G36 (np := 1) ?_ ?_
  · intro HB xs h; unfold G36; split <;> first | rfl | (simp at h; done)
  intro HB xs H r hG hwf hex
  unfold G36 at hG
  split at hG <;> try (cases hG; done)
  rename_i b e
  split at hG
  case isFalse => cases hG
  rename_i hc
  have hb := hc
  cases hG
  have h1 := rtwit b hb
  by_cases he : e = 0
  · subst he
    rw [rd00]
    generalize tWit b = R at *
    repeat refine St (And.intro (And.intro @gentry.eq_1 <| @gentry.eq_2) <| h1) ct36 ?_
    exact AWP.ret (Fin trivial [] [0])
  · rw [rd0 _ _ he]
    have he' : (e != 0) = true := by simpa using he
    repeat refine St (And.intro (And.intro @gentry.eq_1 <| @gentry.eq_2) <| he') ct36 ?_
    exact AWP.ret (Fin (@List.map_nil.{0, 0}) [] [0])

theorem rwit_r (s : RSt) (h : s.b.length ≤ 549755812000) : G36 [rB s] [.ptr 0 0 []] = some ([rB (rdWit false s).2], .t (.sq 1 ((rdWit false s).1.map .by))) := by
  simp only [G36]; exact if_pos h

def G35 : GFun
  | [.bx (.t (.st [.by b, .int .i64 e]))], [.ptr 0 0 []] => if b.length ≤ 549755811000 then (let R := rdOut false ⟨b, e⟩; some ([rB R.2], .t (outT R.1))) else none
  | _, _ => none

theorem ct35 : CT [(32, ⟨[true, false], G32⟩), (60, ⟨[false, false], treeG F60⟩)] [0, 2, 3, 4, 5, 6, 14] [] := ⟨(.cons g32 (.cons c60.g (.nil _)))⟩

theorem g35 : GCon Try.prog 35 G35 := by
  refine gconc E_ok (rs := [.cell 2 37]) Try.func35 rfl Try.ntmps35 (by kernel_rfl) rfl (by decide) G35 (np := 1) ?_ ?_
  · intro HB xs h; unfold G35; split <;> first | rfl | (simp at h; done)
  intro HB xs H r hG hwf hex
  unfold G35 at hG
  split at hG <;> try (cases hG; done)
  rename_i b e
  split at hG
  case isFalse => cases hG
  rename_i hc
  have hb := hc
  cases hG
  have h1 := rn64 ⟨b, e⟩ (Nat.le_trans hb (by omega))
  have hl := rdX_len (P := false) (d := 0) (s := ⟨b, e⟩) t64_len
  unfold rdOut
  obtain ⟨v, s, r1⟩ : ∃ v s, rdX false t64 0 ⟨b, e⟩ = (v, s) := ⟨_, _, rfl⟩
  rw [r1] at h1 hl ⊢
  obtain ⟨b', e'⟩ := s
  dsimp only at h1 hl ⊢
  have h2 := rtscr b' (by omega)
  by_cases he : e' = 0
  · subst he
    rw [rd00]
    generalize tScr b' = R at *
    repeat refine St (And.intro (And.intro @gentry.eq_1 <| @gentry.eq_2) <| And.intro h1 <| h2) ct35 ?_
    exact AWP.ret (Fin @outT.eq_def [] [0])
  · rw [rd0 _ _ he]
    have he' : (e' != 0) = true := by simpa using he
    repeat refine St (And.intro (And.intro @gentry.eq_1 <| @gentry.eq_2) <| And.intro h1 <| he') ct35 ?_
    exact AWP.ret (Fin @outT.eq_def [] [0])

theorem rout_r (s : RSt) (h : s.b.length ≤ 549755811000) : G35 [rB s] [.ptr 0 0 []] = some ([rB (rdOut false s).2], .t (outT (rdOut false s).1)) := by
  simp only [G35]; exact if_pos h

def G34 : GFun
  | [.bx (.t (.st [.by b, .int .i64 e]))], [.ptr 0 0 []] => if b.length ≤ 549755811000 then (let R := rdIn false ⟨b, e⟩; some ([rB R.2], .t (inT R.1))) else none
  | _, _ => none

theorem ct34 : CT [(32, ⟨[true, false], G32⟩), (58, ⟨[false, false], treeG F58⟩), (59, ⟨[false], treeG F59⟩)] [0, 2, 3, 4, 5, 6, 12] [] := ⟨(.cons g32 (.cons c58.g (.cons c59.g (.nil _))))⟩

theorem rtak (b : List UInt8) (h : b.length ≤ 549755812000) : F58 [.by b, .int .i64 32] = some ([], .tup [.t (.by (spA b 32)), .t (.by (spB b 32)), .t (.int .i64 (spE b 32))]) := if_pos (by omega)
theorem u32_back (n : UInt32) : IntKind.u32.wrap (n.toNat : Int) = (n.toNat : Int) := by have := n.toNat_lt; exact wrap_u32 (by omega) (by omega)
theorem zH_2 : zH.1 = zby 32 := rfl

set_option maxHeartbeats 1000000 in
theorem g34 : GCon Try.prog 34 G34 := by
  refine gconc E_ok (rs := [.cell 2 48]) Try.func34 rfl Try.ntmps34 (by kernel_rfl) rfl (by decide) G34 (np := 1) ?_ ?_
  · intro HB xs h; unfold G34; split <;> first | rfl | (simp at h; done)
  intro HB xs H r hG hwf hex
  unfold G34 at hG
  split at hG <;> try (cases hG; done)
  rename_i b e
  split at hG
  case isFalse => cases hG
  rename_i hc
  have hb := hc
  cases hG
  unfold rdIn
  by_cases he : e = 0
  · subst he
    have h1 := rtak b (by omega)
    rw [rd00]
    have htH : tH b = (hOf (spA b 32), spB b 32, spE b 32) := rfl
    rw [htH]
    have hsb := spB_len b 32
    have hh : F59 [.by (spA b 32)] = some ([], .t (.ba 32 (hOf (spA b 32)).1)) := by
      by_cases hx : spE b 32 = 0
      · obtain ⟨q1, q2, q3⟩ := sp_ok hx
        have hl : (spA b 32).length = 32 := by omega
        have ho : (hOf (spA b 32)).1 = spA b 32 := by unfold hOf; rw [dif_pos hl]
        rw [ho]; exact if_pos hl
      · rw [(sp_bad hx).1]
        rfl
    generalize hOf (spA b 32) = h at *
    generalize spA b 32 = x at *
    generalize spE b 32 = f at *
    generalize spB b 32 = y at *
    dsimp only
    have h2 := rn32 ⟨y, f⟩ (by show y.length ≤ _; omega)
    have hl2 := rdX_len (P := false) (d := 0) (s := ⟨y, f⟩) t32_len
    obtain ⟨j, s, r2⟩ : ∃ v s, rdX false t32 0 ⟨y, f⟩ = (v, s) := ⟨_, _, rfl⟩
    rw [r2] at h2 hl2 ⊢
    dsimp only at h2 hl2 ⊢
    have h3 := rn32 s (by omega)
    obtain ⟨q, s', r3⟩ : ∃ v s', rdX false t32 0 s = (v, s') := ⟨_, _, rfl⟩
    rw [r3] at h3 ⊢
    dsimp only at h3 ⊢
    have h32 := h.2
    repeat refine St (And.intro (And.intro @gentry.eq_1 <| @gentry.eq_2) <| And.intro h1 <| And.intro hh <| And.intro h2 <| And.intro h3 <| And.intro h32 <| @u32_back) ct34 ?_
    exact AWP.ret (Fin (And.intro @inT.eq_def <| And.intro @refT.eq_def <| @List.map_nil.{0, 0}) [] [0])
  · rw [rd0 _ _ he, rd0 _ _ he, rd0 _ _ he]
    have he' : (e != 0) = true := by simpa using he
    repeat refine St (And.intro (And.intro @gentry.eq_1 <| @gentry.eq_2) <| he') ct34 ?_
    exact AWP.ret (Fin (And.intro @inT.eq_def <| And.intro @refT.eq_def <| And.intro @List.map_nil.{0, 0} <| And.intro @zH_2 <| @UInt32.toNat_zero) [] [0])

theorem rin_r (s : RSt) (h : s.b.length ≤ 549755811000) : G34 [rB s] [.ptr 0 0 []] = some ([rB (rdIn false s).2], .t (inT (rdIn false s).1)) := by
  simp only [G34]; exact if_pos h

end Go.Fw

end

section
/- tx: the reader of a transaction. -/
namespace Go.Fw
open Go Go.Proofs
set_option linter.unusedVariables false
set_option linter.unusedSimpArgs false

def G51 : GFun
  | [.bx (.t (.st [.by b, .int .i64 e]))], [.ptr 0 0 [], .t (.int .i64 20)] => if b.length ≤ 549755812000 then (let R := rdCnt true 20 ⟨b, e⟩; some ([rB R.2], .t (.int .i64 (R.1 : Int)))) else none
  | _, _ => none

theorem ct51 : CT [(31, ⟨[true, false], G31⟩), (78, ⟨[false], treeG F78⟩)] [0, 1, 4, 5, 6, 7, 24, 28] [] := ⟨(.cons g31 (.cons c78.g (.nil _)))⟩

theorem g51 : GCon Try.prog 51 G51 := by
  refine gconc E_ok (rs := [.tmp 4 3]) Try.func51 rfl Try.ntmps51 (by kernel_rfl) rfl (by decide) G51 (np := 2) ?_ ?_
  · intro HB xs h; unfold G51; split <;> first | rfl | (simp at h; done)
  intro HB xs H r hG hwf hex
  unfold G51 at hG
  split at hG <;> try (cases hG; done)
  rename_i b e
  split at hG
  case isFalse => cases hG
  rename_i hc
  have hb := hc
  cases hG
  have h1 := takesize_c (b := b) (by omega)
  have hrd : rdCnt true 20 ⟨b, e⟩ = rd (tCnt 20) 0 ⟨b, e⟩ := rfl
  rw [hrd]
  have hsl := sz_lt b
  have hcases : ((sz b).2.2 ≠ 0 ∧ tCnt 20 b = (0, [], (sz b).2.2)) ∨ ((sz b).2.2 = 0 ∧ 20 < (sz b).1 ∧ tCnt 20 b = (0, [], 4)) ∨ ((sz b).2.2 = 0 ∧ (sz b).1 ≤ 20 ∧ tCnt 20 b = ((sz b).1, (sz b).2.1, 0)) := by
    unfold tCnt bnd
    by_cases k1 : (sz b).2.2 = 0
    · by_cases k2 : 20 < (sz b).1
      · exact .inr (.inl ⟨k1, k2, by rw [if_neg (by simpa using k1), if_pos (.inr (by omega))]⟩)
      · exact .inr (.inr ⟨k1, by omega, by rw [if_neg (by simpa using k1), if_neg (by omega)]⟩)
    · exact .inl ⟨k1, by rw [if_pos k1]⟩
  generalize sz b = Z at *
  obtain ⟨n, rest, f⟩ := Z
  dsimp only at h1 hcases hsl
  rcases hcases with ⟨k1, k2⟩ | ⟨k1, k2, k3⟩ | ⟨k1, k2, k3⟩
  · have k1' : (f == 0) = false := by simpa using k1
    have hd : decide (f = 0) = false := by simpa using k1
    by_cases he : e = 0
    · subst he
      have h2 := fine_0 b f
      rw [hd] at h2
      rw [rd_2 _ _ (by rw [k2]; exact k1), k2]
      repeat refine St (And.intro (And.intro @gentry.eq_1 <| @gentry.eq_2) <| And.intro h1 <| And.intro h2 <| k1') ct51 ?_
      exact AWP.ret (Fin trivial [] [0])
    · have h2 := fine_1 b f he
      rw [rd_1 _ _ he]
      repeat refine St (And.intro (And.intro @gentry.eq_1 <| @gentry.eq_2) <| And.intro h1 <| And.intro h2 <| k1') ct51 ?_
      exact AWP.ret (Fin trivial [] [0])
  · subst k1
    have k2' : 20 < (n : Int) := by omega
    by_cases he : e = 0
    · subst he
      have h2 := fine_0 b 4
      rw [show decide ((4 : Int) = 0) = false from rfl] at h2
      rw [rd_2 _ _ (by rw [k3]; decide), k3]
      repeat refine St (And.intro (And.intro @gentry.eq_1 <| @gentry.eq_2) <| And.intro h1 <| And.intro h2 <| k2') ct51 ?_
      exact AWP.ret (Fin trivial [] [0])
    · have h2 := fine_1 b 4 he
      rw [rd_1 _ _ he]
      repeat refine St (And.intro (And.intro @gentry.eq_1 <| @gentry.eq_2) <| And.intro h1 <| And.intro h2 <| k2') ct51 ?_
      exact AWP.ret (Fin trivial [] [0])
  · subst k1
    have k2' : ¬ 20 < (n : Int) := by omega
    have hw : IntKind.i64.wrap (n : Int) = (n : Int) := wrap_i64 (by omega) (by omega)
    by_cases he : e = 0
    · subst he
      have h2 := fine_0 b 0
      rw [show decide ((0 : Int) = 0) = true from rfl] at h2
      rw [rd_3 _ _ (by rw [k3]), k3]
      repeat refine St (And.intro (And.intro @gentry.eq_1 <| @gentry.eq_2) <| And.intro h1 <| And.intro h2 <| And.intro k2' <| hw) ct51 ?_
      exact AWP.ret (Fin trivial [] [0])
    · have h2 := fine_1 b 0 he
      rw [rd_1 _ _ he]
      repeat refine St (And.intro (And.intro @gentry.eq_1 <| @gentry.eq_2) <| And.intro h1 <| And.intro h2 <| k2') ct51 ?_
      exact AWP.ret (Fin trivial [] [0])

theorem taka_r (b : List UInt8) (h : b.length ≤ 549755812000) : F79 [.by b, .int .i64 32] = some ([.by (spA b 32)], .tup [.own 0, .t (.by (spB b 32)), .t (.int .i64 (spE b 32))]) := take_c 32 (by omega)

def G52 : GFun
  | [.bx (.t (.st [.by b, .int .i64 e]))], [.ptr 0 0 []] => if b.length ≤ 549755812000 then (let R := rd tH zH ⟨b, e⟩; some ([rB R.2], .t (.ba 32 R.1.1))) else none
  | _, _ => none

theorem ct52 : CT [(31, ⟨[true, false], G31⟩), (79, ⟨[false, false], treeG F79⟩)] [0, 2, 3, 4, 5, 18] [] := ⟨(.cons g31 (.cons c79.g (.nil _)))⟩

theorem zH_1 : zH.1 = zby 32 := rfl

theorem g52 : GCon Try.prog 52 G52 := by
  refine gconc E_ok (rs := [.cell 2 43]) Try.func52 rfl Try.ntmps52 (by kernel_rfl) rfl (by decide) G52 (np := 1) ?_ ?_
  · intro HB xs h; unfold G52; split <;> first | rfl | (simp at h; done)
  intro HB xs H r hG hwf hex
  unfold G52 at hG
  split at hG <;> try (cases hG; done)
  rename_i b e
  split at hG
  case isFalse => cases hG
  rename_i hc
  have hb := hc
  cases hG
  have h1 := taka_r b hb
  have htH : tH b = (hOf (spA b 32), spB b 32, spE b 32) := rfl
  by_cases he : e = 0
  · subst he
    have h2 := fine_0 b (spE b 32)
    by_cases hx : spE b 32 = 0
    · rw [rd_3 _ _ (by rw [htH]; exact hx), htH]
      obtain ⟨q1, q2, q3⟩ := sp_ok hx
      have hl : (spA b 32).length = 32 := by omega
      have ho : (hOf (spA b 32)).1 = spA b 32 := by unfold hOf; rw [dif_pos hl]
      have ht : (spA b 32).take 32 = spA b 32 := List.take_of_length_le (by omega)
      dsimp only
      rw [ho]
      rw [hx] at h1 h2
      generalize spA b 32 = x at *
      generalize spB b 32 = y at *
      repeat refine St (And.intro (And.intro @gentry.eq_1 <| @gentry.eq_2) <| And.intro h1 <| And.intro h2 <| And.intro hl <| ht) ct52 ?_
      exact AWP.ret (Fin trivial [] [0])
    · rw [rd_2 _ _ (by rw [htH]; exact hx), htH]
      have h3 : decide (spE b 32 = 0) = false := by simpa using hx
      rw [h3] at h2
      generalize spA b 32 = x at *
      generalize spB b 32 = y at *
      generalize spE b 32 = z at *
      repeat refine St (And.intro (And.intro @gentry.eq_1 <| @gentry.eq_2) <| And.intro h1 <| h2) ct52 ?_
      exact AWP.ret (Fin @zH_1 [] [0])
  · have h2 := fine_1 b (spE b 32) he
    rw [rd_1 _ _ he]
    generalize spA b 32 = x at *
    generalize spB b 32 = y at *
    generalize spE b 32 = z at *
    repeat refine St (And.intro (And.intro @gentry.eq_1 <| @gentry.eq_2) <| And.intro h1 <| h2) ct52 ?_
    exact AWP.ret (Fin @zH_1 [] [0])

theorem n32_r (s : RSt) (h : s.b.length ≤ 549755812000) : G50 [rB s] [.ptr 0 0 []] = some ([rB (rdX true t32 0 s).2], .t (.int .u32 ((rdX true t32 0 s).1.toNat : Int))) := by
  simp only [G50]; exact if_pos h
theorem n64_r (s : RSt) (h : s.b.length ≤ 549755812000) : G53 [rB s] [.ptr 0 0 []] = some ([rB (rdX true t64 0 s).2], .t (.int .u64 ((rdX true t64 0 s).1.toNat : Int))) := by
  simp only [G53]; exact if_pos h
theorem hash_r (s : RSt) (h : s.b.length ≤ 549755812000) : G52 [rB s] [.ptr 0 0 []] = some ([rB (rdX true tH zH s).2], .t (.ba 32 (rdX true tH zH s).1.1)) := by
  simp only [G52]; exact if_pos h
theorem script_r (s : RSt) (h : s.b.length ≤ 549755812000) : G54 [rB s] [.ptr 0 0 []] = some ([rB (rdX true tScr [] s).2], .t (.by (rdX true tScr [] s).1)) := by
  simp only [G54]; exact if_pos h
theorem wit_r (s : RSt) (h : s.b.length ≤ 549755812000) : G55 [rB s] [.ptr 0 0 []] = some ([rB (rdWit true s).2], .t (.sq 1 ((rdWit true s).1.map .by))) := by
  simp only [G55]; exact if_pos h
theorem count_r (s : RSt) (h : s.b.length ≤ 549755812000) : G51 [rB s] [.ptr 0 0 [], .t (.int .i64 20)] = some ([rB (rdCnt true 20 s).2], .t (.int .i64 ((rdCnt true 20 s).1 : Int))) := by
  simp only [G51]; exact if_pos h

end Go.Fw

end

section
/- tx: a transaction, taken. -/
namespace Go.Fw
open Go Go.Proofs
set_option linter.unusedVariables false
set_option linter.unusedSimpArgs false

noncomputable def G30 : GFun
  | [.bx (.t (.st [.by b, .int .i64 e]))], [.ptr 0 0 []] => if b.length ≤ 549755800000 then (let R := rdTx true ⟨b, e⟩; some ([rB R.2], .t (txT R.1))) else none
  | _, _ => none

theorem ct30 : CT [(50, ⟨[true], G50⟩), (51, ⟨[true, false], G51⟩), (52, ⟨[true], G52⟩), (53, ⟨[true], G53⟩), (54, ⟨[true], G54⟩), (55, ⟨[true], G55⟩)] [0, 2, 3, 4, 5, 6, 11, 12, 13, 31, 32, 33, 52, 53, 54] [(18, [⟨0, [3], [], []⟩, ⟨0, [56], [], [2]⟩, ⟨0, [6], [], []⟩, ⟨0, [0], [], []⟩, ⟨2, [59], [], [2]⟩, ⟨1, [57, 58], [4], []⟩, ⟨0, [61], [4, 5], []⟩, ⟨2, [60, 62], [4, 5], [2]⟩])] := ⟨(.cons g50 (.cons g51 (.cons g52 (.cons g53 (.cons g54 (.cons g55 (.nil _)))))))⟩

set_option maxHeartbeats 4000000 in
theorem g30 : GCon Try.prog 30 G30 := by
  refine gconc E_ok (rs := [.cell 2 28]) Try.func30 rfl Try.ntmps30 (by kernel_rfl) rfl (by decide) G30 (np := 1) ?_ ?_
  · intro HB xs h; unfold G30; split <;> first | rfl | (simp at h; done)
  intro HB xs H r hG hwf hex
  unfold G30 at hG
  split at hG <;> try (cases hG; done)
  rename_i b e
  split at hG
  case isFalse => cases hG
  rename_i hc
  have hb := hc
  cases hG
  have l1 := rdX_len (P := true) (d := 0) (s := ⟨b, e⟩) t32_len
  obtain ⟨v, s1, e1⟩ : ∃ v s1, rdX true t32 0 ⟨b, e⟩ = (v, s1) := ⟨_, _, rfl⟩
  rw [e1] at l1
  replace l1 : s1.b.length ≤ 549755800000 := Nat.le_trans l1 hb
  have l2 := cnt_len (P := true) (m := 20) (s := s1)
  have hn := cnt_most true 20 s1
  obtain ⟨n, s2, e2⟩ : ∃ v s1', rdCnt true 20 s1 = (v, s1') := ⟨_, _, rfl⟩
  rw [e2] at l2 hn
  replace l2 : s2.b.length ≤ 549755800000 := Nat.le_trans l2 l1
  dsimp only at hn
  have hlen : ∀ {α : Type} (f : RSt → α × RSt) (hf : ∀ s, (f s).2.b.length ≤ s.b.length) (s : RSt), s.b.length ≤ 549755800000 → ∀ i, (rdN f i s).2.b.length ≤ 549755800000 := fun f hf s hs i => by
    induction i with
    | zero => exact hs
    | succ i ih => rw [rdN_snoc]; exact Nat.le_trans (hf _) ih
  have hfin : ∀ s, (rdIn true s).2.b.length ≤ s.b.length := fun s => Nat.le_trans (rdX_len t32_len) (Nat.le_trans (rdX_len t32_len) (rdX_len tH_len))
  have hfout : ∀ s, (rdOut true s).2.b.length ≤ s.b.length := fun s => Nat.le_trans (rdX_len tScr_len) (rdX_len t64_len)
  have hfwit : ∀ s, (rdWit true s).2.b.length ≤ s.b.length := fun s => rdX_len tWit_len
  have lis := hlen (rdIn true) hfin s2 l2
  obtain ⟨is, s3, e3⟩ : ∃ is s3, rdN (rdIn true) n s2 = (is, s3) := ⟨_, _, rfl⟩
  have l3 : s3.b.length ≤ 549755800000 := by have := lis n; rw [e3] at this; exact this
  have l4 := cnt_len (P := true) (m := 20) (s := s3)
  have hm := cnt_most true 20 s3
  obtain ⟨m, s4, e4⟩ : ∃ v s1', rdCnt true 20 s3 = (v, s1') := ⟨_, _, rfl⟩
  rw [e4] at l4 hm
  replace l4 : s4.b.length ≤ 549755800000 := Nat.le_trans l4 l3
  dsimp only at hm
  have los := hlen (rdOut true) hfout s4 l4
  obtain ⟨os, s5, e5⟩ : ∃ is s3, rdN (rdOut true) m s4 = (is, s3) := ⟨_, _, rfl⟩
  have l5 : s5.b.length ≤ 549755800000 := by have := los m; rw [e5] at this; exact this
  have l6 := rdX_len (P := true) (d := 0) (s := s5) t32_len
  obtain ⟨k, s6, e6⟩ : ∃ v s1, rdX true t32 0 s5 = (v, s1) := ⟨_, _, rfl⟩
  rw [e6] at l6
  replace l6 : s6.b.length ≤ 549755800000 := Nat.le_trans l6 l5
  have lws := hlen (rdWit true) hfwit s6 l6
  have hil : is.length = n := by have := rdN_len (rdIn true) n s2; rw [e3] at this; exact this
  have hol : os.length = m := by have := rdN_len (rdOut true) m s4; rw [e5] at this; exact this
  have hall : rdTx true ⟨b, e⟩ = (⟨v, wits is (rdN (rdWit true) is.length s6).1, os, k⟩, (rdN (rdWit true) is.length s6).2) := by
    unfold rdTx; simp only [e1, e2, e3, e4, e5, e6]
  rw [hall]
  have q1 := n32_r ⟨b, e⟩ (Nat.le_trans hb (by omega))
  rw [e1] at q1
  have q2 := count_r s1 (by omega)
  rw [e2] at q2
  dsimp only at q1 q2
  repeat refine St (And.intro (And.intro @gentry.eq_1 <| @gentry.eq_2) <| And.intro q1 <| q2) ct30 ?_
  refine AWP.weak (Weak.ownBx (v' := _) 2 [1] 1 (.sq 35 []) rfl (by simp only [W, eqq, ↓reduceIte, Nat.reduceEqDiff, Nat.reduceLT, Nat.reduceLeDiff, Nat.reduceAdd, Nat.reduceMul, Nat.reduceSub, Nat.reduceBEq, Int.reduceLE, Int.reduceLT, Int.reduceNeg, Int.reduceToNat, Int.reduceEq, Int.reduceBEq, Int.reduceBNe, Nat.reduceBNe, bne_self_eq_false, reduceCtorEq, gt_iff_lt, ge_iff_le]) (by simp only [W, eqq, ↓reduceIte, Nat.reduceEqDiff, Nat.reduceLT, Nat.reduceLeDiff, Nat.reduceAdd, Nat.reduceMul, Nat.reduceSub, Nat.reduceBEq, Int.reduceLE, Int.reduceLT, Int.reduceNeg, Int.reduceToNat, Int.reduceEq, Int.reduceBEq, Int.reduceBNe, Nat.reduceBNe, bne_self_eq_false, reduceCtorEq, gt_iff_lt, ge_iff_le]) (by simp only [W, eqq, ↓reduceIte, Nat.reduceEqDiff, Nat.reduceLT, Nat.reduceLeDiff, Nat.reduceAdd, Nat.reduceMul, Nat.reduceSub, Nat.reduceBEq, Int.reduceLE, Int.reduceLT, Int.reduceNeg, Int.reduceToNat, Int.reduceEq, Int.reduceBEq, Int.reduceBNe, Nat.reduceBNe, bne_self_eq_false, reduceCtorEq, gt_iff_lt, ge_iff_le]; rfl) (.inr ⟨_, by decide, rfl⟩)) ?_
  refine AWP.loop (G := { i : Nat // i ≤ n }) (fun i => ⟨[(0, .ptr 0 0 []), (2, .ptr 1 0 []), (3, .ptr 2 0 []), (11, .t (.int .i64 (n : Int))), (12, .t (.int .i64 (i.1 : Int)))], [rB (rdN (rdIn true) i.1 s2).2, .bx (.t (.st [.int .u32 0, .nil, .nil, .int .u32 0])), .bx (.st [.t (.int .u32 (v.toNat : Int)), .own 3, .t .nil, .t (.int .u32 0)]), .sq 35 ((rdN (rdIn true) i.1 s2).1.map inT)]⟩) (fun i => n - i.1) ⟨0, by omega⟩ (Wt (And.intro (And.intro @rdN.eq_1 <| @rdN.eq_2) <| @List.map_nil.{0, 0}) [0, 2, 3, 11, 12] [0, 1, 2, 3]) ?_
  intro ⟨i, hi⟩
  dsimp only
  have hsn := rdN_snoc (rdIn true) i s2
  have hln := rdN_len (rdIn true) i s2
  have hli := lis i
  have h3i : i = n → rdN (rdIn true) i s2 = (is, s3) := fun h => h ▸ e3
  generalize rdN (rdIn true) i s2 = R at *
  obtain ⟨acc, s⟩ := R
  dsimp only at hsn hln hli h3i ⊢
  by_cases hlt : (i : Int) < (n : Int)
  · have p1 := hash_r s (by omega)
    have l1' := rdX_len (P := true) (d := zH) (s := s) tH_len
    have hf : rdIn true s = (⟨(rdX true tH zH s).1, (rdX true t32 0 (rdX true tH zH s).2).1, (rdX true t32 0 (rdX true t32 0 (rdX true tH zH s).2).2).1, []⟩, (rdX true t32 0 (rdX true t32 0 (rdX true tH zH s).2).2).2) := rfl
    obtain ⟨h, t1, r1⟩ : ∃ v s1, rdX true tH zH s = (v, s1) := ⟨_, _, rfl⟩
    rw [r1] at p1 l1' hf
    dsimp only at p1 l1' hf
    have p2 := n32_r t1 (by omega)
    have l2' := rdX_len (P := true) (d := 0) (s := t1) t32_len
    obtain ⟨j, t2, r2⟩ : ∃ v s1, rdX true t32 0 t1 = (v, s1) := ⟨_, _, rfl⟩
    rw [r2] at p2 l2' hf
    dsimp only at p2 l2' hf
    have p3 := n32_r t2 (by omega)
    obtain ⟨q, t3, r3⟩ : ∃ v s1, rdX true t32 0 t2 = (v, s1) := ⟨_, _, rfl⟩
    rw [r3] at p3 hf
    dsimp only at p3 hf
    rw [hf] at hsn
    dsimp only at hsn
    have h32 := h.2
    iterate 9 (try refine St (And.intro hlt <| And.intro p1 <| And.intro p2 <| And.intro p3 <| h32) ct30 ?_)
    refine AWP.weak (Wn 4 [2] 34 (.sq 1 [])) ?_
    have hin : inT ⟨h, j, q, []⟩ = .st [.st [.ba 32 h.1, .int .u32 (j.toNat : Int)], .int .u32 (q.toNat : Int), .sq 1 []] := rfl
    have hmm : (acc ++ [(⟨h, j, q, []⟩ : TIn)]).map inT = acc.map inT ++ [.st [.st [.ba 32 h.1, .int .u32 (j.toNat : Int)], .int .u32 (q.toNat : Int), .sq 1 []]] := by rw [List.map_append, List.map_cons, List.map_nil, hin]
    have hal : (acc.map inT).length ≤ 1000 := by rw [List.length_map]; omega
    repeat refine St (And.intro p3 <| And.intro h32 <| hal) ct30 ?_
    exact ⟨⟨i + 1, by omega⟩, (Wt (And.intro hsn <| hmm) [0, 2, 3, 11, 12] [0, 1, 2, 6]), by simp only; omega⟩
  obtain rfl : i = n := by omega
  have h3e := h3i rfl
  cases h3e
  have q4 := count_r s3 (by omega)
  rw [e4] at q4
  dsimp only at q4
  repeat refine St (And.intro hlt <| q4) ct30 ?_
  refine AWP.weak (Weak.ownBx (v' := _) 2 [2] 2 (.sq 2 []) rfl (by simp only [W, eqq, ↓reduceIte, Nat.reduceEqDiff, Nat.reduceLT, Nat.reduceLeDiff, Nat.reduceAdd, Nat.reduceMul, Nat.reduceSub, Nat.reduceBEq, Int.reduceLE, Int.reduceLT, Int.reduceNeg, Int.reduceToNat, Int.reduceEq, Int.reduceBEq, Int.reduceBNe, Nat.reduceBNe, bne_self_eq_false, reduceCtorEq, gt_iff_lt, ge_iff_le]) (by simp only [W, eqq, ↓reduceIte, Nat.reduceEqDiff, Nat.reduceLT, Nat.reduceLeDiff, Nat.reduceAdd, Nat.reduceMul, Nat.reduceSub, Nat.reduceBEq, Int.reduceLE, Int.reduceLT, Int.reduceNeg, Int.reduceToNat, Int.reduceEq, Int.reduceBEq, Int.reduceBNe, Nat.reduceBNe, bne_self_eq_false, reduceCtorEq, gt_iff_lt, ge_iff_le]) (by simp only [W, eqq, ↓reduceIte, Nat.reduceEqDiff, Nat.reduceLT, Nat.reduceLeDiff, Nat.reduceAdd, Nat.reduceMul, Nat.reduceSub, Nat.reduceBEq, Int.reduceLE, Int.reduceLT, Int.reduceNeg, Int.reduceToNat, Int.reduceEq, Int.reduceBEq, Int.reduceBNe, Nat.reduceBNe, bne_self_eq_false, reduceCtorEq, gt_iff_lt, ge_iff_le]; rfl) (.inr ⟨_, by decide, rfl⟩)) ?_
  refine AWP.loop (G := { i : Nat // i ≤ m }) (fun i => ⟨[(0, .ptr 0 0 []), (2, .ptr 1 0 []), (3, .ptr 2 0 []), (31, .t (.int .i64 (m : Int))), (32, .t (.int .i64 (i.1 : Int)))], [rB (rdN (rdOut true) i.1 s4).2, .bx (.t (.st [.int .u32 0, .nil, .nil, .int .u32 0])), .bx (.st [.t (.int .u32 (v.toNat : Int)), .own 3, .own 4, .t (.int .u32 0)]), .sq 35 (is.map inT), .sq 2 ((rdN (rdOut true) i.1 s4).1.map outT)]⟩) (fun i => m - i.1) ⟨0, by omega⟩ (Wt (And.intro (And.intro @rdN.eq_1 <| @rdN.eq_2) <| @List.map_nil.{0, 0}) [0, 2, 3, 31, 32] [0, 1, 2, 3, 4]) ?_
  intro ⟨i, hi⟩
  dsimp only
  have hsn := rdN_snoc (rdOut true) i s4
  have hln := rdN_len (rdOut true) i s4
  have hli := los i
  have h5i : i = m → rdN (rdOut true) i s4 = (os, s5) := fun h => h ▸ e5
  generalize rdN (rdOut true) i s4 = R at *
  obtain ⟨acc, s⟩ := R
  dsimp only at hsn hln hli h5i ⊢
  by_cases hlt : (i : Int) < (m : Int)
  · have p1 := n64_r s (by omega)
    have l1' := rdX_len (P := true) (d := 0) (s := s) t64_len
    have hf : rdOut true s = (⟨(rdX true t64 0 s).1, (rdX true tScr [] (rdX true t64 0 s).2).1⟩, (rdX true tScr [] (rdX true t64 0 s).2).2) := rfl
    obtain ⟨h, t1, r1⟩ : ∃ v s1, rdX true t64 0 s = (v, s1) := ⟨_, _, rfl⟩
    rw [r1] at p1 l1' hf
    dsimp only at p1 l1' hf
    have p2 := script_r t1 (by omega)
    obtain ⟨q, t3, r3⟩ : ∃ v s1, rdX true tScr [] t1 = (v, s1) := ⟨_, _, rfl⟩
    rw [r3] at p2 hf
    dsimp only at p2 hf
    rw [hf] at hsn
    dsimp only at hsn
    have hmm : (acc ++ [(⟨h, q⟩ : TOut)]).map outT = acc.map outT ++ [.st [.int .u64 (h.toNat : Int), .by q]] := by rw [List.map_append]; rfl
    have hal : (acc.map outT).length ≤ 1000 := by rw [List.length_map]; omega
    repeat refine St (And.intro hlt <| And.intro p1 <| And.intro p2 <| hal) ct30 ?_
    exact ⟨⟨i + 1, by omega⟩, (Wt (And.intro hsn <| hmm) [0, 2, 3, 31, 32] [0, 1, 2, 3, 7]), by simp only; omega⟩
  obtain rfl : i = m := by omega
  have h5e := h5i rfl
  cases h5e
  have q6 := n32_r s5 (by omega)
  rw [e6] at q6
  dsimp only at q6
  have his : is.length ≤ 1000 := by omega
  repeat refine St (And.intro hlt <| q6) ct30 ?_
  refine AWP.loop (G := { i : Nat // i ≤ is.length }) (fun i => ⟨[(0, .ptr 0 0 []), (2, .ptr 1 0 []), (3, .ptr 2 0 []), (52, .t (.int .i64 (is.length : Int))), (53, .t (.int .i64 (i.1 : Int)))], [rB (rdN (rdWit true) i.1 s6).2, .bx (.t (.st [.int .u32 0, .nil, .nil, .int .u32 0])), .bx (.st [.t (.int .u32 (v.toNat : Int)), .own 3, .own 4, .t (.int .u32 (k.toNat : Int))]), .sq 35 ((wits is (rdN (rdWit true) i.1 s6).1).map inT), .sq 2 (os.map outT)]⟩) (fun i => is.length - i.1) ⟨0, by omega⟩ (Wt (And.intro (And.intro @rdN.eq_1 <| @rdN.eq_2) <| @wits_nil) [0, 2, 3, 52, 53] [0, 1, 2, 3, 4]) ?_
  intro ⟨i, hi⟩
  dsimp only
  have hsn := rdN_snoc (rdWit true) i s6
  have hln := rdN_len (rdWit true) i s6
  have hli := lws i
  by_cases hlt : (i : Int) < (is.length : Int)
  · generalize rdN (rdWit true) i s6 = R at *
    obtain ⟨acc, s⟩ := R
    dsimp only at hsn hln hli ⊢
    have hlt' : i < is.length := by omega
    have p1 := wit_r s (by omega)
    obtain ⟨w, t1, r1⟩ : ∃ v s1, rdWit true s = (v, s1) := ⟨_, _, rfl⟩
    rw [r1] at p1 hsn
    dsimp only at p1 hsn
    obtain ⟨hget, hset⟩ := wits_set is acc w i hln hlt'
    generalize is.getD i dIn = x at hget hset
    have hget' : ((wits is acc).map inT).getD i default = T.st [.st [.ba 32 x.prev.1, .int .u32 (x.idx.toNat : Int)], .int .u32 (x.seq.toNat : Int), .sq 1 (x.wit.map .by)] := hget
    have hset' : ((wits is acc).map inT).set i (T.st [.st [.ba 32 x.prev.1, .int .u32 (x.idx.toNat : Int)], .int .u32 (x.seq.toNat : Int), .sq 1 (w.map .by)]) = (wits is (acc ++ [w])).map inT := hset
    have hwl : i < (wits is acc).length := by rw [wits_len]; exact hlt'
    have h32 := x.prev.2
    repeat refine St (And.intro hlt <| And.intro p1 <| And.intro hwl <| And.intro hget' <| And.intro hset' <| h32) ct30 ?_
    exact ⟨⟨i + 1, by omega⟩, (Wt hsn [0, 2, 3, 52, 53] [0, 1, 2, 3, 4]), by simp only; omega⟩
  obtain rfl : i = is.length := by omega
  repeat refine St hlt ct30 ?_
  exact AWP.ret (Fin @txT.eq_def [3, 4] [0])

end Go.Fw

end

section
/- tx: taking, decoding. -/
namespace Go.Fw
open Go Go.Proofs
set_option linter.unusedVariables false
set_option linter.unusedSimpArgs false

theorem tx_r (s : RSt) (h : s.b.length ≤ 549755800000) : G30 [rB s] [.ptr 0 0 []] = some ([rB (rdTx true s).2], .t (txT (rdTx true s).1)) := by
  simp only [G30]; exact if_pos h

/-- A transaction, what is left, the error. -/
def txR : Res TTx → List Blk × AV
  | .ok t r => ([], .tup [.t (txT t), .t (.by r), .t (.int .i64 0)])
  | .err e => ([], .tup [.t (txT dTx), .t (.by []), .t (.int .i64 e)])
noncomputable def F10 : Fun
  | [.by b] => if b.length ≤ 549755800000 then some (txR (takTx b)) else none
  | _ => none

theorem ct10 : CT [(30, ⟨[true], G30⟩), (31, ⟨[true, false], G31⟩)] [0, 2, 3, 4, 5, 6, 20, 27] [(6, [⟨1, [], [], []⟩, ⟨0, [5], [], []⟩, ⟨0, [29], [], []⟩, ⟨0, [30], [], []⟩, ⟨0, [31], [], [1]⟩, ⟨2, [2, 28], [0], [1]⟩, ⟨0, [], [0, 5], []⟩, ⟨0, [32], [0, 5], []⟩]), (7, [⟨0, [6], [], [1, 2]⟩, ⟨0, [5], [], []⟩, ⟨0, [34], [], []⟩, ⟨0, [35], [], []⟩, ⟨0, [36], [], [1, 2]⟩, ⟨2, [37], [], [1, 2]⟩, ⟨2, [2, 33], [5], [1, 2]⟩, ⟨0, [38], [5, 6], []⟩, ⟨0, [], [5, 6], []⟩])] := ⟨(.cons g30 (.cons g31 (.nil _)))⟩

theorem rdTx_len {P : Bool} (s : RSt) : (rdTx P s).2.b.length ≤ s.b.length := by
  have hN : ∀ {α : Type} (f : RSt → α × RSt) (hf : ∀ s, (f s).2.b.length ≤ s.b.length) (s : RSt), ∀ i, (rdN f i s).2.b.length ≤ s.b.length := fun f hf s i => by
    induction i with
    | zero => exact Nat.le_refl _
    | succ i ih => rw [rdN_snoc]; exact Nat.le_trans (hf _) ih
  have hfin : ∀ s, (rdIn P s).2.b.length ≤ s.b.length := fun s => Nat.le_trans (rdX_len t32_len) (Nat.le_trans (rdX_len t32_len) (rdX_len tH_len))
  have hfout : ∀ s, (rdOut P s).2.b.length ≤ s.b.length := fun s => Nat.le_trans (rdX_len tScr_len) (rdX_len t64_len)
  have hfwit : ∀ s, (rdWit P s).2.b.length ≤ s.b.length := fun s => rdX_len tWit_len
  exact Nat.le_trans (hN _ hfwit _ _) (Nat.le_trans (rdX_len t32_len) (Nat.le_trans (hN _ hfout _ _) (Nat.le_trans cnt_len (Nat.le_trans (hN _ hfin _ _) (Nat.le_trans cnt_len (rdX_len t32_len))))))

theorem dTx_T : txT dTx = .st [.int .u32 0, .sq 35 [], .sq 2 [], .int .u32 0] := rfl

set_option maxHeartbeats 1000000 in
theorem c10 : ACon Try.prog 10 F10 := by
  refine aconc E_ok (rs := [.cell 2 28, .tmp 3 22, .tmp 4 29]) Try.func10 rfl Try.ntmps10 (by kernel_rfl) rfl (by decide) F10 (np := 1) ?_ ?_
  · intro ts h; unfold F10; split <;> first | rfl | (simp at h; done)
  intro ts H r hF hwf
  unfold F10 at hF
  split at hF <;> try (cases hF; done)
  rename_i b
  split at hF
  case isFalse => cases hF
  rename_i hb
  have hF' : txR (takTx b) = (H, r) := Option.some.inj hF
  clear hF
  have h1 := tx_r ⟨b, 0⟩ hb
  have hl := rdTx_len (P := true) ⟨b, 0⟩
  have hgo := (goodTx true).ok b
  have hge := (goodTx true).err b
  cases hp : pTx b with
  | ok t x =>
    rw [hgo t x hp] at h1 hl
    dsimp only at h1 hl
    have hw : IntKind.i64.wrap ((b.length : Int) - (x.length : Int)) = ((b.length - x.length : Nat) : Int) := by rw [wrap_i64 (by omega) (by omega)]; omega
    by_cases h2 : b.length - x.length ≤ 12000
    · have h3 : ¬ 12000 < ((b.length - x.length : Nat) : Int) := by omega
      have e : takTx b = .ok t x := by unfold takTx; rw [hp]; exact if_pos h2
      rw [e] at hF'
      cases hF'
      rw [txT_st] at h1 ⊢
      have hrl : x.length ≤ 549755800000 := by omega
      repeat refine St (And.intro h1 <| And.intro hw <| And.intro h3 <| hrl) ct10 ?_
      exact AWP.ret (Fin trivial [3] [])
    · have h3 : 12000 < ((b.length - x.length : Nat) : Int) := by omega
      have e : takTx b = .err 4 := by unfold takTx; rw [hp]; exact if_neg h2
      rw [e] at hF'
      cases hF'
      rw [txT_st] at h1
      have h4 := fine_0 x 4
      rw [show decide ((4 : Int) = 0) = false from rfl] at h4
      repeat refine St (And.intro h1 <| And.intro hw <| And.intro h3 <| h4) ct10 ?_
      exact AWP.ret (Fin @dTx_T [] [])
  | err e =>
    obtain ⟨he, h2⟩ := hge e hp
    have e : takTx b = .err e := by unfold takTx; rw [hp]
    rw [e] at hF'
    cases hF'
    generalize rdTx true ⟨b, 0⟩ = R at *
    obtain ⟨t, ⟨x, e'⟩⟩ := R
    dsimp only at h1 hl h2
    subst h2
    rw [txT_st] at h1
    have hw : IntKind.i64.wrap ((b.length : Int) - (x.length : Int)) = ((b.length - x.length : Nat) : Int) := by rw [wrap_i64 (by omega) (by omega)]; omega
    have h5 : (e' != 0) = true := by simpa using he
    by_cases h2 : b.length - x.length ≤ 12000
    · have h3 : ¬ 12000 < ((b.length - x.length : Nat) : Int) := by omega
      repeat refine St (And.intro h1 <| And.intro hw <| And.intro h3 <| h5) ct10 ?_
      exact AWP.ret (Fin @dTx_T [] [])
    · have h3 : 12000 < ((b.length - x.length : Nat) : Int) := by omega
      have h4 := fine_1 x 4 he
      repeat refine St (And.intro h1 <| And.intro hw <| And.intro h3 <| And.intro h4 <| h5) ct10 ?_
      exact AWP.ret (Fin @dTx_T [] [])

theorem take_t {b : List UInt8} (h : b.length ≤ 549755800000) : F10 [.by b] = some (txR (takTx b)) := if_pos h

def decR : Res TTx → List Blk × AV
  | .ok t r => ([], .tup [.t (txT t), .t (.int .i64 0)])
  | .err e => ([], .tup [.t (txT dTx), .t (.int .i64 e)])
noncomputable def F12 : Fun
  | [.by b] => if b.length ≤ 549755800000 then some (decR (decTx b)) else none
  | _ => none

theorem ct12 : CT [(10, ⟨[false], treeG F10⟩)] [0, 2, 3, 4, 5, 6, 13, 18] [] := ⟨(.cons c10.g (.nil _))⟩

theorem c12 : ACon Try.prog 12 F12 := by
  refine aconc E_ok (rs := [.cell 2 28, .tmp 3 29]) Try.func12 rfl Try.ntmps12 (by kernel_rfl) rfl (by decide) F12 (np := 1) ?_ ?_
  · intro ts h; unfold F12; split <;> first | rfl | (simp at h; done)
  intro ts H r hF hwf
  unfold F12 at hF
  split at hF <;> try (cases hF; done)
  rename_i b
  split at hF
  case isFalse => cases hF
  rename_i hb
  have hF' : decR (decTx b) = (H, r) := Option.some.inj hF
  clear hF
  have h1 := take_t hb
  unfold decTx at hF'
  have herr := @takTx_err b
  cases hp : takTx b with
  | ok t x =>
    rw [hp] at h1 hF'
    dsimp only at hF'
    have h1' : F10 [.by b] = some ([], .tup [.t (txT t), .t (.by x), .t (.int .i64 0)]) := h1
    rw [txT_st] at h1'
    cases x with
    | nil =>
      rw [if_pos rfl] at hF'
      have : decR (.ok t []) = ([], .tup [.t (txT t), .t (.int .i64 0)]) := rfl
      rw [this, txT_st] at hF'
      cases hF'
      repeat refine St h1' ct12 ?_
      exact AWP.ret (Fin trivial [] [])
    | cons y l =>
      rw [if_neg (by simp)] at hF'
      cases hF'
      have hl : 0 < ((y :: l).length : Int) := by rw [List.length_cons]; omega
      generalize y :: l = x at *
      repeat refine St (And.intro h1' <| hl) ct12 ?_
      exact AWP.ret (Fin @dTx_T [] [])
  | err e =>
    have he := herr hp
    rw [hp] at h1 hF'
    cases hF'
    have h1' : F10 [.by b] = some ([], .tup [.t (txT dTx), .t (.by []), .t (.int .i64 e)]) := h1
    rw [dTx_T] at h1'
    have he' : (e != 0) = true := by simpa using he
    repeat refine St (And.intro h1' <| he') ct12 ?_
    exact AWP.ret (Fin @dTx_T [] [])

theorem dec_t {b : List UInt8} (h : b.length ≤ 549755800000) : F12 [.by b] = some (decR (decTx b)) := if_pos h

end Go.Fw

end

section
/- tx's answer: taking, decoding. -/
namespace Go.Fw
open Go Go.Proofs
set_option linter.unusedVariables false
set_option linter.unusedSimpArgs false

noncomputable def F11 : Fun
  | [.by b] => if b.length ≤ 549755800000 then some (txR (takTx b)) else none
  | _ => none

theorem ct11 : CT [(32, ⟨[true, false], G32⟩), (33, ⟨[true, false], G33⟩), (34, ⟨[true], G34⟩), (35, ⟨[true], G35⟩), (36, ⟨[true], G36⟩)] [0, 2, 3, 4, 5, 6, 7, 8, 9, 10, 11, 12, 13, 25, 40, 57, 82, 90] [(19, [⟨0, [6], [], []⟩, ⟨0, [60], [], [2]⟩, ⟨0, [13], [], []⟩, ⟨0, [5], [], []⟩, ⟨2, [63], [], [2]⟩, ⟨1, [61, 62], [4], []⟩, ⟨0, [65], [4, 5], []⟩, ⟨2, [64, 66], [4, 5], [2]⟩]), (23, [⟨1, [], [], []⟩, ⟨0, [5], [], []⟩, ⟨0, [92], [], []⟩, ⟨0, [93], [], []⟩, ⟨0, [94], [], [1]⟩, ⟨2, [2, 91], [0], [1]⟩, ⟨0, [], [0, 5], []⟩, ⟨0, [95], [0, 5], []⟩]), (24, [⟨0, [6], [], [1, 2]⟩, ⟨0, [5], [], []⟩, ⟨0, [97], [], []⟩, ⟨0, [98], [], []⟩, ⟨0, [99], [], [1, 2]⟩, ⟨2, [2, 96], [], [1, 2]⟩, ⟨0, [100], [5], []⟩, ⟨0, [], [5], []⟩])] := ⟨(.cons g32 (.cons g33 (.cons g34 (.cons g35 (.cons g36 (.nil _))))))⟩

set_option maxHeartbeats 4000000 in
theorem c11 : ACon Try.prog 11 F11 := by
  refine aconc E_ok (rs := [.cell 2 28, .tmp 3 22, .tmp 4 29]) Try.func11 rfl Try.ntmps11 (by kernel_rfl) rfl (by decide) F11 (np := 1) ?_ ?_
  · intro ts h; unfold F11; split <;> first | rfl | (simp at h; done)
  intro ts H r hF hwf
  unfold F11 at hF
  split at hF <;> try (cases hF; done)
  rename_i b
  split at hF
  case isFalse => cases hF
  rename_i hb
  have hF' : txR (takTx b) = (H, r) := Option.some.inj hF
  clear hF
  have l1 := rdX_len (P := false) (d := 0) (s := ⟨b, 0⟩) t32_len
  obtain ⟨v, s1, e1⟩ : ∃ v s1, rdX false t32 0 ⟨b, 0⟩ = (v, s1) := ⟨_, _, rfl⟩
  rw [e1] at l1
  replace l1 : s1.b.length ≤ 549755800000 := Nat.le_trans l1 hb
  have l2 := cnt_len (P := false) (m := 20) (s := s1)
  have hn := cnt_most false 20 s1
  obtain ⟨n, s2, e2⟩ : ∃ v s1', rdCnt false 20 s1 = (v, s1') := ⟨_, _, rfl⟩
  rw [e2] at l2 hn
  replace l2 : s2.b.length ≤ 549755800000 := Nat.le_trans l2 l1
  dsimp only at hn
  have hlen : ∀ {α : Type} (f : RSt → α × RSt) (hf : ∀ s, (f s).2.b.length ≤ s.b.length) (s : RSt), s.b.length ≤ 549755800000 → ∀ i, (rdN f i s).2.b.length ≤ 549755800000 := fun f hf s hs i => by
    induction i with
    | zero => exact hs
    | succ i ih => rw [rdN_snoc]; exact Nat.le_trans (hf _) ih
  have hfin : ∀ s, (rdIn false s).2.b.length ≤ s.b.length := fun s => Nat.le_trans (rdX_len t32_len) (Nat.le_trans (rdX_len t32_len) (rdX_len tH_len))
  have hfout : ∀ s, (rdOut false s).2.b.length ≤ s.b.length := fun s => Nat.le_trans (rdX_len tScr_len) (rdX_len t64_len)
  have hfwit : ∀ s, (rdWit false s).2.b.length ≤ s.b.length := fun s => rdX_len tWit_len
  have lis := hlen (rdIn false) hfin s2 l2
  obtain ⟨is, s3, e3⟩ : ∃ is s3, rdN (rdIn false) n s2 = (is, s3) := ⟨_, _, rfl⟩
  have l3 : s3.b.length ≤ 549755800000 := by have := lis n; rw [e3] at this; exact this
  have l4 := cnt_len (P := false) (m := 20) (s := s3)
  have hm := cnt_most false 20 s3
  obtain ⟨m, s4, e4⟩ : ∃ v s1', rdCnt false 20 s3 = (v, s1') := ⟨_, _, rfl⟩
  rw [e4] at l4 hm
  replace l4 : s4.b.length ≤ 549755800000 := Nat.le_trans l4 l3
  dsimp only at hm
  have los := hlen (rdOut false) hfout s4 l4
  obtain ⟨os, s5, e5⟩ : ∃ is s3, rdN (rdOut false) m s4 = (is, s3) := ⟨_, _, rfl⟩
  have l5 : s5.b.length ≤ 549755800000 := by have := los m; rw [e5] at this; exact this
  have l6 := rdX_len (P := false) (d := 0) (s := s5) t32_len
  obtain ⟨k, s6, e6⟩ : ∃ v s1, rdX false t32 0 s5 = (v, s1) := ⟨_, _, rfl⟩
  rw [e6] at l6
  replace l6 : s6.b.length ≤ 549755800000 := Nat.le_trans l6 l5
  have lws := hlen (rdWit false) hfwit s6 l6
  have hil : is.length = n := by have := rdN_len (rdIn false) n s2; rw [e3] at this; exact this
  have hol : os.length = m := by have := rdN_len (rdOut false) m s4; rw [e5] at this; exact this
  have hall : rdTx false ⟨b, 0⟩ = (⟨v, wits is (rdN (rdWit false) is.length s6).1, os, k⟩, (rdN (rdWit false) is.length s6).2) := by
    unfold rdTx; simp only [e1, e2, e3, e4, e5, e6]
  have q1 := rn32 ⟨b, 0⟩ (Nat.le_trans hb (by omega))
  rw [e1] at q1
  have q2 := rcnt_r s1 (by omega)
  rw [e2] at q2
  dsimp only at q1 q2
  repeat refine St (And.intro q1 <| And.intro q2 <| @u32_back) ct11 ?_
  refine AWP.weak (Weak.ownBx (v' := _) 2 [1] 1 (.sq 35 []) rfl (by simp only [W, eqq, ↓reduceIte, Nat.reduceEqDiff, Nat.reduceLT, Nat.reduceLeDiff, Nat.reduceAdd, Nat.reduceMul, Nat.reduceSub, Nat.reduceBEq, Int.reduceLE, Int.reduceLT, Int.reduceNeg, Int.reduceToNat, Int.reduceEq, Int.reduceBEq, Int.reduceBNe, Nat.reduceBNe, bne_self_eq_false, reduceCtorEq, gt_iff_lt, ge_iff_le]) (by simp only [W, eqq, ↓reduceIte, Nat.reduceEqDiff, Nat.reduceLT, Nat.reduceLeDiff, Nat.reduceAdd, Nat.reduceMul, Nat.reduceSub, Nat.reduceBEq, Int.reduceLE, Int.reduceLT, Int.reduceNeg, Int.reduceToNat, Int.reduceEq, Int.reduceBEq, Int.reduceBNe, Nat.reduceBNe, bne_self_eq_false, reduceCtorEq, gt_iff_lt, ge_iff_le]) (by simp only [W, eqq, ↓reduceIte, Nat.reduceEqDiff, Nat.reduceLT, Nat.reduceLeDiff, Nat.reduceAdd, Nat.reduceMul, Nat.reduceSub, Nat.reduceBEq, Int.reduceLE, Int.reduceLT, Int.reduceNeg, Int.reduceToNat, Int.reduceEq, Int.reduceBEq, Int.reduceBNe, Nat.reduceBNe, bne_self_eq_false, reduceCtorEq, gt_iff_lt, ge_iff_le]; rfl) (.inr ⟨_, by decide, rfl⟩)) ?_
  refine AWP.loop (G := { i : Nat // i ≤ n }) (fun i => ⟨[(0, .t (.by b)), (2, .ptr 0 0 []), (5, .ptr 1 0 []), (6, .ptr 2 0 []), (7, .t (.int .i64 (n : Int))), (8, .t (.int .i64 (i.1 : Int)))], [.bx (.t (.st [.int .u32 0, .nil, .nil, .int .u32 0])), rB (rdN (rdIn false) i.1 s2).2, .bx (.st [.t (.int .u32 (v.toNat : Int)), .own 3, .t .nil, .t (.int .u32 0)]), .sq 35 ((rdN (rdIn false) i.1 s2).1.map inT)]⟩) (fun i => n - i.1) ⟨0, by omega⟩ (Wt (And.intro (And.intro @rdN.eq_1 <| @rdN.eq_2) <| @List.map_nil.{0, 0}) [0, 2, 5, 6, 7, 8] [0, 1, 2, 3]) ?_
  intro ⟨i, hi⟩
  dsimp only
  have hsn := rdN_snoc (rdIn false) i s2
  have hln := rdN_len (rdIn false) i s2
  have hli := lis i
  have h3i : i = n → rdN (rdIn false) i s2 = (is, s3) := fun h => h ▸ e3
  generalize rdN (rdIn false) i s2 = R at *
  obtain ⟨acc, s⟩ := R
  dsimp only at hsn hln hli h3i ⊢
  by_cases hlt : (i : Int) < (n : Int)
  · have p1 := rin_r s (by omega)
    obtain ⟨x, t3, r3⟩ : ∃ v s1, rdIn false s = (v, s1) := ⟨_, _, rfl⟩
    rw [r3] at p1 hsn
    dsimp only at p1 hsn
    have hmm : (acc ++ [x]).map inT = acc.map inT ++ [inT x] := by rw [List.map_append]; rfl
    have hal : (acc.map inT).length ≤ 1000 := by rw [List.length_map]; omega
    have hxi : inT x = .st [.st [.ba 32 x.prev.1, .int .u32 (x.idx.toNat : Int)], .int .u32 (x.seq.toNat : Int), .sq 1 (x.wit.map .by)] := rfl
    rw [hxi] at p1 hmm
    repeat refine St (And.intro hlt <| And.intro p1 <| hal) ct11 ?_
    exact ⟨⟨i + 1, by omega⟩, (Wt (And.intro hsn <| hmm) [0, 2, 5, 6, 7, 8] [0, 1, 2, 6]), by simp only; omega⟩
  obtain rfl : i = n := by omega
  have h3e := h3i rfl
  cases h3e
  have q4 := rcnt_r s3 (by omega)
  rw [e4] at q4
  dsimp only at q4
  repeat refine St (And.intro hlt <| q4) ct11 ?_
  refine AWP.weak (Weak.ownBx (v' := _) 2 [2] 2 (.sq 2 []) rfl (by simp only [W, eqq, ↓reduceIte, Nat.reduceEqDiff, Nat.reduceLT, Nat.reduceLeDiff, Nat.reduceAdd, Nat.reduceMul, Nat.reduceSub, Nat.reduceBEq, Int.reduceLE, Int.reduceLT, Int.reduceNeg, Int.reduceToNat, Int.reduceEq, Int.reduceBEq, Int.reduceBNe, Nat.reduceBNe, bne_self_eq_false, reduceCtorEq, gt_iff_lt, ge_iff_le]) (by simp only [W, eqq, ↓reduceIte, Nat.reduceEqDiff, Nat.reduceLT, Nat.reduceLeDiff, Nat.reduceAdd, Nat.reduceMul, Nat.reduceSub, Nat.reduceBEq, Int.reduceLE, Int.reduceLT, Int.reduceNeg, Int.reduceToNat, Int.reduceEq, Int.reduceBEq, Int.reduceBNe, Nat.reduceBNe, bne_self_eq_false, reduceCtorEq, gt_iff_lt, ge_iff_le]) (by simp only [W, eqq, ↓reduceIte, Nat.reduceEqDiff, Nat.reduceLT, Nat.reduceLeDiff, Nat.reduceAdd, Nat.reduceMul, Nat.reduceSub, Nat.reduceBEq, Int.reduceLE, Int.reduceLT, Int.reduceNeg, Int.reduceToNat, Int.reduceEq, Int.reduceBEq, Int.reduceBNe, Nat.reduceBNe, bne_self_eq_false, reduceCtorEq, gt_iff_lt, ge_iff_le]; rfl) (.inr ⟨_, by decide, rfl⟩)) ?_
  refine AWP.loop (G := { j : Nat // j ≤ m }) (fun j => ⟨[(0, .t (.by b)), (2, .ptr 0 0 []), (5, .ptr 1 0 []), (6, .ptr 2 0 []), (7, .t (.int .i64 (i : Int))), (10, .t (.int .i64 (m : Int))), (11, .t (.int .i64 (j.1 : Int)))], [.bx (.t (.st [.int .u32 0, .nil, .nil, .int .u32 0])), rB (rdN (rdOut false) j.1 s4).2, .bx (.st [.t (.int .u32 (v.toNat : Int)), .own 3, .own 4, .t (.int .u32 0)]), .sq 35 (is.map inT), .sq 2 ((rdN (rdOut false) j.1 s4).1.map outT)]⟩) (fun j => m - j.1) ⟨0, by omega⟩ (Wt (And.intro (And.intro @rdN.eq_1 <| @rdN.eq_2) <| @List.map_nil.{0, 0}) [0, 2, 5, 6, 7, 10, 11] [0, 1, 2, 3, 4]) ?_
  intro ⟨j, hj⟩
  dsimp only
  have hsn := rdN_snoc (rdOut false) j s4
  have hln := rdN_len (rdOut false) j s4
  have hli := los j
  have h5i : j = m → rdN (rdOut false) j s4 = (os, s5) := fun h => h ▸ e5
  generalize rdN (rdOut false) j s4 = R at *
  obtain ⟨acc, s⟩ := R
  dsimp only at hsn hln hli h5i ⊢
  by_cases hlt : (j : Int) < (m : Int)
  · have p1 := rout_r s (by omega)
    obtain ⟨x, t3, r3⟩ : ∃ v s1, rdOut false s = (v, s1) := ⟨_, _, rfl⟩
    rw [r3] at p1 hsn
    dsimp only at p1 hsn
    have hmm : (acc ++ [x]).map outT = acc.map outT ++ [outT x] := by rw [List.map_append]; rfl
    have hal : (acc.map outT).length ≤ 1000 := by rw [List.length_map]; omega
    have hxi : outT x = .st [.int .u64 (x.val.toNat : Int), .by x.scr] := rfl
    rw [hxi] at p1 hmm
    repeat refine St (And.intro hlt <| And.intro p1 <| hal) ct11 ?_
    exact ⟨⟨j + 1, by omega⟩, (Wt (And.intro hsn <| hmm) [0, 2, 5, 6, 7, 10, 11] [0, 1, 2, 3, 7]), by simp only; omega⟩
  obtain rfl : j = m := by omega
  have h5e := h5i rfl
  cases h5e
  have q6 := rn32 s5 (by omega)
  rw [e6] at q6
  dsimp only at q6
  have his : is.length ≤ 1000 := by omega
  repeat refine St (And.intro hlt <| And.intro q6 <| @u32_back) ct11 ?_
  refine AWP.loop (G := { i : Nat // i ≤ is.length }) (fun i => ⟨[(0, .t (.by b)), (2, .ptr 0 0 []), (5, .ptr 1 0 []), (6, .ptr 2 0 []), (7, .t (.int .i64 (is.length : Int))), (13, .t (.int .i64 (i.1 : Int)))], [.bx (.t (.st [.int .u32 0, .nil, .nil, .int .u32 0])), rB (rdN (rdWit false) i.1 s6).2, .bx (.st [.t (.int .u32 (v.toNat : Int)), .own 3, .own 4, .t (.int .u32 (k.toNat : Int))]), .sq 35 ((wits is (rdN (rdWit false) i.1 s6).1).map inT), .sq 2 (os.map outT)]⟩) (fun i => is.length - i.1) ⟨0, by omega⟩ (Wt (And.intro (And.intro @rdN.eq_1 <| @rdN.eq_2) <| And.intro @wits_nil <| hil) [0, 2, 5, 6, 7, 13] [0, 1, 2, 3, 4]) ?_
  clear hlt
  intro ⟨i, hi⟩
  dsimp only
  have hsn := rdN_snoc (rdWit false) i s6
  have hln := rdN_len (rdWit false) i s6
  have hli := lws i
  by_cases hlt : (i : Int) < (is.length : Int)
  · generalize rdN (rdWit false) i s6 = R at *
    obtain ⟨acc, s⟩ := R
    dsimp only at hsn hln hli ⊢
    have hlt' : i < is.length := by omega
    have p1 := rwit_r s (by omega)
    obtain ⟨w, t1, r1⟩ : ∃ v s1, rdWit false s = (v, s1) := ⟨_, _, rfl⟩
    rw [r1] at p1 hsn
    dsimp only at p1 hsn
    obtain ⟨hget, hset⟩ := wits_set is acc w i hln hlt'
    generalize is.getD i dIn = x at hget hset
    have hget' : ((wits is acc).map inT).getD i default = T.st [.st [.ba 32 x.prev.1, .int .u32 (x.idx.toNat : Int)], .int .u32 (x.seq.toNat : Int), .sq 1 (x.wit.map .by)] := hget
    have hset' : ((wits is acc).map inT).set i (T.st [.st [.ba 32 x.prev.1, .int .u32 (x.idx.toNat : Int)], .int .u32 (x.seq.toNat : Int), .sq 1 (w.map .by)]) = (wits is (acc ++ [w])).map inT := hset
    have hwl : i < (wits is acc).length := by rw [wits_len]; exact hlt'
    have h32 := x.prev.2
    repeat refine St (And.intro hlt <| And.intro p1 <| And.intro hwl <| And.intro hget' <| And.intro hset' <| h32) ct11 ?_
    exact ⟨⟨i + 1, by omega⟩, (Wt hsn [0, 2, 5, 6, 7, 13] [0, 1, 2, 3, 4]), by simp only; omega⟩
  obtain rfl : i = is.length := by omega
  have l7 := lws is.length
  generalize rdN (rdWit false) is.length s6 = R at *
  obtain ⟨ws, s7⟩ := R
  dsimp only at l7 hall ⊢
  have hgo := (goodTx false).ok b
  have hge := (goodTx false).err b
  rw [hall] at hgo hge
  cases hp : pTx b with
  | ok t x =>
    obtain ⟨rfl, rfl⟩ := Prod.mk.inj (hgo t x hp)
    dsimp only at l7 ⊢
    have hlx : x.length ≤ b.length := by
      have h := rdTx_len (P := false) ⟨b, 0⟩
      rw [hall] at h; exact h
    have hw : IntKind.i64.wrap ((b.length : Int) - (x.length : Int)) = ((b.length - x.length : Nat) : Int) := by rw [wrap_i64 (by omega) (by omega)]; omega
    by_cases h2 : b.length - x.length ≤ 12000
    · have h3 : ¬ 12000 < ((b.length - x.length : Nat) : Int) := by omega
      have e : takTx b = .ok ⟨v, wits is ws, os, k⟩ x := by unfold takTx; rw [hp]; exact if_pos h2
      rw [e] at hF'
      cases hF'
      repeat refine St (And.intro hlt <| And.intro hw <| h3) ct11 ?_
      exact AWP.ret (Fin @txT.eq_def [3, 4] [])
    · have h3 : 12000 < ((b.length - x.length : Nat) : Int) := by omega
      have e : takTx b = .err 4 := by unfold takTx; rw [hp]; exact if_neg h2
      rw [e] at hF'
      cases hF'
      repeat refine St (And.intro hlt <| And.intro hw <| h3) ct11 ?_
      exact AWP.ret (Fin @dTx_T [] [])
  | err e =>
    obtain ⟨he, h2⟩ := hge e hp
    have e : takTx b = .err e := by unfold takTx; rw [hp]
    rw [e] at hF'
    cases hF'
    obtain ⟨x, e'⟩ := s7
    dsimp only at l7 h2 ⊢
    subst h2
    have hlx : x.length ≤ b.length := by
      have h := rdTx_len (P := false) ⟨b, 0⟩
      rw [hall] at h; exact h
    have hw : IntKind.i64.wrap ((b.length : Int) - (x.length : Int)) = ((b.length - x.length : Nat) : Int) := by rw [wrap_i64 (by omega) (by omega)]; omega
    have h5 : (e' != 0) = true := by simpa using he
    have h6 : (e' == 0) = false := by simpa using he
    repeat refine St (And.intro hlt <| And.intro hw <| And.intro h5 <| h6) ct11 ?_
    exact AWP.ret (Fin @dTx_T [] [])

theorem rtake_t {b : List UInt8} (h : b.length ≤ 549755800000) : F11 [.by b] = some (txR (takTx b)) := if_pos h

noncomputable def F13 : Fun
  | [.by b] => if b.length ≤ 549755800000 then some (decR (decTx b)) else none
  | _ => none

theorem ct13 : CT [(11, ⟨[false], treeG F11⟩)] [0, 2, 3, 4, 5, 6, 14, 19] [] := ⟨(.cons c11.g (.nil _))⟩

theorem c13 : ACon Try.prog 13 F13 := by
  refine aconc E_ok (rs := [.cell 2 28, .tmp 3 29]) Try.func13 rfl Try.ntmps13 (by kernel_rfl) rfl (by decide) F13 (np := 1) ?_ ?_
  · intro ts h; unfold F13; split <;> first | rfl | (simp at h; done)
  intro ts H r hF hwf
  unfold F13 at hF
  split at hF <;> try (cases hF; done)
  rename_i b
  split at hF
  case isFalse => cases hF
  rename_i hb
  have hF' : decR (decTx b) = (H, r) := Option.some.inj hF
  clear hF
  have h1 := rtake_t hb
  unfold decTx at hF'
  have herr := @takTx_err b
  cases hp : takTx b with
  | ok t x =>
    rw [hp] at h1 hF'
    dsimp only at hF'
    have h1' : F11 [.by b] = some ([], .tup [.t (txT t), .t (.by x), .t (.int .i64 0)]) := h1
    rw [txT_st] at h1'
    cases x with
    | nil =>
      rw [if_pos rfl] at hF'
      have : decR (.ok t []) = ([], .tup [.t (txT t), .t (.int .i64 0)]) := rfl
      rw [this, txT_st] at hF'
      cases hF'
      repeat refine St h1' ct13 ?_
      exact AWP.ret (Fin trivial [] [])
    | cons y l =>
      rw [if_neg (by simp)] at hF'
      cases hF'
      have hl : 0 < ((y :: l).length : Int) := by rw [List.length_cons]; omega
      generalize y :: l = x at *
      repeat refine St (And.intro h1' <| hl) ct13 ?_
      exact AWP.ret (Fin @dTx_T [] [])
  | err e =>
    have he := herr hp
    rw [hp] at h1 hF'
    cases hF'
    have h1' : F11 [.by b] = some ([], .tup [.t (txT dTx), .t (.by []), .t (.int .i64 e)]) := h1
    rw [dTx_T] at h1'
    have he' : (e != 0) = true := by simpa using he
    repeat refine St (And.intro h1' <| he') ct13 ?_
    exact AWP.ret (Fin @dTx_T [] [])

theorem rdec_t {b : List UInt8} (h : b.length ≤ 549755800000) : F13 [.by b] = some (decR (decTx b)) := if_pos h

end Go.Fw

end

section
/- tx: alike. -/
namespace Go.Fw
open Go Go.Proofs
set_option linter.unusedVariables false
set_option linter.unusedSimpArgs false

def F63 : Fun
  | [.by a, .by b] => some ([], .t (.bool (a == b)))
  | _ => none

theorem ct63 : CT [] [0, 1, 4] [] := ⟨GClOk.nil _⟩

theorem c63 : ACon Try.prog 63 F63 := by
  refine aconc E_ok (rs := [.tmp 4 4]) Try.func63 rfl Try.ntmps63 (by kernel_rfl) rfl (by decide) F63 (np := 2) ?_ ?_
  · intro ts h; unfold F63; split <;> first | rfl | (simp at h; done)
  intro ts H r hF hwf
  unfold F63 at hF
  split at hF <;> try (cases hF; done)
  rename_i a b
  cases hF
  repeat refine St trivial ct63 ?_
  exact AWP.ret (Fin trivial [] [])

noncomputable def F62 : Fun
  | [.sq 1 xs, .sq 1 ys, .fn f] => match inv (List.map T.by) xs, inv (List.map T.by) ys with
    | some l, some m => if f = 63 then some ([], .t (.bool (decide (l = m)))) else none
    | _, _ => none
  | _ => none

theorem ct62 : CT [(63, ⟨[false, false], treeG F63⟩)] [0, 1, 2, 6, 7, 8, 9, 14, 15, 16, 17, 18, 30] [] := ⟨(.cons c63.g (.nil _))⟩

theorem c62 : ACon Try.prog 62 F62 := by
  refine aconc E_ok (rs := [.tmp 6 4]) Try.func62 rfl Try.ntmps62 (by kernel_rfl) rfl (by decide) F62 (np := 3) ?_ ?_
  · intro ts h; unfold F62; split <;> first | rfl | (simp at h; done)
  intro ts H r hF hwf
  unfold F62 at hF
  split at hF <;> try (cases hF; done)
  split at hF <;> try (cases hF; done)
  rename_i l m hl hm
  split at hF
  case isFalse => cases hF
  rename_i hc
  have hf := hc
  cases hF
  obtain rfl := inv_inv hl
  obtain rfl := inv_inv hm
  subst hf
  have hg : l.length ≤ maxLen := wf_rows (hwf (.sq 1 (l.map .by)) (by simp))
  unfold maxLen at hg
  by_cases hlen : l.length = m.length
  case neg =>
    have hb : ((l.length : Int) != (m.length : Int)) = true := by rw [bne_iff_ne]; omega
    have hne : decide (l = m) = false := decide_eq_false fun h => hlen (by rw [h])
    repeat refine St hb ct62 ?_
    exact AWP.ret (Fin hne [] [])
  have hb : ((l.length : Int) != (m.length : Int)) = false := by rw [bne_eq_false_iff_eq]; omega
  repeat refine St hb ct62 ?_
  refine AWP.loop (G := { k : Nat // k ≤ l.length ∧ l.take k = m.take k }) (fun k => ⟨[(1, .t (.sq 1 (m.map .by))), (2, .t (.fn 63)), (15, .t (.sq 1 (l.map .by))), (16, .t (.int .i64 (l.length : Int))), (17, .t (.int .i64 (k.1 : Int)))], []⟩) (fun k => l.length - k.1) ⟨0, by simp⟩ (Wt trivial [1, 2, 15, 16, 17] []) ?_
  intro ⟨k, hk, heq⟩
  dsimp only
  by_cases hlt : (k : Int) < (l.length : Int)
  · have hlt' : k < l.length := by omega
    have hlt2 : k < m.length := by omega
    have hget := map_getD l k hlt'
    have hget2 := map_getD m k hlt2
    have hts := take_eq_succ [] hlt' hlt2 heq
    have hne := getD_ne (l := l) (m := m) [] k
    generalize l.getD k [] = x at *
    generalize m.getD k [] = y at *
    by_cases he : x = y
    · subst he
      have hc : F63 [.by x, .by x] = some ([], .t (.bool true)) := by simp only [F63, beq_self_eq_true]
      repeat refine St (And.intro hlt <| And.intro hlt' <| And.intro hlt2 <| And.intro hget <| And.intro hget2 <| hc) ct62 ?_
      exact ⟨⟨k + 1, by omega, hts rfl⟩, (Wt trivial [1, 2, 15, 16, 17] []), by simp only; omega⟩
    · have hc : F63 [.by x, .by y] = some ([], .t (.bool false)) := by
        have : (x == y) = false := by simpa using he
        simp only [F63, this]
      have hd : decide (l = m) = false := decide_eq_false (hne he)
      repeat refine St (And.intro hlt <| And.intro hlt' <| And.intro hlt2 <| And.intro hget <| And.intro hget2 <| hc) ct62 ?_
      exact AWP.ret (Fin hd [] [])
  · obtain rfl : k = l.length := by omega
    have hd : decide (l = m) = true := decide_eq_true (take_eq_all hlen heq)
    repeat refine St hlt ct62 ?_
    exact AWP.ret (Fin hd [] [])

theorem eqb_c (l m : List (List UInt8)) : F62 [.sq 1 (l.map .by), .sq 1 (m.map .by), .fn 63] = some ([], .t (.bool (decide (l = m)))) := by
  simp only [F62, inv_of (map_inj by_inj)]; first | exact if_pos rfl | exact if_pos trivial

noncomputable def F39 : Fun
  | [x, y] => match inv inT x, inv inT y with
    | some a, some b => some ([], .t (.bool (decide (a = b))))
    | _, _ => none
  | _ => none

theorem ct39 : CT [(62, ⟨[false, false, false], treeG F62⟩), (63, ⟨[false, false], treeG F63⟩)] [0, 1, 2, 3, 4] [] := ⟨(.cons c62.g (.cons c63.g (.nil _)))⟩

theorem c39 : ACon Try.prog 39 F39 := by
  refine aconc E_ok (rs := [.tmp 4 4]) Try.func39 rfl Try.ntmps39 (by kernel_rfl) rfl (by decide) F39 (np := 2) ?_ ?_
  · intro ts h; unfold F39; split <;> first | rfl | (simp at h; done)
  intro ts H r hF hwf
  unfold F39 at hF
  split at hF <;> try (cases hF; done)
  split at hF <;> try (cases hF; done)
  rename_i a b ha hb
  cases hF
  obtain rfl := inv_inv ha
  obtain rfl := inv_inv hb
  have h1 := eqb_c a.wit b.wit
  obtain ⟨h, i, s, w⟩ := a
  obtain ⟨h', i', s', w'⟩ := b
  have e1 : inT ⟨h, i, s, w⟩ = .st [.st [.ba 32 h.1, .int .u32 (i.toNat : Int)], .int .u32 (s.toNat : Int), .sq 1 (w.map .by)] := rfl
  have e2 : inT ⟨h', i', s', w'⟩ = .st [.st [.ba 32 h'.1, .int .u32 (i'.toNat : Int)], .int .u32 (s'.toNat : Int), .sq 1 (w'.map .by)] := rfl
  dsimp only at h1
  rw [e1, e2]
  have hl1 := h.2
  have hl2 := h'.2
  by_cases q1 : h = h'
  case neg =>
    have q1' : (h.1 == h'.1) = false := by rw [beq_eq_false_iff_ne]; exact fun hh => q1 (Subtype.ext hh)
    have hd : decide ((⟨h, i, s, w⟩ : TIn) = ⟨h', i', s', w'⟩) = false := decide_eq_false fun hh => q1 (TIn.mk.inj hh).1
    repeat refine St (And.intro hl1 <| And.intro hl2 <| q1') ct39 ?_
    exact AWP.ret (Fin hd [] [])
  subst q1
  have q1' : (h.1 == h.1) = true := beq_self_eq_true _
  by_cases q2 : i = i'
  case neg =>
    have q2' : ((i.toNat : Int) == (i'.toNat : Int)) = false := by rw [beq_eq_false_iff_ne]; exact fun hh => q2 (n32_inj hh)
    have hd : decide ((⟨h, i, s, w⟩ : TIn) = ⟨h, i', s', w'⟩) = false := decide_eq_false fun hh => q2 (TIn.mk.inj hh).2.1
    repeat refine St (And.intro hl1 <| And.intro hl2 <| And.intro q1' <| q2') ct39 ?_
    exact AWP.ret (Fin hd [] [])
  subst q2
  have q2' : ((i.toNat : Int) == (i.toNat : Int)) = true := beq_self_eq_true _
  by_cases q3 : s = s'
  case neg =>
    have q3' : ((s.toNat : Int) == (s'.toNat : Int)) = false := by rw [beq_eq_false_iff_ne]; exact fun hh => q3 (n32_inj hh)
    have hd : decide ((⟨h, i, s, w⟩ : TIn) = ⟨h, i, s', w'⟩) = false := decide_eq_false fun hh => q3 (TIn.mk.inj hh).2.2.1
    repeat refine St (And.intro hl1 <| And.intro hl2 <| And.intro q1' <| And.intro q2' <| q3') ct39 ?_
    exact AWP.ret (Fin hd [] [])
  subst q3
  have q3' : ((s.toNat : Int) == (s.toNat : Int)) = true := beq_self_eq_true _
  by_cases q4 : w = w'
  case neg =>
    have hd : decide ((⟨h, i, s, w⟩ : TIn) = ⟨h, i, s, w'⟩) = false := decide_eq_false fun hh => q4 (TIn.mk.inj hh).2.2.2
    rw [decide_eq_false q4] at h1
    repeat refine St (And.intro hl1 <| And.intro hl2 <| And.intro q1' <| And.intro q2' <| And.intro q3' <| h1) ct39 ?_
    exact AWP.ret (Fin hd [] [])
  subst q4
  rw [decide_eq_true rfl] at h1
  have hd : decide ((⟨h, i, s, w⟩ : TIn) = ⟨h, i, s, w⟩) = true := decide_eq_true rfl
  repeat refine St (And.intro hl1 <| And.intro hl2 <| And.intro q1' <| And.intro q2' <| And.intro q3' <| h1) ct39 ?_
  exact AWP.ret (Fin hd [] [])

noncomputable def F41 : Fun
  | [x, y] => match inv outT x, inv outT y with
    | some a, some b => some ([], .t (.bool (decide (a = b))))
    | _, _ => none
  | _ => none

theorem ct41 : CT [(63, ⟨[false, false], treeG F63⟩)] [0, 1, 2, 3, 4] [] := ⟨(.cons c63.g (.nil _))⟩

theorem c41 : ACon Try.prog 41 F41 := by
  refine aconc E_ok (rs := [.tmp 4 4]) Try.func41 rfl Try.ntmps41 (by kernel_rfl) rfl (by decide) F41 (np := 2) ?_ ?_
  · intro ts h; unfold F41; split <;> first | rfl | (simp at h; done)
  intro ts H r hF hwf
  unfold F41 at hF
  split at hF <;> try (cases hF; done)
  split at hF <;> try (cases hF; done)
  rename_i a b ha hb
  cases hF
  obtain rfl := inv_inv ha
  obtain rfl := inv_inv hb
  obtain ⟨v, x⟩ := a
  obtain ⟨v', x'⟩ := b
  have e1 : outT ⟨v, x⟩ = .st [.int .u64 (v.toNat : Int), .by x] := rfl
  have e2 : outT ⟨v', x'⟩ = .st [.int .u64 (v'.toNat : Int), .by x'] := rfl
  rw [e1, e2]
  by_cases q1 : v = v'
  case neg =>
    have q1' : ((v.toNat : Int) == (v'.toNat : Int)) = false := by rw [beq_eq_false_iff_ne]; exact fun hh => q1 (n64_inj hh)
    have hd : decide ((⟨v, x⟩ : TOut) = ⟨v', x'⟩) = false := decide_eq_false fun hh => q1 (TOut.mk.inj hh).1
    repeat refine St q1' ct41 ?_
    exact AWP.ret (Fin hd [] [])
  subst q1
  have q1' : ((v.toNat : Int) == (v.toNat : Int)) = true := beq_self_eq_true _
  by_cases q2 : x = x'
  case neg =>
    have q2' : F63 [.by x, .by x'] = some ([], .t (.bool false)) := by
      have : (x == x') = false := by simpa using q2
      simp only [F63, this]
    have hd : decide ((⟨v, x⟩ : TOut) = ⟨v, x'⟩) = false := decide_eq_false fun hh => q2 (TOut.mk.inj hh).2
    repeat refine St (And.intro q1' <| q2') ct41 ?_
    exact AWP.ret (Fin hd [] [])
  subst q2
  have q2' : F63 [.by x, .by x] = some ([], .t (.bool true)) := by simp only [F63, beq_self_eq_true]
  have hd : decide ((⟨v, x⟩ : TOut) = ⟨v, x⟩) = true := decide_eq_true rfl
  repeat refine St (And.intro q1' <| q2') ct41 ?_
  exact AWP.ret (Fin hd [] [])

theorem sameIn_c (a b : TIn) : F39 [inT a, inT b] = some ([], .t (.bool (decide (a = b)))) := by
  simp only [F39, inv_of inT_inj]

noncomputable def F38 : Fun
  | [.sq 35 xs, .sq 35 ys, .fn f] => match inv (List.map inT) xs, inv (List.map inT) ys with
    | some l, some m => if f = 39 then some ([], .t (.bool (decide (l = m)))) else none
    | _, _ => none
  | _ => none

theorem ct38 : CT [(39, ⟨[false, false], treeG F39⟩)] [0, 1, 2, 6, 7, 8, 9, 14, 15, 16, 17, 18, 30] [] := ⟨(.cons c39.g (.nil _))⟩

theorem c38 : ACon Try.prog 38 F38 := by
  refine aconc E_ok (rs := [.tmp 6 4]) Try.func38 rfl Try.ntmps38 (by kernel_rfl) rfl (by decide) F38 (np := 3) ?_ ?_
  · intro ts h; unfold F38; split <;> first | rfl | (simp at h; done)
  intro ts H r hF hwf
  unfold F38 at hF
  split at hF <;> try (cases hF; done)
  split at hF <;> try (cases hF; done)
  rename_i l m hl hm
  split at hF
  case isFalse => cases hF
  rename_i hc
  have hf := hc
  cases hF
  obtain rfl := inv_inv hl
  obtain rfl := inv_inv hm
  subst hf
  have hg : l.length ≤ maxLen := by
    have h1 : (T.sq 35 (l.map inT)).wf := hwf (.sq 35 (l.map inT)) (by simp)
    simp only [T.wf] at h1; simpa using h1.2.1
  unfold maxLen at hg
  by_cases hlen : l.length = m.length
  case neg =>
    have hb : ((l.length : Int) != (m.length : Int)) = true := by rw [bne_iff_ne]; omega
    have hne : decide (l = m) = false := decide_eq_false fun h => hlen (by rw [h])
    repeat refine St hb ct38 ?_
    exact AWP.ret (Fin hne [] [])
  have hb : ((l.length : Int) != (m.length : Int)) = false := by rw [bne_eq_false_iff_eq]; omega
  repeat refine St hb ct38 ?_
  refine AWP.loop (G := { k : Nat // k ≤ l.length ∧ l.take k = m.take k }) (fun k => ⟨[(1, .t (.sq 35 (m.map inT))), (2, .t (.fn 39)), (15, .t (.sq 35 (l.map inT))), (16, .t (.int .i64 (l.length : Int))), (17, .t (.int .i64 (k.1 : Int)))], []⟩) (fun k => l.length - k.1) ⟨0, by simp⟩ (Wt trivial [1, 2, 15, 16, 17] []) ?_
  intro ⟨k, hk, heq⟩
  dsimp only
  by_cases hlt : (k : Int) < (l.length : Int)
  · have hlt' : k < l.length := by omega
    have hlt2 : k < m.length := by omega
    have hget := in_getD l k hlt'
    have hget2 := in_getD m k hlt2
    have hts := take_eq_succ dIn hlt' hlt2 heq
    have hne := getD_ne (l := l) (m := m) dIn k
    generalize l.getD k dIn = x at *
    generalize m.getD k dIn = y at *
    have hc := sameIn_c x y
    simp only [inT, refT] at hc
    by_cases he : x = y
    · subst he
      rw [decide_eq_true rfl] at hc
      repeat refine St (And.intro hlt <| And.intro hlt' <| And.intro hlt2 <| And.intro hget <| And.intro hget2 <| And.intro hc <| And.intro @inT.eq_def <| @refT.eq_def) ct38 ?_
      exact ⟨⟨k + 1, by omega, hts rfl⟩, (Wt trivial [1, 2, 15, 16, 17] []), by simp only; omega⟩
    · rw [decide_eq_false he] at hc
      have hd : decide (l = m) = false := decide_eq_false (hne he)
      repeat refine St (And.intro hlt <| And.intro hlt' <| And.intro hlt2 <| And.intro hget <| And.intro hget2 <| And.intro hc <| And.intro @inT.eq_def <| @refT.eq_def) ct38 ?_
      exact AWP.ret (Fin hd [] [])
  · obtain rfl : k = l.length := by omega
    have hd : decide (l = m) = true := decide_eq_true (take_eq_all hlen heq)
    repeat refine St hlt ct38 ?_
    exact AWP.ret (Fin hd [] [])

theorem eqIn_c (l m : List TIn) : F38 [.sq 35 (l.map inT), .sq 35 (m.map inT), .fn 39] = some ([], .t (.bool (decide (l = m)))) := by
  simp only [F38, inv_of (map_inj inT_inj)]; first | exact if_pos rfl | exact if_pos trivial

theorem sameOut_c (a b : TOut) : F41 [outT a, outT b] = some ([], .t (.bool (decide (a = b)))) := by
  simp only [F41, inv_of outT_inj]

noncomputable def F40 : Fun
  | [.sq 2 xs, .sq 2 ys, .fn f] => match inv (List.map outT) xs, inv (List.map outT) ys with
    | some l, some m => if f = 41 then some ([], .t (.bool (decide (l = m)))) else none
    | _, _ => none
  | _ => none

theorem ct40 : CT [(41, ⟨[false, false], treeG F41⟩)] [0, 1, 2, 6, 7, 8, 9, 14, 15, 16, 17, 18, 30] [] := ⟨(.cons c41.g (.nil _))⟩

theorem c40 : ACon Try.prog 40 F40 := by
  refine aconc E_ok (rs := [.tmp 6 4]) Try.func40 rfl Try.ntmps40 (by kernel_rfl) rfl (by decide) F40 (np := 3) ?_ ?_
  · intro ts h; unfold F40; split <;> first | rfl | (simp at h; done)
  intro ts H r hF hwf
  unfold F40 at hF
  split at hF <;> try (cases hF; done)
  split at hF <;> try (cases hF; done)
  rename_i l m hl hm
  split at hF
  case isFalse => cases hF
  rename_i hc
  have hf := hc
  cases hF
  obtain rfl := inv_inv hl
  obtain rfl := inv_inv hm
  subst hf
  have hg : l.length ≤ maxLen := by
    have h1 : (T.sq 2 (l.map outT)).wf := hwf (.sq 2 (l.map outT)) (by simp)
    simp only [T.wf] at h1; simpa using h1.2.1
  unfold maxLen at hg
  by_cases hlen : l.length = m.length
  case neg =>
    have hb : ((l.length : Int) != (m.length : Int)) = true := by rw [bne_iff_ne]; omega
    have hne : decide (l = m) = false := decide_eq_false fun h => hlen (by rw [h])
    repeat refine St hb ct40 ?_
    exact AWP.ret (Fin hne [] [])
  have hb : ((l.length : Int) != (m.length : Int)) = false := by rw [bne_eq_false_iff_eq]; omega
  repeat refine St hb ct40 ?_
  refine AWP.loop (G := { k : Nat // k ≤ l.length ∧ l.take k = m.take k }) (fun k => ⟨[(1, .t (.sq 2 (m.map outT))), (2, .t (.fn 41)), (15, .t (.sq 2 (l.map outT))), (16, .t (.int .i64 (l.length : Int))), (17, .t (.int .i64 (k.1 : Int)))], []⟩) (fun k => l.length - k.1) ⟨0, by simp⟩ (Wt trivial [1, 2, 15, 16, 17] []) ?_
  intro ⟨k, hk, heq⟩
  dsimp only
  by_cases hlt : (k : Int) < (l.length : Int)
  · have hlt' : k < l.length := by omega
    have hlt2 : k < m.length := by omega
    have hget := out_getD l k hlt'
    have hget2 := out_getD m k hlt2
    have hts := take_eq_succ dOut hlt' hlt2 heq
    have hne := getD_ne (l := l) (m := m) dOut k
    generalize l.getD k dOut = x at *
    generalize m.getD k dOut = y at *
    have hc := sameOut_c x y
    simp only [outT] at hc
    by_cases he : x = y
    · subst he
      rw [decide_eq_true rfl] at hc
      repeat refine St (And.intro hlt <| And.intro hlt' <| And.intro hlt2 <| And.intro hget <| And.intro hget2 <| And.intro hc <| @outT.eq_def) ct40 ?_
      exact ⟨⟨k + 1, by omega, hts rfl⟩, (Wt trivial [1, 2, 15, 16, 17] []), by simp only; omega⟩
    · rw [decide_eq_false he] at hc
      have hd : decide (l = m) = false := decide_eq_false (hne he)
      repeat refine St (And.intro hlt <| And.intro hlt' <| And.intro hlt2 <| And.intro hget <| And.intro hget2 <| And.intro hc <| @outT.eq_def) ct40 ?_
      exact AWP.ret (Fin hd [] [])
  · obtain rfl : k = l.length := by omega
    have hd : decide (l = m) = true := decide_eq_true (take_eq_all hlen heq)
    repeat refine St hlt ct40 ?_
    exact AWP.ret (Fin hd [] [])

theorem eqOut_c (l m : List TOut) : F40 [.sq 2 (l.map outT), .sq 2 (m.map outT), .fn 41] = some ([], .t (.bool (decide (l = m)))) := by
  simp only [F40, inv_of (map_inj outT_inj)]; first | exact if_pos rfl | exact if_pos trivial

noncomputable def F16 : Fun
  | [x, y] => match inv txT x, inv txT y with
    | some a, some b => some ([], .t (.bool (decide (a = b))))
    | _, _ => none
  | _ => none

theorem ct16 : CT [(38, ⟨[false, false, false], treeG F38⟩), (39, ⟨[false, false], treeG F39⟩), (40, ⟨[false, false, false], treeG F40⟩), (41, ⟨[false, false], treeG F41⟩)] [0, 1, 2, 3, 4] [] := ⟨(.cons c38.g (.cons c39.g (.cons c40.g (.cons c41.g (.nil _)))))⟩

set_option maxHeartbeats 1000000 in
theorem c16 : ACon Try.prog 16 F16 := by
  refine aconc E_ok (rs := [.tmp 4 4]) Try.func16 rfl Try.ntmps16 (by kernel_rfl) rfl (by decide) F16 (np := 2) ?_ ?_
  · intro ts h; unfold F16; split <;> first | rfl | (simp at h; done)
  intro ts H r hF hwf
  unfold F16 at hF
  split at hF <;> try (cases hF; done)
  split at hF <;> try (cases hF; done)
  rename_i a b ha hb
  cases hF
  obtain rfl := inv_inv ha
  obtain rfl := inv_inv hb
  obtain ⟨v, is, os, k⟩ := a
  obtain ⟨v', is', os', k'⟩ := b
  have h1 := eqIn_c is is'
  have h2 := eqOut_c os os'
  rw [txT_st, txT_st]
  dsimp only
  by_cases q1 : v = v'
  case neg =>
    have q1' : ((v.toNat : Int) == (v'.toNat : Int)) = false := by rw [beq_eq_false_iff_ne]; exact fun hh => q1 (n32_inj hh)
    have hd : decide ((⟨v, is, os, k⟩ : TTx) = ⟨v', is', os', k'⟩) = false := decide_eq_false fun hh => q1 (TTx.mk.inj hh).1
    repeat refine St q1' ct16 ?_
    exact AWP.ret (Fin hd [] [])
  subst q1
  have q1' : ((v.toNat : Int) == (v.toNat : Int)) = true := beq_self_eq_true _
  by_cases q2 : k = k'
  case neg =>
    have q2' : ((k.toNat : Int) == (k'.toNat : Int)) = false := by rw [beq_eq_false_iff_ne]; exact fun hh => q2 (n32_inj hh)
    have hd : decide ((⟨v, is, os, k⟩ : TTx) = ⟨v, is', os', k'⟩) = false := decide_eq_false fun hh => q2 (TTx.mk.inj hh).2.2.2
    repeat refine St (And.intro q1' <| q2') ct16 ?_
    exact AWP.ret (Fin hd [] [])
  subst q2
  have q2' : ((k.toNat : Int) == (k.toNat : Int)) = true := beq_self_eq_true _
  by_cases q3 : is = is'
  case neg =>
    have hd : decide ((⟨v, is, os, k⟩ : TTx) = ⟨v, is', os', k⟩) = false := decide_eq_false fun hh => q3 (TTx.mk.inj hh).2.1
    rw [decide_eq_false q3] at h1
    repeat refine St (And.intro q1' <| And.intro q2' <| h1) ct16 ?_
    exact AWP.ret (Fin hd [] [])
  subst q3
  rw [decide_eq_true rfl] at h1
  by_cases q4 : os = os'
  case neg =>
    have hd : decide ((⟨v, is, os, k⟩ : TTx) = ⟨v, is, os', k⟩) = false := decide_eq_false fun hh => q4 (TTx.mk.inj hh).2.2.1
    rw [decide_eq_false q4] at h2
    repeat refine St (And.intro q1' <| And.intro q2' <| And.intro h1 <| h2) ct16 ?_
    exact AWP.ret (Fin hd [] [])
  subst q4
  rw [decide_eq_true rfl] at h2
  have hd : decide ((⟨v, is, os, k⟩ : TTx) = ⟨v, is, os, k⟩) = true := decide_eq_true rfl
  repeat refine St (And.intro q1' <| And.intro q2' <| And.intro h1 <| h2) ct16 ?_
  exact AWP.ret (Fin hd [] [])

theorem same_t (a b : TTx) : F16 [txT a, txT b] = some ([], .t (.bool (decide (a = b)))) := by
  simp only [F16, inv_of txT_inj]

end Go.Fw

end

section
/- Drawn regions with two stores. -/
namespace Go.Fw
open Go Go.Proofs
set_option linter.unusedVariables false

theorem AWP.dK2 {gl : GCalls} {keep : List Nat} {ds : List (Nat × List Info)} {kp N id : Nat} {l : List Oper} {Q : Exit → AS → Prop} {S S' : AS} (ct : CT gl keep ds) {fs : List Info} (hl : lkD id ds = some fs) (hdep : dOk2 l fs = true) (h : drunP E eqq gl N keep l fs S = some S') (hQ : Q .normal S') : AWP kp Try.prog N (.region id l.toArray true) Q S :=
  AWP.gdraw2 X_ok ct.cl keep mix fs hdep h hQ

/-- One step. -/
theorem St2 {F : Prop} (hF : F) {gl : GCalls} {keep : List Nat} {ds : List (Nat × List Info)} (ct : CT gl keep ds) {A B : Prop} (k : B) (h : F → CT gl keep ds → KB B → A := by
  (intro hF ct hk; (first
    | refine AWP.seq ?_
    | refine AWP.block ?_
    | (refine AWP.rK ct (Ev hF) ?_; try show AWP _ _ _ _ _ _)
    | (refine AWP.condT ?_ ?_; focus (simp only [W, eqq, ↓reduceIte, Nat.reduceEqDiff, Nat.reduceLT, Nat.reduceLeDiff, Nat.reduceAdd, Nat.reduceMul, Nat.reduceSub, Nat.reduceBEq, Int.reduceLE, Int.reduceLT, Int.reduceNeg, Int.reduceToNat, Int.reduceEq, Int.reduceBEq, Int.reduceBNe, Nat.reduceBNe, bne_self_eq_false, reduceCtorEq, gt_iff_lt, ge_iff_le, hF]; done))
    | (refine AWP.condF ?_ ?_; focus (simp only [W, eqq, ↓reduceIte, Nat.reduceEqDiff, Nat.reduceLT, Nat.reduceLeDiff, Nat.reduceAdd, Nat.reduceMul, Nat.reduceSub, Nat.reduceBEq, Int.reduceLE, Int.reduceLT, Int.reduceNeg, Int.reduceToNat, Int.reduceEq, Int.reduceBEq, Int.reduceBNe, Nat.reduceBNe, bne_self_eq_false, reduceCtorEq, gt_iff_lt, ge_iff_le, hF]; done))
    | (refine AWP.cT (by simp only [W, eqq, ↓reduceIte, Nat.reduceEqDiff, Nat.reduceLT, Nat.reduceLeDiff, Nat.reduceAdd, Nat.reduceMul, Nat.reduceSub, Nat.reduceBEq, Int.reduceLE, Int.reduceLT, Int.reduceNeg, Int.reduceToNat, Int.reduceEq, Int.reduceBEq, Int.reduceBNe, Nat.reduceBNe, bne_self_eq_false, reduceCtorEq, gt_iff_lt, ge_iff_le, hF]; with_reducible rfl) (by simp only [BL, beq_iff_eq, bne_iff_ne, beq_eq_false_iff_ne, bne_eq_false_iff_eq]; omega) ?_)
    | (refine AWP.cF (by simp only [W, eqq, ↓reduceIte, Nat.reduceEqDiff, Nat.reduceLT, Nat.reduceLeDiff, Nat.reduceAdd, Nat.reduceMul, Nat.reduceSub, Nat.reduceBEq, Int.reduceLE, Int.reduceLT, Int.reduceNeg, Int.reduceToNat, Int.reduceEq, Int.reduceBEq, Int.reduceBNe, Nat.reduceBNe, bne_self_eq_false, reduceCtorEq, gt_iff_lt, ge_iff_le, hF]; with_reducible rfl) (by simp only [BL, beq_iff_eq, bne_iff_ne, beq_eq_false_iff_ne, bne_eq_false_iff_eq]; omega) ?_)
    | (refine AWP.skip ?_; try show AWP _ _ _ _ _ _)
    | (refine AWP.exit ?_; try show AWP _ _ _ _ _ _)
    | (refine AWP.dK2 ct (by rfl) (by kernel_rfl) (Ev hF) ?_; try show AWP _ _ _ _ _ _)); exact hk.out)) : A := h hF ct ⟨k⟩


end Go.Fw

end

section
/- tx's answer: alike. -/
namespace Go.Fw
open Go Go.Proofs
set_option linter.unusedVariables false
set_option linter.unusedSimpArgs false

noncomputable def F14 : Fun
  | [x, y] => match inv txT x, inv txT y with
    | some a, some b => some ([], .t (.bool (decide (a = b))))
    | _, _ => none
  | _ => none

theorem ct14 : CT [(37, ⟨[false, false], treeG F37⟩)] [0, 1, 2, 3, 4, 5, 6, 7, 8, 38, 43, 75, 80, 112] [(6, [⟨0, [2], [], []⟩, ⟨1, [46], [], []⟩, ⟨0, [5], [], []⟩, ⟨1, [47, 48], [1], []⟩, ⟨1, [49], [1, 3], []⟩, ⟨0, [3], [], []⟩, ⟨0, [51], [], [0, 1]⟩, ⟨0, [5], [], []⟩, ⟨0, [52, 53], [], []⟩, ⟨0, [54], [], []⟩, ⟨1, [], [], []⟩, ⟨1, [], [], []⟩, ⟨2, [6, 50], [1, 3, 4, 10, 11], [0, 1]⟩, ⟨2, [7, 55], [1, 3, 4, 10, 11, 12], [0, 1]⟩]), (12, [⟨0, [2], [], []⟩, ⟨1, [83], [], []⟩, ⟨0, [8], [], []⟩, ⟨0, [84, 85], [1], []⟩, ⟨0, [86], [1], []⟩, ⟨0, [87], [1], []⟩, ⟨0, [3], [], []⟩, ⟨1, [89], [], []⟩, ⟨0, [8], [], []⟩, ⟨0, [90, 91], [7], []⟩, ⟨0, [92], [7], []⟩, ⟨0, [93], [7], []⟩, ⟨0, [88, 94], [1, 7], []⟩, ⟨0, [95], [1, 7], []⟩, ⟨0, [2], [1, 7], []⟩, ⟨1, [97], [1, 7], []⟩, ⟨0, [8], [1, 7], []⟩, ⟨0, [98, 99], [1, 7, 15], []⟩, ⟨0, [100], [1, 7, 15], []⟩, ⟨0, [101], [1, 7, 15], []⟩, ⟨1, [102], [1, 7, 15], []⟩, ⟨0, [3], [1, 7], []⟩, ⟨1, [104], [1, 7], []⟩, ⟨0, [8], [1, 7], []⟩, ⟨0, [105, 106], [1, 7, 22], []⟩, ⟨0, [107], [1, 7, 22], []⟩, ⟨0, [108], [1, 7, 22], []⟩, ⟨1, [109], [1, 7, 22], []⟩, ⟨0, [103, 110], [1, 7, 15, 20, 22, 27], []⟩, ⟨0, [96, 111], [1, 7, 15, 20, 22, 27], []⟩])] := ⟨(.cons c37.g (.nil _))⟩

theorem rsame_l (l m : List (List UInt8)) : F37 [.sq 1 (l.map .by), .sq 1 (m.map .by)] = some ([], .t (.bool (l == m))) := by
  simp only [F37, asBys_map]

theorem i_ne {a b : Int} (h : a ≠ b) : (a != b) = true := by rw [bne_iff_ne]; exact h
theorem i_eq {a b : Int} (h : a = b) : (a != b) = false := by rw [bne_eq_false_iff_eq]; exact h

set_option maxHeartbeats 4000000 in
theorem c14 : ACon Try.prog 14 F14 := by
  refine aconc E_ok (rs := [.tmp 4 4]) Try.func14 rfl Try.ntmps14 (by kernel_rfl) rfl (by decide) F14 (np := 2) ?_ ?_
  · intro ts h; unfold F14; split <;> first | rfl | (simp at h; done)
  intro ts H r hF hwf
  unfold F14 at hF
  split at hF <;> try (cases hF; done)
  split at hF <;> try (cases hF; done)
  rename_i a b ha hb
  cases hF
  obtain rfl := inv_inv ha
  obtain rfl := inv_inv hb
  have hla : a.ins.length ≤ maxLen ∧ a.outs.length ≤ maxLen := by
    have h1 : (txT a).wf := hwf (txT a) (by simp)
    simp only [txT_st, T.wf, T.wfL] at h1
    exact ⟨by simpa using h1.2.1.2.1, by simpa using h1.2.2.1.2.1⟩
  unfold maxLen at hla
  obtain ⟨v, is, os, k⟩ := a
  obtain ⟨v', is', os', k'⟩ := b
  rw [txT_st, txT_st]
  dsimp only at hla ⊢
  by_cases q1 : v = v'
  case neg =>
    have q1' := i_ne (fun hh => q1 (n32_inj hh))
    have hd : decide ((⟨v, is, os, k⟩ : TTx) = ⟨v', is', os', k'⟩) = false := decide_eq_false fun hh => q1 (TTx.mk.inj hh).1
    repeat refine St2 q1' ct14 ?_
    exact AWP.ret (Fin hd [] [])
  subst q1
  by_cases q2 : k = k'
  case neg =>
    have q2' := i_ne (fun hh => q2 (n32_inj hh))
    have hd : decide ((⟨v, is, os, k⟩ : TTx) = ⟨v, is', os', k'⟩) = false := decide_eq_false fun hh => q2 (TTx.mk.inj hh).2.2.2
    repeat refine St2 q2' ct14 ?_
    exact AWP.ret (Fin hd [] [])
  subst q2
  by_cases q3 : is.length = is'.length
  case neg =>
    have q3' : ((is.length : Int) != (is'.length : Int)) = true := i_ne (by omega)
    have hd : decide ((⟨v, is, os, k⟩ : TTx) = ⟨v, is', os', k⟩) = false := decide_eq_false fun hh => q3 (by rw [(TTx.mk.inj hh).2.1])
    repeat refine St2 q3' ct14 ?_
    exact AWP.ret (Fin hd [] [])
  have q3' : ((is.length : Int) != (is'.length : Int)) = false := i_eq (by omega)
  by_cases q4 : os.length = os'.length
  case neg =>
    have q4' : ((os.length : Int) != (os'.length : Int)) = true := i_ne (by omega)
    have hd : decide ((⟨v, is, os, k⟩ : TTx) = ⟨v, is', os', k⟩) = false := decide_eq_false fun hh => q4 (by rw [(TTx.mk.inj hh).2.2.1])
    repeat refine St2 (And.intro q3' <| q4') ct14 ?_
    exact AWP.ret (Fin hd [] [])
  have q4' : ((os.length : Int) != (os'.length : Int)) = false := i_eq (by omega)
  repeat refine St2 (And.intro q3' <| q4') ct14 ?_
  refine AWP.loop (G := { i : Nat // i ≤ is.length ∧ is.take i = is'.take i }) (fun i => ⟨[(2, .ptr 0 0 []), (3, .ptr 1 0 []), (5, .t (.int .i64 (i.1 : Int)))], [.bx (.t (.st [.int .u32 (v.toNat : Int), .sq 35 (is.map inT), .sq 2 (os.map outT), .int .u32 (k.toNat : Int)])), .bx (.t (.st [.int .u32 (v.toNat : Int), .sq 35 (is'.map inT), .sq 2 (os'.map outT), .int .u32 (k.toNat : Int)]))]⟩) (fun i => is.length - i.1) ⟨0, by simp⟩ (Wt trivial [2, 3, 5] [0, 1]) ?_
  intro ⟨i, hi, heq⟩
  dsimp only
  by_cases hlt : (i : Int) < (is.length : Int)
  · have hlt' : i < is.length := by omega
    have hlt2 : i < is'.length := by omega
    have hget := in_getD is i hlt'
    have hget2 := in_getD is' i hlt2
    have hts := take_eq_succ dIn hlt' hlt2 heq
    have hne := getD_ne (l := is) (m := is') dIn i
    generalize is.getD i dIn = x at *
    generalize is'.getD i dIn = y at *
    have hdn : x ≠ y → decide ((⟨v, is, os, k⟩ : TTx) = ⟨v, is', os', k⟩) = false := fun h => decide_eq_false fun hh => hne h (TTx.mk.inj hh).2.1
    have hsl := rsame_l x.wit y.wit
    obtain ⟨h, j, s, w⟩ := x
    obtain ⟨h', j', s', w'⟩ := y
    have hl1 := h.2
    have hl2 := h'.2
    dsimp only at hsl
    by_cases r1 : h = h'
    case neg =>
      have r1' : (h.1 == h'.1) = false := by rw [beq_eq_false_iff_ne]; exact fun hh => r1 (Subtype.ext hh)
      have hd := hdn fun hh => r1 (TIn.mk.inj hh).1
      repeat refine St2 (And.intro hlt <| And.intro hlt' <| And.intro hlt2 <| And.intro hget <| And.intro hget2 <| And.intro @inT.eq_def <| And.intro @refT.eq_def <| And.intro hl1 <| And.intro hl2 <| r1') ct14 ?_
      exact AWP.ret (Fin hd [] [])
    subst r1
    have r1' : (h.1 == h.1) = true := beq_self_eq_true _
    by_cases r2 : j = j'
    case neg =>
      have r2' : ((j.toNat : Int) == (j'.toNat : Int)) = false := by rw [beq_eq_false_iff_ne]; exact fun hh => r2 (n32_inj hh)
      have hd := hdn fun hh => r2 (TIn.mk.inj hh).2.1
      repeat refine St2 (And.intro hlt <| And.intro hlt' <| And.intro hlt2 <| And.intro hget <| And.intro hget2 <| And.intro @inT.eq_def <| And.intro @refT.eq_def <| And.intro hl1 <| And.intro hl2 <| And.intro r1' <| r2') ct14 ?_
      exact AWP.ret (Fin hd [] [])
    subst r2
    have r2' : ((j.toNat : Int) == (j.toNat : Int)) = true := beq_self_eq_true _
    by_cases r3 : s = s'
    case neg =>
      have r3' : ((s.toNat : Int) != (s'.toNat : Int)) = true := i_ne fun hh => r3 (n32_inj hh)
      have hd := hdn fun hh => r3 (TIn.mk.inj hh).2.2.1
      repeat refine St2 (And.intro hlt <| And.intro hlt' <| And.intro hlt2 <| And.intro hget <| And.intro hget2 <| And.intro @inT.eq_def <| And.intro @refT.eq_def <| And.intro hl1 <| And.intro hl2 <| And.intro r1' <| And.intro r2' <| r3') ct14 ?_
      exact AWP.ret (Fin hd [] [])
    subst r3
    by_cases r4 : w = w'
    case neg =>
      have r4' : (w == w') = false := by rw [beq_eq_false_iff_ne]; exact r4
      have hd := hdn fun hh => r4 (TIn.mk.inj hh).2.2.2
      rw [r4'] at hsl
      repeat refine St2 (And.intro hlt <| And.intro hlt' <| And.intro hlt2 <| And.intro hget <| And.intro hget2 <| And.intro @inT.eq_def <| And.intro @refT.eq_def <| And.intro hl1 <| And.intro hl2 <| And.intro r1' <| And.intro r2' <| hsl) ct14 ?_
      exact AWP.ret (Fin hd [] [])
    subst r4
    rw [beq_self_eq_true] at hsl
    repeat refine St2 (And.intro hlt <| And.intro hlt' <| And.intro hlt2 <| And.intro hget <| And.intro hget2 <| And.intro @inT.eq_def <| And.intro @refT.eq_def <| And.intro hl1 <| And.intro hl2 <| And.intro r1' <| And.intro r2' <| hsl) ct14 ?_
    exact ⟨⟨i + 1, by omega, hts rfl⟩, (Wt trivial [2, 3, 5] [0, 1]), by simp only; omega⟩
  obtain rfl : i = is.length := by omega
  obtain rfl : is = is' := take_eq_all q3 heq
  repeat refine St2 hlt ct14 ?_
  refine AWP.loop (G := { i : Nat // i ≤ os.length ∧ os.take i = os'.take i }) (fun i => ⟨[(2, .ptr 0 0 []), (3, .ptr 1 0 []), (8, .t (.int .i64 (i.1 : Int)))], [.bx (.t (.st [.int .u32 (v.toNat : Int), .sq 35 (is.map inT), .sq 2 (os.map outT), .int .u32 (k.toNat : Int)])), .bx (.t (.st [.int .u32 (v.toNat : Int), .sq 35 (is.map inT), .sq 2 (os'.map outT), .int .u32 (k.toNat : Int)]))]⟩) (fun i => os.length - i.1) ⟨0, by simp⟩ (Wt trivial [2, 3, 8] [0, 1]) ?_
  intro ⟨i, hi, heq⟩
  dsimp only
  by_cases hlt : (i : Int) < (os.length : Int)
  · have hlt' : i < os.length := by omega
    have hlt2 : i < os'.length := by omega
    have hlt3 : (i : Int) < (os'.length : Int) := by omega
    have hget := out_getD os i hlt'
    have hget2 := out_getD os' i hlt2
    have hts := take_eq_succ dOut hlt' hlt2 heq
    have hne := getD_ne (l := os) (m := os') dOut i
    generalize os.getD i dOut = x at *
    generalize os'.getD i dOut = y at *
    have hdn : x ≠ y → decide ((⟨v, is, os, k⟩ : TTx) = ⟨v, is, os', k⟩) = false := fun h => decide_eq_false fun hh => hne h (TTx.mk.inj hh).2.2.1
    obtain ⟨h, s⟩ := x
    obtain ⟨h', s'⟩ := y
    by_cases r1 : h = h'
    case neg =>
      have r1' : ((h.toNat : Int) != (h'.toNat : Int)) = true := i_ne fun hh => r1 (n64_inj hh)
      have hd := hdn fun hh => r1 (TOut.mk.inj hh).1
      repeat refine St2 (And.intro hlt <| And.intro hlt3 <| And.intro hlt' <| And.intro hlt2 <| And.intro hget <| And.intro hget2 <| And.intro @outT.eq_def <| r1') ct14 ?_
      exact AWP.ret (Fin hd [] [])
    subst r1
    by_cases r2 : s = s'
    case neg =>
      have r2' : (s != s') = true := by rw [bne_iff_ne]; exact r2
      have hd := hdn fun hh => r2 (TOut.mk.inj hh).2
      repeat refine St2 (And.intro hlt <| And.intro hlt3 <| And.intro hlt' <| And.intro hlt2 <| And.intro hget <| And.intro hget2 <| And.intro @outT.eq_def <| r2') ct14 ?_
      exact AWP.ret (Fin hd [] [])
    subst r2
    repeat refine St2 (And.intro hlt <| And.intro hlt3 <| And.intro hlt' <| And.intro hlt2 <| And.intro hget <| And.intro hget2 <| @outT.eq_def) ct14 ?_
    exact ⟨⟨i + 1, by omega, hts rfl⟩, (Wt trivial [2, 3, 8] [0, 1]), by simp only; omega⟩
  obtain rfl : i = os.length := by omega
  obtain rfl : os = os' := take_eq_all q4 heq
  have hd : decide ((⟨v, is, os, k⟩ : TTx) = ⟨v, is, os, k⟩) = true := decide_eq_true rfl
  repeat refine St2 hlt ct14 ?_
  exact AWP.ret (Fin hd [] [])

theorem rsame_t (a b : TTx) : F14 [txT a, txT b] = some ([], .t (.bool (decide (a = b)))) := by
  simp only [F14, inv_of txT_inj]

end Go.Fw

end

section
/- Chapter 9: the live question, TxForms, TxSame: their code walked. -/
namespace Go.Fw
open Go Go.Proofs
set_option linter.unusedVariables false
set_option linter.unusedSimpArgs false

theorem bar_t (t : TTx) : F20 [txT t] = some ([], .t (.by (barO t))) := by simp only [F20, inv_of txT_inj]
theorem who_t (t : TTx) : F17 [txT t] = some ([], .t (.by (whoO t))) := by simp only [F17, inv_of txT_inj]
theorem nam_t (t : TTx) : F19 [txT t] = some ([], .t (.ba 32 (namO t))) := by simp only [F19, inv_of txT_inj]
theorem sea_t (t : TTx) : F27 [txT t] = some ([], .t (.ba 32 (seaO t))) := by simp only [F27, inv_of txT_inj]
theorem wei_t (t : TTx) : F21 [txT t] = some ([], .t (.int .i64 (weiO t))) := by simp only [F21, inv_of txT_inj]
theorem rbar_t (t : TTx) : F24 [txT t] = some ([], .t (.by (barO t))) := by simp only [F24, inv_of txT_inj]
theorem rwho_t (t : TTx) : F25 [txT t] = some ([], .t (.by (whoO t))) := by simp only [F25, inv_of txT_inj]
theorem rnam_t (t : TTx) : F26 [txT t] = some ([], .t (.ba 32 (namO t))) := by simp only [F26, inv_of txT_inj]
theorem rsea_t (t : TTx) : F28 [txT t] = some ([], .t (.ba 32 (seaO t))) := by simp only [F28, inv_of txT_inj]
theorem rwei_t (t : TTx) : F29 [txT t] = some ([], .t (.int .i64 (weiO t))) := by simp only [F29, inv_of txT_inj]
theorem rsml_t (t : TTx) : F15 [txT t] = some ([], .t (.bool (smallT t))) := by simp only [F15, inv_of txT_inj]

def two9 : TTx := ⟨2, [], [], 0⟩
theorem two9_whole : wholeB two9 = [UInt8.ofNat 2, UInt8.ofNat 0, UInt8.ofNat 0, UInt8.ofNat 0, UInt8.ofNat 0, UInt8.ofNat 0, UInt8.ofNat 0, UInt8.ofNat 0, UInt8.ofNat 0, UInt8.ofNat 0] := by decide +kernel
theorem two9_fits : fitsB two9 = true := by decide +kernel
theorem two9_bare : (bareB two9).length = 10 := by decide +kernel

def F9 : Fun
  | [] => some ([], .t (.bool true))
  | _ => none

theorem ct9 : CT [(12, ⟨[false], treeG F12⟩), (16, ⟨[false, false], treeG F16⟩), (18, ⟨[false], treeG F18⟩), (20, ⟨[false], treeG F20⟩), (21, ⟨[false], treeG F21⟩)] [0, 1, 2, 3] [] := ⟨(.cons c12.g (.cons c16.g (.cons c18.g (.cons c20.g (.cons c21.g (.nil _))))))⟩

set_option maxHeartbeats 1000000 in
theorem c9 : ACon Try.prog 9 F9 := by
  refine aconc E_ok (rs := [.tmp 0 4]) Try.func9 rfl Try.ntmps9 (by kernel_rfl) rfl (by decide) F9 (np := 0) ?_ ?_
  · intro ts h; unfold F9; split <;> first | rfl | (simp at h; done)
  intro ts H r hF hwf
  unfold F9 at hF
  split at hF <;> try (cases hF; done)
  cases hF
  have h1 := dec_t (b := wholeB two9) (by rw [two9_whole]; simp)
  rw [decTx_put two9_fits, two9_whole] at h1
  have e1 : decR (.ok two9 []) = ([], .tup [.t (.st [.int .u32 2, .sq 35 [], .sq 2 [], .int .u32 0]), .t (.int .i64 0)]) := rfl
  rw [e1] at h1
  have h2 := wei_t two9
  have e2 : weiO two9 = 40 := by
    have : weiO two9 = 3 * ((bareB two9).length : Int) + ((wholeB two9).length : Int) := if_pos two9_fits
    rw [this, two9_bare, two9_whole]; rfl
  rw [e2] at h2
  have h3 := same_t two9 two9
  have h4 := same_t two9 dTx
  rw [decide_eq_true rfl] at h3
  rw [show decide (two9 = dTx) = false from rfl] at h4
  have h5 := bar_t two9
  have e5 : barO two9 = bareB two9 := if_pos two9_fits
  rw [e5] at h5
  have hl := two9_bare
  have h6 := check_c two9
  rw [fits_chk two9_fits] at h6
  generalize bareB two9 = B at *
  have et : txT two9 = .st [.int .u32 2, .sq 35 [], .sq 2 [], .int .u32 0] := rfl
  rw [et] at h2 h3 h4 h5 h6
  rw [dTx_T] at h4
  repeat refine St (And.intro h1 <| And.intro h2 <| And.intro h3 <| And.intro h4 <| And.intro h5 <| And.intro h6 <| hl) ct9 ?_
  exact AWP.ret (Fin trivial [] [])

def cnO (x : TOut) : Nat := x.scr.length
def cnW (l : List (List UInt8)) : Nat := (l.map List.length).sum
def cnI (x : TIn) : Nat := cnW x.wit
def okO9 (x : TOut) : Bool := decide (x.scr.length ≤ 1100)
def okI9 (x : TIn) : Bool := decide (x.wit.length ≤ 35) && x.wit.all fun y => decide (y.length ≤ 1100)
def cntd9 (t : TTx) : Bool := decide (t.ins.length ≤ 25) && decide (t.outs.length ≤ 25) && t.outs.all okO9 && t.ins.all okI9 && decide ((t.outs.map cnO).sum + (t.ins.map cnI).sum ≤ 13000)
theorem cntd9_eq (t : TTx) : cntd9 t = (decide (t.ins.length ≤ 25) && decide (t.outs.length ≤ 25) && t.outs.all okO9 && t.ins.all okI9 && decide ((t.outs.map cnO).sum + (t.ins.map cnI).sum ≤ 13000)) := rfl
theorem sum_take {α : Type} (f : α → Nat) (d : α) (l : List α) (k : Nat) (h : k < l.length) : ((l.take (k + 1)).map f).sum = ((l.take k).map f).sum + f (l.getD k d) := by
  rw [take_getDx d l k h]; simp

noncomputable def F22 : Fun
  | [y] => match inv txT y with
    | some t => some ([], .t (.bool (cntd9 t)))
    | none => none
  | _ => none

theorem ct22 : CT [] [0, 1, 2, 3, 4, 5, 6, 16, 21, 31, 45, 55, 64, 77] [] := ⟨GClOk.nil _⟩

set_option maxHeartbeats 1000000 in
theorem c22 : ACon Try.prog 22 F22 := by
  refine aconc E_ok (rs := [.tmp 2 4]) Try.func22 rfl Try.ntmps22 (by kernel_rfl) rfl (by decide) F22 (np := 1) ?_ ?_
  · intro ts h; unfold F22; split <;> first | rfl | (simp at h; done)
  intro ts H r hF hwf
  unfold F22 at hF
  split at hF <;> try (cases hF; done)
  split at hF <;> try (cases hF; done)
  rename_i t ht
  cases hF
  obtain rfl := inv_inv ht
  have hcb := cntd9_eq t
  obtain ⟨c, hc⟩ : ∃ c, cntd9 t = c := ⟨_, rfl⟩
  rw [hc] at hcb
  rw [hc]
  obtain ⟨v, is, os, k⟩ := t
  dsimp only at hcb
  have hyu : txT ⟨v, is, os, k⟩ = .st [.int .u32 (v.toNat : Int), .sq 35 (is.map inT), .sq 2 (os.map outT), .int .u32 (k.toNat : Int)] := rfl
  rw [hyu]
  by_cases h1 : 25 < (is.length : Int)
  · have e : c = false := by rw [hcb]; have : ¬ is.length ≤ 25 := by omega
                             simp [this]
    subst e
    repeat refine St h1 ct22 ?_
    exact AWP.ret (Fin trivial [] [])
  by_cases h2 : 25 < (os.length : Int)
  · have e : c = false := by rw [hcb]; have : ¬ os.length ≤ 25 := by omega
                             simp [this]
    subst e
    repeat refine St (And.intro h1 <| h2) ct22 ?_
    exact AWP.ret (Fin trivial [] [])
  have hcb' : c = (os.all okO9 && is.all okI9 && decide ((os.map cnO).sum + (is.map cnI).sum ≤ 13000)) := by
    rw [hcb]
    have e1 : is.length ≤ 25 := by omega
    have e2 : os.length ≤ 25 := by omega
    simp [e1, e2]
  repeat refine St (And.intro h1 <| h2) ct22 ?_
  refine AWP.loop (G := { p : Nat × Nat // p.1 ≤ os.length ∧ (os.take p.1).all okO9 = true ∧ p.2 = ((os.take p.1).map cnO).sum ∧ p.2 ≤ p.1 * 1100 }) (fun p => ⟨[(1, .ptr 0 0 []), (3, .t (.int .i64 (p.1.2 : Int))), (4, .t (.int .i64 (p.1.1 : Int)))], [.bx (.t (.st [.int .u32 (v.toNat : Int), .sq 35 (is.map inT), .sq 2 (os.map outT), .int .u32 (k.toNat : Int)]))]⟩) (fun p => os.length - p.1.1) ⟨(0, 0), Nat.zero_le _, rfl, rfl, Nat.le_refl _⟩ (Wt trivial [1, 3, 4] [0]) ?_
  intro ⟨⟨i, n⟩, hi, ha, hn, hn2⟩
  dsimp only at hi ha hn hn2 ⊢
  by_cases hlt : (i : Int) < (os.length : Int)
  · have hlt' : i < os.length := by omega
    have hget := out_getD os i hlt'
    have hal := all_take okO9 dOut os i hlt'
    have hbad := all_getD okO9 dOut os i hlt'
    have hsu := sum_take cnO dOut os i hlt'
    generalize os.getD i dOut = x at *
    have hcx : cnO x = x.scr.length := rfl
    by_cases hb : 1100 < (x.scr.length : Int)
    · have hx : okO9 x = false := decide_eq_false (by omega)
      have e : c = false := by rw [hcb', hbad hx]; rfl
      subst e
      repeat refine St (And.intro hlt <| And.intro hlt' <| And.intro hget <| And.intro @outT.eq_def <| hb) ct22 ?_
      exact AWP.ret (Fin trivial [] [])
    · have hx : okO9 x = true := decide_eq_true (by omega)
      rw [ha, hx] at hal
      have hw : IntKind.i64.wrap ((n : Int) + (x.scr.length : Int)) = ((n + x.scr.length : Nat) : Int) := by rw [wrap_i64 (by omega) (by omega)]; omega
      repeat refine St (And.intro hlt <| And.intro hlt' <| And.intro hget <| And.intro @outT.eq_def <| And.intro hb <| hw) ct22 ?_
      exact ⟨⟨(i + 1, n + x.scr.length), by dsimp only; omega, by dsimp only; rw [hal]; rfl, by dsimp only; omega, by dsimp only; omega⟩, (Wt trivial [1, 3, 4] [0]), by simp only; omega⟩
  obtain rfl : i = os.length := by omega
  rw [List.take_length] at ha hn
  rw [ha, Bool.true_and] at hcb'
  obtain ⟨n0, hn0, hn0b⟩ : ∃ m, n = m ∧ m ≤ 27500 := ⟨n, rfl, by omega⟩
  repeat refine St hlt ct22 ?_
  refine AWP.loop (G := { p : Nat × Nat // p.1 ≤ is.length ∧ (is.take p.1).all okI9 = true ∧ p.2 = n0 + ((is.take p.1).map cnI).sum ∧ p.2 ≤ 27500 + p.1 * 38500 }) (fun p => ⟨[(1, .ptr 0 0 []), (3, .t (.int .i64 (p.1.2 : Int))), (5, .t (.int .i64 (p.1.1 : Int)))], [.bx (.t (.st [.int .u32 (v.toNat : Int), .sq 35 (is.map inT), .sq 2 (os.map outT), .int .u32 (k.toNat : Int)]))]⟩) (fun p => is.length - p.1.1) ⟨(0, n), Nat.zero_le _, rfl, by simp [hn0], by dsimp only; omega⟩ (Wt trivial [1, 3, 5] [0]) ?_
  clear hlt
  intro ⟨⟨i, m⟩, hi, hai, hm, hm2⟩
  dsimp only at hi hai hm hm2 ⊢
  by_cases hlti : (i : Int) < (is.length : Int)
  · have hlt' : i < is.length := by omega
    have hget := in_getD is i hlt'
    have hal := all_take okI9 dIn is i hlt'
    have hbad := all_getD okI9 dIn is i hlt'
    have hsu := sum_take cnI dIn is i hlt'
    generalize is.getD i dIn = x at *
    have hxe : okI9 x = (decide (x.wit.length ≤ 35) && x.wit.all fun y => decide (y.length ≤ 1100)) := rfl
    have hcx : cnI x = (x.wit.map List.length).sum := rfl
    by_cases h30 : 35 < (x.wit.length : Int)
    · have e : c = false := by rw [hcb', hbad (by rw [hxe]; have : ¬ x.wit.length ≤ 35 := by omega
                                                  simp [this])]; rfl
      subst e
      repeat refine St (And.intro hlti <| And.intro hlt' <| And.intro hget <| And.intro @inT.eq_def <| And.intro @refT.eq_def <| h30) ct22 ?_
      exact AWP.ret (Fin trivial [] [])
    have h30' : decide (x.wit.length ≤ 35) = true := decide_eq_true (by omega)
    rw [h30', Bool.true_and] at hxe
    repeat refine St (And.intro hlti <| And.intro hlt' <| And.intro hget <| And.intro @inT.eq_def <| And.intro @refT.eq_def <| h30) ct22 ?_
    refine AWP.loop (G := { p : Nat × Nat // p.1 ≤ x.wit.length ∧ (x.wit.take p.1).all (fun y => decide (y.length ≤ 1100)) = true ∧ p.2 = m + ((x.wit.take p.1).map List.length).sum ∧ p.2 ≤ 27500 + i * 38500 + p.1 * 1100 }) (fun p => ⟨[(1, .ptr 0 0 []), (3, .t (.int .i64 (p.1.2 : Int))), (5, .t (.int .i64 (i : Int))), (6, .t (.int .i64 (p.1.1 : Int)))], [.bx (.t (.st [.int .u32 (v.toNat : Int), .sq 35 (is.map inT), .sq 2 (os.map outT), .int .u32 (k.toNat : Int)]))]⟩) (fun p => x.wit.length - p.1.1) ⟨(0, m), Nat.zero_le _, rfl, by simp, by dsimp only; omega⟩ (Wt trivial [1, 3, 5, 6] [0]) ?_
    intro ⟨⟨j, q⟩, hj, haj, hq, hq2⟩
    dsimp only at hj haj hq hq2 ⊢
    by_cases hltj : (j : Int) < (x.wit.length : Int)
    · have hltj' : j < x.wit.length := by omega
      have hgetj := map_getD x.wit j hltj'
      have halj := all_take (fun y : List UInt8 => decide (y.length ≤ 1100)) [] x.wit j hltj'
      have hbadj := all_getD (fun y : List UInt8 => decide (y.length ≤ 1100)) [] x.wit j hltj'
      have hsuj := sum_take List.length [] x.wit j hltj'
      generalize x.wit.getD j [] = y at *
      by_cases hb : 1100 < (y.length : Int)
      · have hx : decide (y.length ≤ 1100) = false := decide_eq_false (by omega)
        have e : c = false := by rw [hcb', hbad (by rw [hxe]; exact hbadj hx)]; rfl
        subst e
        repeat refine St (And.intro hlti <| And.intro hlt' <| And.intro hget <| And.intro @inT.eq_def <| And.intro @refT.eq_def <| And.intro hltj <| And.intro hltj' <| And.intro hgetj <| hb) ct22 ?_
        exact AWP.ret (Fin trivial [] [])
      · have hx : decide (y.length ≤ 1100) = true := decide_eq_true (by omega)
        rw [haj, hx] at halj
        have hw : IntKind.i64.wrap ((q : Int) + (y.length : Int)) = ((q + y.length : Nat) : Int) := by rw [wrap_i64 (by omega) (by omega)]; omega
        repeat refine St (And.intro hlti <| And.intro hlt' <| And.intro hget <| And.intro @inT.eq_def <| And.intro @refT.eq_def <| And.intro hltj <| And.intro hltj' <| And.intro hgetj <| And.intro hb <| hw) ct22 ?_
        exact ⟨⟨(j + 1, q + y.length), by dsimp only; omega, by dsimp only; rw [halj]; rfl, by dsimp only; omega, by dsimp only; omega⟩, (Wt trivial [1, 3, 5, 6] [0]), by simp only; omega⟩
    obtain rfl : j = x.wit.length := by omega
    rw [List.take_length] at haj hq
    rw [haj] at hxe
    rw [hai, hxe] at hal
    repeat refine St (And.intro hlti <| And.intro hlt' <| And.intro hget <| And.intro @inT.eq_def <| And.intro @refT.eq_def <| hltj) ct22 ?_
    exact ⟨⟨(i + 1, q), by dsimp only; omega, by dsimp only; rw [hal]; rfl, by dsimp only; omega, by dsimp only; omega⟩, (Wt trivial [1, 3, 5] [0]), by simp only; omega⟩
  obtain rfl : i = is.length := by omega
  rw [List.take_length] at hai hm
  rw [hai, Bool.true_and] at hcb'
  have hcb2 : c = decide (m ≤ 13000) := by rw [hcb', ← hn, hn0, ← hm]
  by_cases h13 : (m : Int) ≤ 13000
  · have e : c = true := by rw [hcb2]; exact decide_eq_true (by omega)
    subst e
    repeat refine St (And.intro hlti <| h13) ct22 ?_
    exact AWP.ret (Fin trivial [] [])
  · have e : c = false := by rw [hcb2]; exact decide_eq_false (by omega)
    subst e
    repeat refine St (And.intro hlti <| h13) ct22 ?_
    exact AWP.ret (Fin trivial [] [])

theorem cntd_t (t : TTx) : F22 [txT t] = some ([], .t (.bool (cntd9 t))) := by simp only [F22, inv_of txT_inj]

noncomputable def F8 : Fun
  | [y] => match inv txT y with
    | some t => some ([], .t (.bool true))
    | none => none
  | _ => none

theorem ct8 : CT [(9, ⟨[], treeG F9⟩), (17, ⟨[false], treeG F17⟩), (18, ⟨[false], treeG F18⟩), (19, ⟨[false], treeG F19⟩), (20, ⟨[false], treeG F20⟩), (21, ⟨[false], treeG F21⟩), (22, ⟨[false], treeG F22⟩), (23, ⟨[false], treeG F23⟩), (24, ⟨[false], treeG F24⟩), (25, ⟨[false], treeG F25⟩), (26, ⟨[false], treeG F26⟩), (27, ⟨[false], treeG F27⟩), (28, ⟨[false], treeG F28⟩), (29, ⟨[false], treeG F29⟩)] [0, 1, 2, 5] [(3, (List.cons (⟨1, [], [], []⟩ : Info) <| List.cons (⟨0, [7], [0], []⟩ : Info) <| List.cons (⟨1, [1], [0], []⟩ : Info) <| List.cons (⟨1, [9], [0, 2], []⟩ : Info) <| List.cons (⟨1, [1], [0], []⟩ : Info) <| List.cons (⟨1, [11], [0, 2, 3, 4], []⟩ : Info) <| List.cons (⟨0, [10, 12], [0, 2, 3, 4, 5], []⟩ : Info) <| List.cons (⟨0, [8, 13], [0, 2, 3, 4, 5], []⟩ : Info) <| List.cons (⟨0, [14], [0, 2, 3, 4, 5], []⟩ : Info) <| List.cons (⟨1, [1], [0, 2, 3, 4, 5], []⟩ : Info) <| List.cons (⟨1, [16], [0, 2, 3, 4, 5, 9], []⟩ : Info) <| List.cons (⟨1, [17], [0, 2, 3, 4, 5, 9, 10], []⟩ : Info) <| List.cons (⟨1, [1], [0, 2, 3, 4, 5], []⟩ : Info) <| List.cons (⟨1, [19], [0, 2, 3, 4, 5, 9, 10, 12], []⟩ : Info) <| List.cons (⟨1, [20], [0, 2, 3, 4, 5, 9, 10, 12, 13], []⟩ : Info) <| List.cons (⟨0, [18, 21], [0, 2, 3, 4, 5, 9, 10, 11, 12, 13, 14], []⟩ : Info) <| List.cons (⟨0, [15, 22], [0, 2, 3, 4, 5, 9, 10, 11, 12, 13, 14], []⟩ : Info) <| List.cons (⟨0, [23], [0, 2, 3, 4, 5, 9, 10, 11, 12, 13, 14], []⟩ : Info) <| List.cons (⟨1, [1], [0, 2, 3, 4, 5, 9, 10, 11, 12, 13, 14], []⟩ : Info) <| List.cons (⟨1, [25], [0, 2, 3, 4, 5, 9, 10, 11, 12, 13, 14, 18], []⟩ : Info) <| List.cons (⟨1, [26], [0, 2, 3, 4, 5, 9, 10, 11, 12, 13, 14, 18, 19], []⟩ : Info) <| List.cons (⟨1, [1], [0, 2, 3, 4, 5, 9, 10, 11, 12, 13, 14], []⟩ : Info) <| List.cons (⟨1, [28], [0, 2, 3, 4, 5, 9, 10, 11, 12, 13, 14, 18, 19, 21], []⟩ : Info) <| List.cons (⟨1, [29], [0, 2, 3, 4, 5, 9, 10, 11, 12, 13, 14, 18, 19, 21, 22], []⟩ : Info) <| List.cons (⟨0, [27, 30], [0, 2, 3, 4, 5, 9, 10, 11, 12, 13, 14, 18, 19, 20, 21, 22, 23], []⟩ : Info) <| List.cons (⟨0, [24, 31], [0, 2, 3, 4, 5, 9, 10, 11, 12, 13, 14, 18, 19, 20, 21, 22, 23], []⟩ : Info) <| List.cons (⟨0, [32], [0, 2, 3, 4, 5, 9, 10, 11, 12, 13, 14, 18, 19, 20, 21, 22, 23], []⟩ : Info) <| List.cons (⟨1, [1], [0, 2, 3, 4, 5, 9, 10, 11, 12, 13, 14, 18, 19, 20, 21, 22, 23], []⟩ : Info) <| List.cons (⟨1, [34], [0, 2, 3, 4, 5, 9, 10, 11, 12, 13, 14, 18, 19, 20, 21, 22, 23, 27], []⟩ : Info) <| List.cons (⟨1, [1], [0, 2, 3, 4, 5, 9, 10, 11, 12, 13, 14, 18, 19, 20, 21, 22, 23], []⟩ : Info) <| List.cons (⟨1, [36], [0, 2, 3, 4, 5, 9, 10, 11, 12, 13, 14, 18, 19, 20, 21, 22, 23, 27, 28, 29], []⟩ : Info) <| List.cons (⟨0, [35, 37], [0, 2, 3, 4, 5, 9, 10, 11, 12, 13, 14, 18, 19, 20, 21, 22, 23, 27, 28, 29, 30], []⟩ : Info) <| List.cons (⟨0, [33, 38], [0, 2, 3, 4, 5, 9, 10, 11, 12, 13, 14, 18, 19, 20, 21, 22, 23, 27, 28, 29, 30], []⟩ : Info) <| List.cons (⟨0, [39], [0, 2, 3, 4, 5, 9, 10, 11, 12, 13, 14, 18, 19, 20, 21, 22, 23, 27, 28, 29, 30], []⟩ : Info) <| List.cons (⟨1, [1], [0, 2, 3, 4, 5, 9, 10, 11, 12, 13, 14, 18, 19, 20, 21, 22, 23, 27, 28, 29, 30], []⟩ : Info) <| List.cons (⟨1, [41], [0, 2, 3, 4, 5, 9, 10, 11, 12, 13, 14, 18, 19, 20, 21, 22, 23, 27, 28, 29, 30, 34], []⟩ : Info) <| List.cons (⟨1, [1], [0, 2, 3, 4, 5, 9, 10, 11, 12, 13, 14, 18, 19, 20, 21, 22, 23, 27, 28, 29, 30], []⟩ : Info) <| List.cons (⟨1, [43], [0, 2, 3, 4, 5, 9, 10, 11, 12, 13, 14, 18, 19, 20, 21, 22, 23, 27, 28, 29, 30, 34, 35, 36], []⟩ : Info) <| List.cons (⟨0, [42, 44], [0, 2, 3, 4, 5, 9, 10, 11, 12, 13, 14, 18, 19, 20, 21, 22, 23, 27, 28, 29, 30, 34, 35, 36, 37], []⟩ : Info) <| List.cons (⟨0, [40, 45], [0, 2, 3, 4, 5, 9, 10, 11, 12, 13, 14, 18, 19, 20, 21, 22, 23, 27, 28, 29, 30, 34, 35, 36, 37], []⟩ : Info) <| List.cons (⟨0, [46], [0, 2, 3, 4, 5, 9, 10, 11, 12, 13, 14, 18, 19, 20, 21, 22, 23, 27, 28, 29, 30, 34, 35, 36, 37], []⟩ : Info) <| List.cons (⟨1, [1], [0, 2, 3, 4, 5, 9, 10, 11, 12, 13, 14, 18, 19, 20, 21, 22, 23, 27, 28, 29, 30, 34, 35, 36, 37], []⟩ : Info) <| List.cons (⟨1, [48], [0, 2, 3, 4, 5, 9, 10, 11, 12, 13, 14, 18, 19, 20, 21, 22, 23, 27, 28, 29, 30, 34, 35, 36, 37, 41], []⟩ : Info) <| List.cons (⟨1, [1], [0, 2, 3, 4, 5, 9, 10, 11, 12, 13, 14, 18, 19, 20, 21, 22, 23, 27, 28, 29, 30, 34, 35, 36, 37], []⟩ : Info) <| List.cons (⟨1, [50], [0, 2, 3, 4, 5, 9, 10, 11, 12, 13, 14, 18, 19, 20, 21, 22, 23, 27, 28, 29, 30, 34, 35, 36, 37, 41, 42, 43], []⟩ : Info) <| List.cons (⟨0, [49, 51], [0, 2, 3, 4, 5, 9, 10, 11, 12, 13, 14, 18, 19, 20, 21, 22, 23, 27, 28, 29, 30, 34, 35, 36, 37, 41, 42, 43, 44], []⟩ : Info) <| List.cons (⟨0, [47, 52], [0, 2, 3, 4, 5, 9, 10, 11, 12, 13, 14, 18, 19, 20, 21, 22, 23, 27, 28, 29, 30, 34, 35, 36, 37, 41, 42, 43, 44], []⟩ : Info) <| List.cons (⟨0, [53], [0, 2, 3, 4, 5, 9, 10, 11, 12, 13, 14, 18, 19, 20, 21, 22, 23, 27, 28, 29, 30, 34, 35, 36, 37, 41, 42, 43, 44], []⟩ : Info) <| []))] := ⟨(.cons c9.g (.cons c17.g (.cons c18.g (.cons c19.g (.cons c20.g (.cons c21.g (.cons c22.g (.cons c23.g (.cons c24.g (.cons c25.g (.cons c26.g (.cons c27.g (.cons c28.g (.cons c29.g (.nil _)))))))))))))))⟩

set_option maxRecDepth 20000 in
set_option maxHeartbeats 4000000 in
theorem c8 : ACon Try.prog 8 F8 := by
  refine aconc E_ok (rs := [.tmp 2 4]) Try.func8 rfl Try.ntmps8 (by kernel_rfl) rfl (by decide) F8 (np := 1) ?_ ?_
  · intro ts h; unfold F8; split <;> first | rfl | (simp at h; done)
  intro ts H r hF hwf
  unfold F8 at hF
  split at hF <;> try (cases hF; done)
  split at hF <;> try (cases hF; done)
  rename_i t ht
  cases hF
  obtain rfl := inv_inv ht
  have h0 := cntd_t t
  have h1 := check_c t
  have h2 := rcheck_c t
  have h3 := bar_t t
  have h4 := rbar_t t
  have h5 := who_t t
  have h6 := rwho_t t
  have h7 := nam_t t
  have h8 := rnam_t t
  have h9 := sea_t t
  have g1 := rsea_t t
  have g2 := wei_t t
  have g3 := rwei_t t
  have l1 := namO_len t
  have l2 := seaO_len t
  rw [txT_st] at h0 h1 h2 h3 h4 h5 h6 h7 h8 h9 g1 g2 g3 ⊢
  generalize chkE t = x1 at *
  generalize barO t = x2 at *
  generalize whoO t = x3 at *
  generalize namO t = x4 at *
  generalize seaO t = x5 at *
  generalize weiO t = x6 at *
  cases hcd : cntd9 t with
  | false =>
    rw [hcd] at h0
    repeat refine St (And.intro h0 <| @F9.eq_def) ct8 ?_
    exact AWP.ret (Fin trivial [] [])
  | true =>
    rw [hcd] at h0
    have r1 : (x1 == x1) = true := beq_self_eq_true _
    have r2 : (x2 == x2) = true := beq_self_eq_true _
    have r3 : (x3 == x3) = true := beq_self_eq_true _
    have r4 : (x4 == x4) = true := beq_self_eq_true _
    have r5 : (x5 == x5) = true := beq_self_eq_true _
    have r6 : (x6 == x6) = true := beq_self_eq_true _
    repeat refine St (And.intro h0 <| And.intro h1 <| And.intro h2 <| And.intro h3 <| And.intro h4 <| And.intro h5 <| And.intro h6 <| And.intro h7 <| And.intro h8 <| And.intro h9 <| And.intro g1 <| And.intro g2 <| And.intro g3 <| And.intro l1 <| And.intro l2 <| And.intro r1 <| And.intro r2 <| And.intro r3 <| And.intro r4 <| And.intro r5 <| And.intro r6 <| @F9.eq_def) ct8 ?_
    exact AWP.ret (Fin trivial [] [])

noncomputable def F4 : Fun
  | [x, y] => match inv txT x, inv txT y with
    | some a, some b => some ([], .t (.bool true))
    | _, _ => none
  | _ => none

theorem ct4 : CT [(9, ⟨[], treeG F9⟩), (14, ⟨[false, false], treeG F14⟩), (15, ⟨[false], treeG F15⟩), (16, ⟨[false, false], treeG F16⟩)] [0, 1, 2, 3, 4, 12] [(3, [⟨1, [], [], []⟩, ⟨0, [14], [0], []⟩, ⟨1, [2], [0], []⟩, ⟨1, [3], [0], []⟩, ⟨1, [16, 17], [0, 2, 3], []⟩, ⟨1, [2], [0], []⟩, ⟨1, [3], [0], []⟩, ⟨1, [19, 20], [0, 2, 3, 4, 5, 6], []⟩, ⟨0, [18, 21], [0, 2, 3, 4, 5, 6, 7], []⟩, ⟨0, [15, 22], [0, 2, 3, 4, 5, 6, 7], []⟩, ⟨0, [23], [0, 2, 3, 4, 5, 6, 7], []⟩, ⟨1, [2], [0, 2, 3, 4, 5, 6, 7], []⟩, ⟨1, [2], [0, 2, 3, 4, 5, 6, 7], []⟩, ⟨1, [25, 26], [0, 2, 3, 4, 5, 6, 7, 11, 12], []⟩, ⟨0, [24, 27], [0, 2, 3, 4, 5, 6, 7, 11, 12, 13], []⟩, ⟨0, [28], [0, 2, 3, 4, 5, 6, 7, 11, 12, 13], []⟩])] := ⟨(.cons c9.g (.cons c14.g (.cons c15.g (.cons c16.g (.nil _)))))⟩

set_option maxRecDepth 20000 in
set_option maxHeartbeats 4000000 in
theorem c4 : ACon Try.prog 4 F4 := by
  refine aconc E_ok (rs := [.tmp 4 4]) Try.func4 rfl Try.ntmps4 (by kernel_rfl) rfl (by decide) F4 (np := 2) ?_ ?_
  · intro ts h; unfold F4; split <;> first | rfl | (simp at h; done)
  intro ts H r hF hwf
  unfold F4 at hF
  split at hF <;> try (cases hF; done)
  split at hF <;> try (cases hF; done)
  rename_i a b ha hb
  cases hF
  obtain rfl := inv_inv ha
  obtain rfl := inv_inv hb
  have h1 := rsml_t a
  have h2 := rsml_t b
  have h3 := same_t a b
  have h4 := rsame_t a b
  have h5 := same_t a a
  rw [decide_eq_true (p := a = a) rfl] at h5
  rw [txT_st, txT_st] at h3 h4 ⊢
  rw [txT_st] at h1 h2 h5
  generalize decide (a = b) = x at *
  have r1 : (x == x) = true := beq_self_eq_true _
  cases hs1 : smallT a with
  | false =>
    rw [hs1] at h1
    repeat refine St (And.intro h1 <| @F9.eq_def) ct4 ?_
    exact AWP.ret (Fin trivial [] [])
  | true =>
    rw [hs1] at h1
    cases hs2 : smallT b with
    | false =>
      rw [hs2] at h2
      repeat refine St (And.intro h1 <| And.intro h2 <| @F9.eq_def) ct4 ?_
      exact AWP.ret (Fin trivial [] [])
    | true =>
      rw [hs2] at h2
      repeat refine St (And.intro h1 <| And.intro h2 <| And.intro h3 <| And.intro h4 <| And.intro h5 <| And.intro r1 <| @F9.eq_def) ct4 ?_
      exact AWP.ret (Fin trivial [] [])

theorem shx_forms (a : TTx) : F8 [txT a] = some ([], .t (.bool true)) := by simp only [F8, inv_of txT_inj]
theorem shx_same (a b : TTx) : F4 [txT a, txT b] = some ([], .t (.bool true)) := by simp only [F4, inv_of txT_inj]

end Go.Fw

end
