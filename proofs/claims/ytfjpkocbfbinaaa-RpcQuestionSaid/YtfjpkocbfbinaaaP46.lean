/- The abstract machine, and the contracts of the code: part 46. -/
import Derived.Test.YtfjpkocbfbinaaaFwCp

section
/- compact: bytes laid. -/
namespace Go.Fw
open Go Go.Proofs
set_option linter.unusedVariables false
set_option linter.unusedSimpArgs false

def F93 : Fun
  | [.by b] => if b.length ≤ 549755813888 then some ([.by b], .own 0) else none
  | _ => none

theorem ct93 : CT [] [0, 2] [] := ⟨GClOk.nil _⟩

theorem c93 : ACon Try.prog 93 F93 := by
  refine aconc E_ok (rs := [.tmp 2 24]) Try.func93 rfl Try.ntmps93 (by kernel_rfl) rfl (by decide) F93 (np := 1) ?_ ?_
  · intro ts h; unfold F93; split <;> first | rfl | (simp at h; done)
  intro ts H r hF hwf
  unfold F93 at hF
  split at hF <;> try (cases hF; done)
  rename_i b
  split at hF
  case isFalse => cases hF
  rename_i hc
  have hb := hc
  cases hF
  repeat refine St trivial ct93 ?_
  exact AWP.ret (Fin trivial [] [0])

def F83 : Fun
  | [.by b, .int .u8 n, .int .i64 m] => if b.length ≤ 549755813000 ∧ 0 ≤ m ∧ m ≤ 16 then some ([.by (b ++ le m.toNat n)], .own 0) else none
  | _ => none

theorem ct83 : CT [] [0, 1, 2, 6, 7, 8, 21, 22, 23] [] := ⟨GClOk.nil _⟩

theorem c83 : ACon Try.prog 83 F83 := by
  refine aconc E_ok (rs := [.tmp 6 24]) Try.func83 rfl Try.ntmps83 (by kernel_rfl) rfl (by decide) F83 (np := 3) ?_ ?_
  · intro ts h; unfold F83; split <;> first | rfl | (simp at h; done)
  intro ts H r hF hwf
  unfold F83 at hF
  split at hF <;> try (cases hF; done)
  rename_i b n m
  split at hF
  case isFalse => cases hF
  rename_i hc
  obtain ⟨hb, h0, h1⟩ := hc
  cases hF
  have hn := inK_u8 (hwf (.int .u8 n) (by simp))
  repeat refine St trivial ct83 ?_
  refine AWP.loop (G := { k : Nat // k ≤ m.toNat }) (fun k => ⟨[(7, .own 0), (8, .t (.int .u64 (shrB k.1 n))), (21, .t (.int .i64 m)), (22, .t (.int .i64 (k.1 : Int)))], [.by (b ++ le k.1 n)]⟩)
    (fun k => m.toNat - k.1) ⟨0, by omega⟩ (Wt (And.intro (And.intro @shrB.eq_1 <| @shrB.eq_2) <| (And.intro @le.eq_1 <| @le.eq_2)) [7, 8, 21, 22] [0]) ?_
  intro ⟨k, hk⟩
  dsimp only
  by_cases hlt : (k : Int) < m
  · have hl : (b ++ le k n).length ≤ 549755813100 := by simp [le_len]; omega
    have hr := shrB_range k n (by omega) (by omega)
    repeat refine St (And.intro @shr8 <| @le_len) ct83 ?_
    exact ⟨⟨k + 1, by omega⟩, (Wt (And.intro (And.intro @shrB.eq_1 <| @shrB.eq_2) <| And.intro (And.intro @le.eq_1 <| @le.eq_2) <| @List.append_assoc.{0}) [7, 8, 21, 22] [2]), by simp only; omega⟩
  · obtain rfl : k = m.toNat := by omega
    repeat refine St trivial ct83 ?_
    exact AWP.ret (Fin trivial [] [0])

def F84 : Fun
  | [.by b, .int .u16 n, .int .i64 m] => if b.length ≤ 549755813000 ∧ 0 ≤ m ∧ m ≤ 16 then some ([.by (b ++ le m.toNat n)], .own 0) else none
  | _ => none

theorem ct84 : CT [] [0, 1, 2, 6, 7, 8, 21, 22, 23] [] := ⟨GClOk.nil _⟩

theorem c84 : ACon Try.prog 84 F84 := by
  refine aconc E_ok (rs := [.tmp 6 24]) Try.func84 rfl Try.ntmps84 (by kernel_rfl) rfl (by decide) F84 (np := 3) ?_ ?_
  · intro ts h; unfold F84; split <;> first | rfl | (simp at h; done)
  intro ts H r hF hwf
  unfold F84 at hF
  split at hF <;> try (cases hF; done)
  rename_i b n m
  split at hF
  case isFalse => cases hF
  rename_i hc
  obtain ⟨hb, h0, h1⟩ := hc
  cases hF
  have hn := inK_u16 (hwf (.int .u16 n) (by simp))
  repeat refine St trivial ct84 ?_
  refine AWP.loop (G := { k : Nat // k ≤ m.toNat }) (fun k => ⟨[(7, .own 0), (8, .t (.int .u64 (shrB k.1 n))), (21, .t (.int .i64 m)), (22, .t (.int .i64 (k.1 : Int)))], [.by (b ++ le k.1 n)]⟩)
    (fun k => m.toNat - k.1) ⟨0, by omega⟩ (Wt (And.intro (And.intro @shrB.eq_1 <| @shrB.eq_2) <| (And.intro @le.eq_1 <| @le.eq_2)) [7, 8, 21, 22] [0]) ?_
  intro ⟨k, hk⟩
  dsimp only
  by_cases hlt : (k : Int) < m
  · have hl : (b ++ le k n).length ≤ 549755813100 := by simp [le_len]; omega
    have hr := shrB_range k n (by omega) (by omega)
    repeat refine St (And.intro @shr8 <| @le_len) ct84 ?_
    exact ⟨⟨k + 1, by omega⟩, (Wt (And.intro (And.intro @shrB.eq_1 <| @shrB.eq_2) <| And.intro (And.intro @le.eq_1 <| @le.eq_2) <| @List.append_assoc.{0}) [7, 8, 21, 22] [2]), by simp only; omega⟩
  · obtain rfl : k = m.toNat := by omega
    repeat refine St trivial ct84 ?_
    exact AWP.ret (Fin trivial [] [0])

def F81 : Fun
  | [.by b, .int .u32 n, .int .i64 m] => if b.length ≤ 549755813000 ∧ 0 ≤ m ∧ m ≤ 16 then some ([.by (b ++ le m.toNat n)], .own 0) else none
  | _ => none

theorem ct81 : CT [] [0, 1, 2, 6, 7, 8, 21, 22, 23] [] := ⟨GClOk.nil _⟩

theorem c81 : ACon Try.prog 81 F81 := by
  refine aconc E_ok (rs := [.tmp 6 24]) Try.func81 rfl Try.ntmps81 (by kernel_rfl) rfl (by decide) F81 (np := 3) ?_ ?_
  · intro ts h; unfold F81; split <;> first | rfl | (simp at h; done)
  intro ts H r hF hwf
  unfold F81 at hF
  split at hF <;> try (cases hF; done)
  rename_i b n m
  split at hF
  case isFalse => cases hF
  rename_i hc
  obtain ⟨hb, h0, h1⟩ := hc
  cases hF
  have hn := inK_u32 (hwf (.int .u32 n) (by simp))
  repeat refine St trivial ct81 ?_
  refine AWP.loop (G := { k : Nat // k ≤ m.toNat }) (fun k => ⟨[(7, .own 0), (8, .t (.int .u64 (shrB k.1 n))), (21, .t (.int .i64 m)), (22, .t (.int .i64 (k.1 : Int)))], [.by (b ++ le k.1 n)]⟩)
    (fun k => m.toNat - k.1) ⟨0, by omega⟩ (Wt (And.intro (And.intro @shrB.eq_1 <| @shrB.eq_2) <| (And.intro @le.eq_1 <| @le.eq_2)) [7, 8, 21, 22] [0]) ?_
  intro ⟨k, hk⟩
  dsimp only
  by_cases hlt : (k : Int) < m
  · have hl : (b ++ le k n).length ≤ 549755813100 := by simp [le_len]; omega
    have hr := shrB_range k n (by omega) (by omega)
    repeat refine St (And.intro @shr8 <| @le_len) ct81 ?_
    exact ⟨⟨k + 1, by omega⟩, (Wt (And.intro (And.intro @shrB.eq_1 <| @shrB.eq_2) <| And.intro (And.intro @le.eq_1 <| @le.eq_2) <| @List.append_assoc.{0}) [7, 8, 21, 22] [2]), by simp only; omega⟩
  · obtain rfl : k = m.toNat := by omega
    repeat refine St trivial ct81 ?_
    exact AWP.ret (Fin trivial [] [0])

def F82 : Fun
  | [.by b, .int .u64 n, .int .i64 m] => if b.length ≤ 549755813000 ∧ 0 ≤ m ∧ m ≤ 16 then some ([.by (b ++ le m.toNat n)], .own 0) else none
  | _ => none

theorem ct82 : CT [] [0, 1, 2, 6, 7, 8, 20, 21, 22] [] := ⟨GClOk.nil _⟩

theorem c82 : ACon Try.prog 82 F82 := by
  refine aconc E_ok (rs := [.tmp 6 24]) Try.func82 rfl Try.ntmps82 (by kernel_rfl) rfl (by decide) F82 (np := 3) ?_ ?_
  · intro ts h; unfold F82; split <;> first | rfl | (simp at h; done)
  intro ts H r hF hwf
  unfold F82 at hF
  split at hF <;> try (cases hF; done)
  rename_i b n m
  split at hF
  case isFalse => cases hF
  rename_i hc
  obtain ⟨hb, h0, h1⟩ := hc
  cases hF
  have hn := inK_u64 (hwf (.int .u64 n) (by simp))
  repeat refine St trivial ct82 ?_
  refine AWP.loop (G := { k : Nat // k ≤ m.toNat }) (fun k => ⟨[(7, .own 0), (8, .t (.int .u64 (shrB k.1 n))), (20, .t (.int .i64 m)), (21, .t (.int .i64 (k.1 : Int)))], [.by (b ++ le k.1 n)]⟩)
    (fun k => m.toNat - k.1) ⟨0, by omega⟩ (Wt (And.intro (And.intro @shrB.eq_1 <| @shrB.eq_2) <| (And.intro @le.eq_1 <| @le.eq_2)) [7, 8, 20, 21] [0]) ?_
  intro ⟨k, hk⟩
  dsimp only
  by_cases hlt : (k : Int) < m
  · have hl : (b ++ le k n).length ≤ 549755813100 := by simp [le_len]; omega
    have hr := shrB_range k n (by omega) (by omega)
    repeat refine St (And.intro @shr8 <| @le_len) ct82 ?_
    exact ⟨⟨k + 1, by omega⟩, (Wt (And.intro (And.intro @shrB.eq_1 <| @shrB.eq_2) <| And.intro (And.intro @le.eq_1 <| @le.eq_2) <| @List.append_assoc.{0}) [7, 8, 20, 21] [2]), by simp only; omega⟩
  · obtain rfl : k = m.toNat := by omega
    repeat refine St trivial ct82 ?_
    exact AWP.ret (Fin trivial [] [0])

def F66 : Fun
  | [.by b, .int .u32 n] => if b.length ≤ 549755812000 then some ([.by (b ++ le 4 n)], .own 0) else none
  | _ => none

theorem ct66 : CT [(81, ⟨[false, false, false], treeG F81⟩)] [0, 1, 4] [] := ⟨(.cons c81.g (.nil _))⟩

theorem c66 : ACon Try.prog 66 F66 := by
  refine aconc E_ok (rs := [.tmp 4 24]) Try.func66 rfl Try.ntmps66 (by kernel_rfl) rfl (by decide) F66 (np := 2) ?_ ?_
  · intro ts h; unfold F66; split <;> first | rfl | (simp at h; done)
  intro ts H r hF hwf
  unfold F66 at hF
  split at hF <;> try (cases hF; done)
  rename_i b n
  split at hF
  case isFalse => cases hF
  rename_i hc
  have hb := hc
  cases hF
  have h : F81 [.by b, .int .u32 n, .int .i64 4] = some ([.by (b ++ le 4 n)], .own 0) := if_pos (by omega)
  repeat refine St h ct66 ?_
  exact AWP.ret (Fin trivial [] [0])

def F67 : Fun
  | [.by b, .int .u64 n] => if b.length ≤ 549755812000 then some ([.by (b ++ le 8 n)], .own 0) else none
  | _ => none

theorem ct67 : CT [(82, ⟨[false, false, false], treeG F82⟩)] [0, 1, 4] [] := ⟨(.cons c82.g (.nil _))⟩

theorem c67 : ACon Try.prog 67 F67 := by
  refine aconc E_ok (rs := [.tmp 4 24]) Try.func67 rfl Try.ntmps67 (by kernel_rfl) rfl (by decide) F67 (np := 2) ?_ ?_
  · intro ts h; unfold F67; split <;> first | rfl | (simp at h; done)
  intro ts H r hF hwf
  unfold F67 at hF
  split at hF <;> try (cases hF; done)
  rename_i b n
  split at hF
  case isFalse => cases hF
  rename_i hc
  have hb := hc
  cases hF
  have h : F82 [.by b, .int .u64 n, .int .i64 8] = some ([.by (b ++ le 8 n)], .own 0) := if_pos (by omega)
  repeat refine St h ct67 ?_
  exact AWP.ret (Fin trivial [] [0])

theorem put64_c {b : List UInt8} (n : Int) (h : b.length ≤ 549755812000) : F67 [.by b, .int .u64 n] = some ([.by (b ++ le 8 n)], .own 0) := if_pos h
theorem put32_c {b : List UInt8} (n : Int) (h : b.length ≤ 549755812000) : F66 [.by b, .int .u32 n] = some ([.by (b ++ le 4 n)], .own 0) := if_pos h
def F70 : Fun
  | [.by b, .int .u64 n] => if b.length ≤ 549755812000 then some ([.by (b ++ sizeB n)], .own 0) else none
  | _ => none

theorem ct70 : CT [(81, ⟨[false, false, false], treeG F81⟩), (82, ⟨[false, false, false], treeG F82⟩), (83, ⟨[false, false, false], treeG F83⟩), (84, ⟨[false, false, false], treeG F84⟩)] [0, 1, 4, 5, 12, 20] [] := ⟨(.cons c81.g (.cons c82.g (.cons c83.g (.cons c84.g (.nil _)))))⟩

theorem c70 : ACon Try.prog 70 F70 := by
  refine aconc E_ok (rs := [.tmp 4 24]) Try.func70 rfl Try.ntmps70 (by kernel_rfl) rfl (by decide) F70 (np := 2) ?_ ?_
  · intro ts h; unfold F70; split <;> first | rfl | (simp at h; done)
  intro ts H r hF hwf
  unfold F70 at hF
  split at hF <;> try (cases hF; done)
  rename_i b n
  split at hF
  case isFalse => cases hF
  rename_i hc
  have hb := hc
  cases hF
  have hn := inK_u64 (hwf (.int .u64 n) (by simp))
  have h8 : ∀ c : Int, F83 [.by b, .int .u8 c, .int .i64 1] = some ([.by (b ++ le 1 c)], .own 0) := fun c => if_pos (by omega)
  have hl : ∀ c : Int, (b ++ le 1 c).length ≤ 549755813000 := fun c => by simp [le_len]; omega
  have h16 : ∀ c d : Int, F84 [.by (b ++ le 1 c), .int .u16 d, .int .i64 2] = some ([.by (b ++ le 1 c ++ le 2 d)], .own 0) := fun c d => if_pos ⟨hl c, by omega⟩
  have h32 : ∀ c d : Int, F81 [.by (b ++ le 1 c), .int .u32 d, .int .i64 4] = some ([.by (b ++ le 1 c ++ le 4 d)], .own 0) := fun c d => if_pos ⟨hl c, by omega⟩
  have h64 : ∀ c d : Int, F82 [.by (b ++ le 1 c), .int .u64 d, .int .i64 8] = some ([.by (b ++ le 1 c ++ le 8 d)], .own 0) := fun c d => if_pos ⟨hl c, by omega⟩
  by_cases h1 : n < 253
  · have hw : IntKind.u8.wrap n = n := wrap_u8 (by omega) (by omega)
    repeat refine St (And.intro hw <| h8) ct70 ?_
    exact AWP.ret (Fin (And.intro @sizeB.eq_def <| h1) [] [0])
  by_cases h2 : n < 65536
  · have hw : IntKind.u16.wrap n = n := wrap_u16 (by omega) (by omega)
    repeat refine St (And.intro hw <| And.intro h8 <| h16) ct70 ?_
    exact AWP.ret (Fin (And.intro @sizeB.eq_def <| And.intro h1 <| And.intro h2 <| @List.append_assoc.{0}) [] [1])
  by_cases h3 : n < 4294967296
  · have hw : IntKind.u32.wrap n = n := wrap_u32 (by omega) (by omega)
    repeat refine St (And.intro hw <| And.intro h8 <| h32) ct70 ?_
    exact AWP.ret (Fin (And.intro @sizeB.eq_def <| And.intro h1 <| And.intro h2 <| And.intro h3 <| @List.append_assoc.{0}) [] [1])
  repeat refine St (And.intro h8 <| h64) ct70 ?_
  exact AWP.ret (Fin (And.intro @sizeB.eq_def <| And.intro h1 <| And.intro h2 <| And.intro h3 <| @List.append_assoc.{0}) [] [1])

theorem putsize_c {b : List UInt8} (n : Int) (h : b.length ≤ 549755812000) : F70 [.by b, .int .u64 n] = some ([.by (b ++ sizeB n)], .own 0) := if_pos h

def F68 : Fun
  | [.by b, .by x] => if b.length + x.length ≤ 549755800000 then some ([.by (b ++ sizeB x.length ++ x)], .own 0) else none
  | _ => none

theorem ct68 : CT [(70, ⟨[false, false], treeG F70⟩)] [0, 1, 4] [] := ⟨(.cons c70.g (.nil _))⟩

theorem c68 : ACon Try.prog 68 F68 := by
  refine aconc E_ok (rs := [.tmp 4 24]) Try.func68 rfl Try.ntmps68 (by kernel_rfl) rfl (by decide) F68 (np := 2) ?_ ?_
  · intro ts h; unfold F68; split <;> first | rfl | (simp at h; done)
  intro ts H r hF hwf
  unfold F68 at hF
  split at hF <;> try (cases hF; done)
  rename_i b x
  split at hF
  case isFalse => cases hF
  rename_i hc
  have hb := hc
  cases hF
  have hs := sizeB_len (x.length : Int)
  have h : F70 [.by b, .int .u64 (x.length : Int)] = some ([.by (b ++ sizeB x.length)], .own 0) := if_pos (by omega)
  have hl : (b ++ sizeB x.length).length ≤ 549755812000 := by simp; omega
  repeat refine St h ct68 ?_
  exact AWP.ret (Fin trivial [] [1])

theorem putbytes_c {b x : List UInt8} (h : b.length + x.length ≤ 549755800000) : F68 [.by b, .by x] = some ([.by (b ++ sizeB x.length ++ x)], .own 0) := if_pos h

end Go.Fw

end

section
/- compact: bytes taken apart. -/
namespace Go.Fw
open Go Go.Proofs
set_option linter.unusedVariables false
set_option linter.unusedSimpArgs false

def F92 : Fun
  | [.by b, .int .i64 n] => some ([], .tup [.t (.by (spA b n)), .t (.by (spB b n)), .t (.int .i64 (spE b n))])
  | _ => none

theorem ct92 : CT [] [0, 1, 4, 5, 6, 7, 10] [(5, [⟨0, [0], [], []⟩, ⟨0, [1], [], []⟩, ⟨1, [15, 16], [], []⟩, ⟨0, [0], [], []⟩, ⟨0, [1], [], []⟩, ⟨1, [18, 19], [], []⟩, ⟨0, [17], [2], []⟩, ⟨0, [20], [2, 5], []⟩, ⟨0, [], [2, 5], []⟩])] := ⟨GClOk.nil _⟩

theorem c92 : ACon Try.prog 92 F92 := by
  refine aconc E_ok (rs := [.tmp 4 24, .tmp 5 24, .tmp 6 28]) Try.func92 rfl Try.ntmps92 (by kernel_rfl) rfl (by decide) F92 (np := 2) ?_ ?_
  · intro ts h; unfold F92; split <;> first | rfl | (simp at h; done)
  intro ts H r hF hwf
  unfold F92 at hF
  split at hF <;> try (cases hF; done)
  rename_i b n
  cases hF
  by_cases h1 : n < 0
  · repeat refine St trivial ct92 ?_
    exact AWP.ret (Fin (And.intro @spA.eq_def <| And.intro @spB.eq_def <| And.intro @spE.eq_def <| h1) [] [])
  by_cases h2 : (b.length : Int) < n
  · repeat refine St trivial ct92 ?_
    exact AWP.ret (Fin (And.intro @spA.eq_def <| And.intro @spB.eq_def <| And.intro @spE.eq_def <| And.intro h1 <| h2) [] [])
  repeat refine St trivial ct92 ?_
  exact AWP.ret (Fin (And.intro @spA.eq_def <| And.intro @spB.eq_def <| And.intro @spE.eq_def <| And.intro h1 <| h2) [] [])

def F85 : Fun
  | [.by b, .int .i64 n] => if b.length ≤ 549755813000 then some ([.by (spA b n)], .tup [.own 0, .t (.by (spB b n)), .t (.int .i64 (spE b n))]) else none
  | _ => none

theorem ct85 : CT [(92, ⟨[false, false], treeG F92⟩), (93, ⟨[false], treeG F93⟩)] [0, 1, 4, 5, 6, 7, 8, 9] [] := ⟨(.cons c92.g (.cons c93.g (.nil _)))⟩

theorem c85 : ACon Try.prog 85 F85 := by
  refine aconc E_ok (rs := [.tmp 4 24, .tmp 5 24, .tmp 6 28]) Try.func85 rfl Try.ntmps85 (by kernel_rfl) rfl (by decide) F85 (np := 2) ?_ ?_
  · intro ts h; unfold F85; split <;> first | rfl | (simp at h; done)
  intro ts H r hF hwf
  unfold F85 at hF
  split at hF <;> try (cases hF; done)
  rename_i b n
  split at hF
  case isFalse => cases hF
  rename_i hc
  have hb := hc
  cases hF
  have h1 := spA_len b n
  have h2 := spB_len b n
  have ha : F93 [.by (spA b n)] = some ([.by (spA b n)], .own 0) := if_pos (by omega)
  have hb : F93 [.by (spB b n)] = some ([.by (spB b n)], .own 0) := if_pos (by omega)
  repeat refine St (And.intro @F92.eq_def <| And.intro ha <| hb) ct85 ?_
  exact AWP.ret (Fin trivial [1] [0])

theorem take_c {b : List UInt8} (n : Int) (h : b.length ≤ 549755813000) : F85 [.by b, .int .i64 n] = some ([.by (spA b n)], .tup [.own 0, .t (.by (spB b n)), .t (.int .i64 (spE b n))]) := if_pos h

def F94 : Fun
  | [.by b, .int .i64 n] => if n ≤ 8 then some ([], .tup [.t (.int .u64 (num (spA b n))), .t (.by (spB b n)), .t (.int .i64 (spE b n))]) else none
  | _ => none

theorem ct94 : CT [(92, ⟨[false, false], treeG F92⟩)] [0, 1, 4, 5, 6, 7, 8, 9, 10, 11, 20, 21, 22] [] := ⟨(.cons c92.g (.nil _))⟩

theorem c94 : ACon Try.prog 94 F94 := by
  refine aconc E_ok (rs := [.tmp 4 40, .tmp 5 24, .tmp 6 28]) Try.func94 rfl Try.ntmps94 (by kernel_rfl) rfl (by decide) F94 (np := 2) ?_ ?_
  · intro ts h; unfold F94; split <;> first | rfl | (simp at h; done)
  intro ts H r hF hwf
  unfold F94 at hF
  split at hF <;> try (cases hF; done)
  rename_i b n
  split at hF
  case isFalse => cases hF
  rename_i hc
  have hn := hc
  cases hF
  have h8 := spA_le b n 8 hn
  generalize hx : spA b n = x at h8
  repeat refine St (And.intro @F92.eq_def <| hx) ct94 ?_
  have hz : num (x.take 0) = 0 := by simp [num]
  refine AWP.loop (G := { k : Nat // k ≤ x.length }) (fun k => ⟨[(7, .t (.by x)), (8, .t (.by (spB b n))), (9, .t (.int .i64 (spE b n))), (10, .t (.int .u64 (num (x.take k.1)))), (20, .t (.int .i64 (x.length : Int))), (21, .t (.int .i64 (k.1 : Int)))], []⟩)
    (fun k => x.length - k.1) ⟨0, by omega⟩ (Wt (And.intro hz <| (And.intro @num.eq_1 <| @num.eq_2)) [7, 8, 9, 10, 20, 21] []) ?_
  intro ⟨k, hk⟩
  dsimp only
  by_cases hlt : (k : Int) < (x.length : Int)
  · have hd := num_take x k (by omega)
    have h88 := num_lt8 (x.take (k + 1)) (by simp; omega)
    have hp := num_lt (x.take k)
    have htl : (x.take k).length = k := by simp; omega
    rw [htl] at hp
    have hc := (x.getD k 0).toNat_lt
    have e1 : IntKind.i64.wrap (8 * (k : Int)) = ((8 * k : Nat) : Int) := by rw [wrap_i64 (by omega) (by omega)]; omega
    have e2 : IntKind.u64.wrap (((x.getD k 0).toNat : Int) * 2 ^ min (8 * k) IntKind.u64.bits) = (((x.getD k 0).toNat * 256 ^ k : Nat) : Int) := by
      have := shl_step (x.getD k 0).toNat k (by omega) (by omega)
      simp only [arith, Int.toNat_natCast] at this
      rw [if_neg (by omega)] at this
      have h1 : min (8 * k) IntKind.u64.bits = min (8 * k) 64 := rfl
      simpa using this
    have e3 : abits .or .u64 (num (x.take k) : Int) (((x.getD k 0).toNat * 256 ^ k : Nat) : Int) = ((num (x.take (k + 1)) : Nat) : Int) := by
      have := or_step (num (x.take k)) (x.getD k 0).toNat k hp (by omega)
      rw [← hd] at this
      simpa only [arith, Option.some.injEq, T.int.injEq, true_and] using this
    have e0 : ¬ ((8 * k : Nat) : Int) < 0 := by omega
    have hkx : k < x.length := by omega
    have e4 : IntKind.u64.wrap ((x.getD k 0).toNat : Int) = ((x.getD k 0).toNat : Int) := wrap_u64 (by omega) (by omega)
    repeat refine St (And.intro hkx <| And.intro e0 <| And.intro e1 <| And.intro e2 <| And.intro e3 <| e4) ct94 ?_
    exact ⟨⟨k + 1, by omega⟩, (Wt trivial [7, 8, 9, 10, 20, 21] []), by simp only; omega⟩
  · obtain rfl : k = x.length := by omega
    repeat refine St trivial ct94 ?_
    exact AWP.ret (Fin (@List.take_length.{0}) [] [])

theorem read_c (l : List UInt8) (n : Int) (h : n ≤ 8) : F94 [.by l, .int .i64 n] = some ([], .tup [.t (.int .u64 (num (spA l n))), .t (.by (spB l n)), .t (.int .i64 (spE l n))]) := if_pos h

def F87 : Fun
  | [.by b] => if b.length ≤ 549755813000 then some ([], .tup [.t (.int .u32 (num (spA b 4))), .t (.by (spB b 4)), .t (.int .i64 (spE b 4))]) else none
  | _ => none

theorem ct87 : CT [(93, ⟨[false], treeG F93⟩), (94, ⟨[false, false], treeG F94⟩)] [0, 2, 3, 4, 5, 6, 7] [] := ⟨(.cons c93.g (.cons c94.g (.nil _)))⟩

theorem c87 : ACon Try.prog 87 F87 := by
  refine aconc E_ok (rs := [.tmp 2 23, .tmp 3 24, .tmp 4 28]) Try.func87 rfl Try.ntmps87 (by kernel_rfl) rfl (by decide) F87 (np := 1) ?_ ?_
  · intro ts h; unfold F87; split <;> first | rfl | (simp at h; done)
  intro ts H r hF hwf
  unfold F87 at hF
  split at hF <;> try (cases hF; done)
  rename_i b
  split at hF
  case isFalse => cases hF
  rename_i hc
  have hb := hc
  cases hF
  have hl := spB_len b 4
  have h4 := num_lt4 (spA b 4) (spA_le b 4 4 (by omega))
  have hw : IntKind.u32.wrap (num (spA b 4) : Int) = num (spA b 4) := wrap_u32 (by omega) (by omega)
  have h1 := read_c b 4 (by omega)
  have h2 : F93 [.by (spB b 4)] = some ([.by (spB b 4)], .own 0) := if_pos (by omega)
  repeat refine St (And.intro h1 <| And.intro h2 <| hw) ct87 ?_
  exact AWP.ret (Fin trivial [0] [])

def F88 : Fun
  | [.by b] => if b.length ≤ 549755813000 then some ([], .tup [.t (.int .u64 (num (spA b 8))), .t (.by (spB b 8)), .t (.int .i64 (spE b 8))]) else none
  | _ => none

theorem ct88 : CT [(93, ⟨[false], treeG F93⟩), (94, ⟨[false, false], treeG F94⟩)] [0, 2, 3, 4, 5, 6, 7] [] := ⟨(.cons c93.g (.cons c94.g (.nil _)))⟩

theorem c88 : ACon Try.prog 88 F88 := by
  refine aconc E_ok (rs := [.tmp 2 40, .tmp 3 24, .tmp 4 28]) Try.func88 rfl Try.ntmps88 (by kernel_rfl) rfl (by decide) F88 (np := 1) ?_ ?_
  · intro ts h; unfold F88; split <;> first | rfl | (simp at h; done)
  intro ts H r hF hwf
  unfold F88 at hF
  split at hF <;> try (cases hF; done)
  rename_i b
  split at hF
  case isFalse => cases hF
  rename_i hc
  have hb := hc
  cases hF
  have hl := spB_len b 8
  have h4 := num_lt8 (spA b 8) (spA_le b 8 8 (by omega))
  have hw : IntKind.u64.wrap (num (spA b 8) : Int) = num (spA b 8) := wrap_u64 (by omega) (by omega)
  have h1 := read_c b 8 (by omega)
  have h2 : F93 [.by (spB b 8)] = some ([.by (spB b 8)], .own 0) := if_pos (by omega)
  repeat refine St (And.intro h1 <| And.intro h2 <| hw) ct88 ?_
  exact AWP.ret (Fin trivial [0] [])

theorem take64_c {b : List UInt8} (h : b.length ≤ 549755813000) : F88 [.by b] = some ([], .tup [.t (.int .u64 (num (spA b 8))), .t (.by (spB b 8)), .t (.int .i64 (spE b 8))]) := if_pos h
theorem take32_c {b : List UInt8} (h : b.length ≤ 549755813000) : F87 [.by b] = some ([], .tup [.t (.int .u32 (num (spA b 4))), .t (.by (spB b 4)), .t (.int .i64 (spE b 4))]) := if_pos h
def F96 : Fun
  | [.by b] => some ([], .tup [.t (.int .u64 ((sz b).1 : Nat)), .t (.by (sz b).2.1), .t (.int .i64 (sz b).2.2)])
  | _ => none

theorem ct96 : CT [(94, ⟨[false, false], treeG F94⟩)] [0, 2, 3, 4, 5, 6, 7, 8, 9, 10, 18, 20, 23, 25, 27, 36, 40] [] := ⟨(.cons c94.g (.nil _))⟩

set_option maxHeartbeats 2000000 in
theorem c96 : ACon Try.prog 96 F96 := by
  refine aconc E_ok (rs := [.tmp 2 40, .tmp 3 24, .tmp 4 28]) Try.func96 rfl Try.ntmps96 (by kernel_rfl) rfl (by decide) F96 (np := 1) ?_ ?_
  · intro ts h; unfold F96; split <;> first | rfl | (simp at h; done)
  intro ts H r hF hwf
  unfold F96 at hF
  split at hF <;> try (cases hF; done)
  rename_i b
  cases hF
  have r1 := read_c b 1 (by omega)
  have r2 := read_c (spB b 1) 2 (by omega)
  have r4 := read_c (spB b 1) 4 (by omega)
  have r8 := read_c (spB b 1) 8 (by omega)
  have hsz := sz.eq_1 b
  generalize sz b = R at *
  generalize spB b 1 = y at *
  by_cases h1 : spE b 1 = 0
  case neg =>
    simp only [h1, ne_eq, not_false_eq_true, if_true] at hsz
    repeat refine St r1 ct96 ?_
    exact AWP.ret (Fin hsz [] [])
  simp only [h1, ne_eq, not_true_eq_false, if_false] at hsz
  rw [h1] at r1
  obtain ⟨x, hx⟩ : ∃ x : Nat, num (spA b 1) = x := ⟨_, rfl⟩
  rw [hx] at hsz r1
  by_cases h253 : x = 253
  case pos =>
    subst h253
    simp only [Nat.reduceEqDiff, if_true, if_false] at hsz
    unfold rdR at hsz
    by_cases k1 : spE y 2 = 0
    case neg =>
      simp only [k1, ne_eq, not_false_eq_true, if_true] at hsz
      repeat refine St (And.intro r1 <| r2) ct96 ?_
      exact AWP.ret (Fin hsz [] [])
    simp only [k1, ne_eq, not_true_eq_false, if_false] at hsz
    rw [k1] at r2
    split at hsz
    · repeat refine St (And.intro r1 <| r2) ct96 ?_
      exact AWP.ret (Fin hsz [] [])
    · repeat refine St (And.intro r1 <| r2) ct96 ?_
      exact AWP.ret (Fin hsz [] [])
  by_cases h254 : x = 254
  case pos =>
    subst h254
    simp only [Nat.reduceEqDiff, if_true, if_false] at hsz
    unfold rdR at hsz
    by_cases k1 : spE y 4 = 0
    case neg =>
      simp only [k1, ne_eq, not_false_eq_true, if_true] at hsz
      repeat refine St (And.intro r1 <| r4) ct96 ?_
      exact AWP.ret (Fin hsz [] [])
    simp only [k1, ne_eq, not_true_eq_false, if_false] at hsz
    rw [k1] at r4
    split at hsz
    · repeat refine St (And.intro r1 <| r4) ct96 ?_
      exact AWP.ret (Fin hsz [] [])
    · repeat refine St (And.intro r1 <| r4) ct96 ?_
      exact AWP.ret (Fin hsz [] [])
  by_cases h255 : x = 255
  case pos =>
    subst h255
    simp only [Nat.reduceEqDiff, if_true, if_false] at hsz
    unfold rdR at hsz
    by_cases k1 : spE y 8 = 0
    case neg =>
      simp only [k1, ne_eq, not_false_eq_true, if_true] at hsz
      repeat refine St (And.intro r1 <| r8) ct96 ?_
      exact AWP.ret (Fin hsz [] [])
    simp only [k1, ne_eq, not_true_eq_false, if_false] at hsz
    rw [k1] at r8
    split at hsz
    · repeat refine St (And.intro r1 <| r8) ct96 ?_
      exact AWP.ret (Fin hsz [] [])
    · repeat refine St (And.intro r1 <| r8) ct96 ?_
      exact AWP.ret (Fin hsz [] [])
  simp only [h253, h254, h255, if_false] at hsz
  repeat refine St r1 ct96 ?_
  exact AWP.ret (Fin hsz [] [])

def F91 : Fun
  | [.by b] => if b.length ≤ 549755813000 then some ([], .tup [.t (.int .u64 ((sz b).1 : Nat)), .t (.by (sz b).2.1), .t (.int .i64 (sz b).2.2)]) else none
  | _ => none

theorem ct91 : CT [(93, ⟨[false], treeG F93⟩), (96, ⟨[false], treeG F96⟩)] [0, 2, 3, 4, 5, 6, 7] [] := ⟨(.cons c93.g (.cons c96.g (.nil _)))⟩

theorem c91 : ACon Try.prog 91 F91 := by
  refine aconc E_ok (rs := [.tmp 2 40, .tmp 3 24, .tmp 4 28]) Try.func91 rfl Try.ntmps91 (by kernel_rfl) rfl (by decide) F91 (np := 1) ?_ ?_
  · intro ts h; unfold F91; split <;> first | rfl | (simp at h; done)
  intro ts H r hF hwf
  unfold F91 at hF
  split at hF <;> try (cases hF; done)
  rename_i b
  split at hF
  case isFalse => cases hF
  rename_i hc
  have hb := hc
  cases hF
  have hl := sz_len b
  have h2 : F93 [.by (sz b).2.1] = some ([.by (sz b).2.1], .own 0) := if_pos (by omega)
  repeat refine St (And.intro @F96.eq_def <| h2) ct91 ?_
  exact AWP.ret (Fin trivial [0] [])

theorem takesize_c {b : List UInt8} (h : b.length ≤ 549755813000) : F91 [.by b] = some ([], .tup [.t (.int .u64 ((sz b).1 : Nat)), .t (.by (sz b).2.1), .t (.int .i64 (sz b).2.2)]) := if_pos h

end Go.Fw

end

section
/- compact: bounded things, lists. -/
namespace Go.Fw
open Go Go.Proofs
set_option linter.unusedVariables false
set_option linter.unusedSimpArgs false

def F97 : Fun
  | [.by b, .int .i64 most] => some ([], .tup [.t (.int .i64 ((bnd b most).1 : Nat)), .t (.by (bnd b most).2.1), .t (.int .i64 (bnd b most).2.2)])
  | _ => none

theorem ct97 : CT [(96, ⟨[false], treeG F96⟩)] [0, 1, 4, 5, 6, 7, 8, 9, 16, 20] [] := ⟨(.cons c96.g (.nil _))⟩

theorem c97 : ACon Try.prog 97 F97 := by
  refine aconc E_ok (rs := [.tmp 4 3, .tmp 5 24, .tmp 6 28]) Try.func97 rfl Try.ntmps97 (by kernel_rfl) rfl (by decide) F97 (np := 2) ?_ ?_
  · intro ts h; unfold F97; split <;> first | rfl | (simp at h; done)
  intro ts H r hF hwf
  unfold F97 at hF
  split at hF <;> try (cases hF; done)
  rename_i b most
  cases hF
  have hm := inK_i64 (hwf (.int .i64 most) (by simp))
  have hs : F96 [.by b] = some ([], .tup [.t (.int .u64 ((sz b).1 : Nat)), .t (.by (sz b).2.1), .t (.int .i64 (sz b).2.2)]) := rfl
  have hb := bnd.eq_1 b most
  generalize bnd b most = R at *
  generalize sz b = Z at *
  by_cases h1 : Z.2.2 = 0
  case neg =>
    simp only [h1, ne_eq, not_false_eq_true, if_true] at hb
    repeat refine St hs ct97 ?_
    exact AWP.ret (Fin hb [] [])
  simp only [h1, ne_eq, not_true_eq_false, if_false] at hb
  rw [h1] at hs
  by_cases h2 : most < 0
  · simp only [h2, true_or, if_true] at hb
    repeat refine St (And.intro hs <| h2) ct97 ?_
    exact AWP.ret (Fin hb [] [])
  have hw : IntKind.u64.wrap most = most := wrap_u64 (by omega) (by omega)
  by_cases h3 : most < (Z.1 : Int)
  · simp only [h3, or_true, if_true] at hb
    repeat refine St (And.intro hs <| And.intro h2 <| And.intro h3 <| hw) ct97 ?_
    exact AWP.ret (Fin hb [] [])
  simp only [h2, h3, or_self, if_false] at hb
  repeat refine St (And.intro hs <| And.intro h2 <| And.intro h3 <| hw) ct97 ?_
  exact AWP.ret (Fin hb [] [])

def F95 : Fun
  | [.by b, .int .i64 most] => some ([], .tup [.t (.by (lim b most).1), .t (.by (lim b most).2.1), .t (.int .i64 (lim b most).2.2)])
  | _ => none

theorem ct95 : CT [(92, ⟨[false, false], treeG F92⟩), (97, ⟨[false, false], treeG F97⟩)] [0, 1, 4, 5, 6, 7, 8, 9, 18] [] := ⟨(.cons c92.g (.cons c97.g (.nil _)))⟩

theorem c95 : ACon Try.prog 95 F95 := by
  refine aconc E_ok (rs := [.tmp 4 24, .tmp 5 24, .tmp 6 28]) Try.func95 rfl Try.ntmps95 (by kernel_rfl) rfl (by decide) F95 (np := 2) ?_ ?_
  · intro ts h; unfold F95; split <;> first | rfl | (simp at h; done)
  intro ts H r hF hwf
  unfold F95 at hF
  split at hF <;> try (cases hF; done)
  rename_i b most
  cases hF
  by_cases h1 : (bnd b most).2.2 = 0
  · have hl : lim b most = (spA (bnd b most).2.1 (bnd b most).1, spB (bnd b most).2.1 (bnd b most).1, spE (bnd b most).2.1 (bnd b most).1) := by simp only [lim, h1, ne_eq, not_true_eq_false, if_false]
    repeat refine St (And.intro @F97.eq_def <| @F92.eq_def) ct95 ?_
    exact AWP.ret (Fin hl [] [])
  · have hl : lim b most = ([], [], (bnd b most).2.2) := by simp only [lim, h1, ne_eq, not_false_eq_true, if_true]
    repeat refine St @F97.eq_def ct95 ?_
    exact AWP.ret (Fin hl [] [])

def F89 : Fun
  | [.by b, .int .i64 most] => if b.length ≤ 549755813000 then some ([], .tup [.t (.by (lim b most).1), .t (.by (lim b most).2.1), .t (.int .i64 (lim b most).2.2)]) else none
  | _ => none

theorem ct89 : CT [(93, ⟨[false], treeG F93⟩), (95, ⟨[false, false], treeG F95⟩)] [0, 1, 4, 5, 6, 7, 8, 9] [] := ⟨(.cons c93.g (.cons c95.g (.nil _)))⟩

theorem c89 : ACon Try.prog 89 F89 := by
  refine aconc E_ok (rs := [.tmp 4 24, .tmp 5 24, .tmp 6 28]) Try.func89 rfl Try.ntmps89 (by kernel_rfl) rfl (by decide) F89 (np := 2) ?_ ?_
  · intro ts h; unfold F89; split <;> first | rfl | (simp at h; done)
  intro ts H r hF hwf
  unfold F89 at hF
  split at hF <;> try (cases hF; done)
  rename_i b most
  split at hF
  case isFalse => cases hF
  rename_i hc
  have hb := hc
  cases hF
  obtain ⟨hl1, hl2⟩ := lim_len b most
  have h1 : F93 [.by (lim b most).1] = some ([.by (lim b most).1], .own 0) := if_pos (by omega)
  have h2 : F93 [.by (lim b most).2.1] = some ([.by (lim b most).2.1], .own 0) := if_pos (by omega)
  repeat refine St (And.intro @F95.eq_def <| And.intro h1 <| h2) ct89 ?_
  exact AWP.ret (Fin trivial [0, 1] [])

theorem takebytes_c {b : List UInt8} (most : Int) (h : b.length ≤ 549755813000) : F89 [.by b, .int .i64 most] = some ([], .tup [.t (.by (lim b most).1), .t (.by (lim b most).2.1), .t (.int .i64 (lim b most).2.2)]) := if_pos h

end Go.Fw

end

section
/- Drawn regions with two stores. -/
namespace Go.Fw
open Go Go.Proofs
set_option linter.unusedVariables false

theorem AWP.dK2 {gl : GCalls} {keep : List Nat} {ds : List (Nat × List Info)} {kp N id : Nat} {l : List Oper} {Q : Exit → AS → Prop} {S S' : AS} (ct : CT gl keep ds) {fs : List Info} (hl : lkD id ds = some fs) (hdep : dOk2 l fs = true) (h : drunP E eqq gl N keep l fs S = some S') (hQ : Q .normal S') : AWP kp Try.prog N (.region id l.toArray true) Q S :=
  AWP.gdraw2 X_ok ct.cl keep mix fs hdep h hQ

/-- One step. -/
theorem St2 {F : Prop} (hF : F) {gl : GCalls} {keep : List Nat} {ds : List (Nat × List Info)} (ct : CT gl keep ds) {A B : Prop} (k : B) (h : F → CT gl keep ds → KB B → A := by
  (intro hF ct hk; (first
    | refine AWP.seq ?_
    | refine AWP.block ?_
    | (refine AWP.rK ct (Ev hF) ?_; try show AWP _ _ _ _ _ _)
    | (refine AWP.condT ?_ ?_; focus (simp only [W, eqq, ↓reduceIte, Nat.reduceEqDiff, Nat.reduceLT, Nat.reduceLeDiff, Nat.reduceAdd, Nat.reduceMul, Nat.reduceSub, Nat.reduceBEq, Int.reduceLE, Int.reduceLT, Int.reduceNeg, Int.reduceToNat, Int.reduceEq, Int.reduceBEq, Int.reduceBNe, Nat.reduceBNe, bne_self_eq_false, reduceCtorEq, gt_iff_lt, ge_iff_le, hF]; done))
    | (refine AWP.condF ?_ ?_; focus (simp only [W, eqq, ↓reduceIte, Nat.reduceEqDiff, Nat.reduceLT, Nat.reduceLeDiff, Nat.reduceAdd, Nat.reduceMul, Nat.reduceSub, Nat.reduceBEq, Int.reduceLE, Int.reduceLT, Int.reduceNeg, Int.reduceToNat, Int.reduceEq, Int.reduceBEq, Int.reduceBNe, Nat.reduceBNe, bne_self_eq_false, reduceCtorEq, gt_iff_lt, ge_iff_le, hF]; done))
    | (refine AWP.cT (by simp only [W, eqq, ↓reduceIte, Nat.reduceEqDiff, Nat.reduceLT, Nat.reduceLeDiff, Nat.reduceAdd, Nat.reduceMul, Nat.reduceSub, Nat.reduceBEq, Int.reduceLE, Int.reduceLT, Int.reduceNeg, Int.reduceToNat, Int.reduceEq, Int.reduceBEq, Int.reduceBNe, Nat.reduceBNe, bne_self_eq_false, reduceCtorEq, gt_iff_lt, ge_iff_le, hF]; with_reducible rfl) (by simp only [BL, beq_iff_eq, bne_iff_ne, beq_eq_false_iff_ne, bne_eq_false_iff_eq]; omega) ?_)
    | (refine AWP.cF (by simp only [W, eqq, ↓reduceIte, Nat.reduceEqDiff, Nat.reduceLT, Nat.reduceLeDiff, Nat.reduceAdd, Nat.reduceMul, Nat.reduceSub, Nat.reduceBEq, Int.reduceLE, Int.reduceLT, Int.reduceNeg, Int.reduceToNat, Int.reduceEq, Int.reduceBEq, Int.reduceBNe, Nat.reduceBNe, bne_self_eq_false, reduceCtorEq, gt_iff_lt, ge_iff_le, hF]; with_reducible rfl) (by simp only [BL, beq_iff_eq, bne_iff_ne, beq_eq_false_iff_ne, bne_eq_false_iff_eq]; omega) ?_)
    | (refine AWP.skip ?_; try show AWP _ _ _ _ _ _)
    | (refine AWP.exit ?_; try show AWP _ _ _ _ _ _)
    | (refine AWP.dK2 ct (by rfl) (by kernel_rfl) (Ev hF) ?_; try show AWP _ _ _ _ _ _)); exact hk.out)) : A := h hF ct ⟨k⟩


end Go.Fw

end

section
/- rpc: the writer's and the reader's parts of questions. -/
namespace Go.Fw
open Go Go.Proofs
set_option linter.unusedVariables false
set_option linter.unusedSimpArgs false

theorem op_inK {n : Int} (h : inK .u8 n) : ∃ c : UInt8, n = (c.toNat : Int) := by
  obtain ⟨h1, h2⟩ := h
  have h2' : n ≤ 255 := h2
  have h1' : 0 ≤ n := h1
  refine ⟨UInt8.ofNat n.toNat, ?_⟩
  rw [UInt8.toNat_ofNat']; omega

def F47 : Fun
  | [.int .u8 n] => some ([], .t (.bool (decide (1 ≤ n) && decide (n ≤ 10))))
  | _ => none

theorem ct47 : CT [] [0, 2] [] := ⟨GClOk.nil _⟩

theorem c47 : ACon Try.prog 47 F47 := by
  refine aconc E_ok (rs := [.tmp 2 4]) Try.func47 rfl Try.ntmps47 (by kernel_rfl) rfl (by decide) F47 (np := 1) ?_ ?_
  · intro ts h; unfold F47; split <;> first | rfl | (simp at h; done)
  intro ts H r hF hwf
  unfold F47 at hF
  split at hF <;> try (cases hF; done)
  rename_i n
  cases hF
  by_cases h1 : 1 ≤ n
  · by_cases h2 : n ≤ 10
    · have e : (decide (1 ≤ n) && decide (n ≤ 10)) = true := by rw [decide_eq_true h1, decide_eq_true h2]; rfl
      rw [e]
      repeat refine St2 (And.intro h1 <| h2) ct47 ?_
      exact AWP.ret (Fin trivial [] [])
    · have e : (decide (1 ≤ n) && decide (n ≤ 10)) = false := by rw [decide_eq_false h2, Bool.and_false]
      rw [e]
      repeat refine St2 (And.intro h1 <| h2) ct47 ?_
      exact AWP.ret (Fin trivial [] [])
  · have e : (decide (1 ≤ n) && decide (n ≤ 10)) = false := by rw [decide_eq_false h1]; rfl
    rw [e]
    repeat refine St2 h1 ct47 ?_
    exact AWP.ret (Fin trivial [] [])

theorem isop_c (c : UInt8) : F47 [.int .u8 (c.toNat : Int)] = some ([], .t (.bool (isOp c))) := by
  have e1 : decide (1 ≤ (c.toNat : Int)) = decide (1 ≤ c.toNat) := by rw [decide_eq_decide]; omega
  have e2 : decide ((c.toNat : Int) ≤ 10) = decide (c.toNat ≤ 10) := by rw [decide_eq_decide]; omega
  show some ([], AV.t (.bool (decide (1 ≤ (c.toNat : Int)) && decide ((c.toNat : Int) ≤ 10)))) = _
  rw [e1, e2]; rfl

def F49 : Fun
  | [.by a, .by b] => some ([], .t (.bool (a == b)))
  | _ => none

theorem ct49 : CT [] [0, 1, 4] [] := ⟨GClOk.nil _⟩

theorem c49 : ACon Try.prog 49 F49 := by
  refine aconc E_ok (rs := [.tmp 4 4]) Try.func49 rfl Try.ntmps49 (by kernel_rfl) rfl (by decide) F49 (np := 2) ?_ ?_
  · intro ts h; unfold F49; split <;> first | rfl | (simp at h; done)
  intro ts H r hF hwf
  unfold F49 at hF
  split at hF <;> try (cases hF; done)
  rename_i a b
  cases hF
  repeat refine St2 trivial ct49 ?_
  exact AWP.ret (Fin trivial [] [])

/-- A reader: what is left, whether it went wrong. -/
abbrev rX (s : RSt) : Blk := .bx (.t (.st [.by s.b, .bool (decide (s.e ≠ 0))]))

def G86 : GFun
  | [.bx (.t (.st [.by b, .bool w]))], [.ptr 0 0 [], .t (.by r), .t (.int .i64 e)] =>
    if e ≠ 0 then some ([.bx (.t (.st [.by b, .bool true]))], .t (.bool false))
    else if w = true then some ([.bx (.t (.st [.by b, .bool true]))], .t (.bool false))
    else some ([.bx (.t (.st [.by r, .bool false]))], .t (.bool true))
  | _, _ => none

theorem ct86 : CT [] [0, 1, 2, 6, 8, 15] [] := ⟨GClOk.nil _⟩

theorem g86 : GCon Try.prog 86 G86 := by
  refine gconc E_ok (rs := [.tmp 6 4]) Try.func86 rfl Try.ntmps86 (by kernel_rfl) rfl (by decide) G86 (np := 3) ?_ ?_
  · intro HB xs h; unfold G86; split <;> first | rfl | (simp at h; done)
  intro HB xs H r hG hwf hex
  unfold G86 at hG
  split at hG <;> try (cases hG; done)
  rename_i b w r e
  by_cases he : e = 0
  · subst he
    rw [if_neg (by simp)] at hG
    cases w with
    | true =>
      rw [if_pos rfl] at hG
      cases hG
      repeat refine St2 (And.intro @gentry.eq_1 <| @gentry.eq_2) ct86 ?_
      exact AWP.ret (Fin trivial [] [0])
    | false =>
      rw [if_neg (by simp)] at hG
      cases hG
      repeat refine St2 (And.intro @gentry.eq_1 <| @gentry.eq_2) ct86 ?_
      exact AWP.ret (Fin trivial [] [0])
  · rw [if_pos he] at hG
    cases hG
    have heb : (e != 0) = true := by simpa using he
    repeat refine St2 (And.intro (And.intro @gentry.eq_1 <| @gentry.eq_2) <| heb) ct86 ?_
    exact AWP.ret (Fin trivial [] [0])

theorem takeH_q (b : List UInt8) (h : b.length ≤ 549755800000) : F85 [.by b, .int .i64 32] = some ([.by (spA b 32)], .tup [.own 0, .t (.by (spB b 32)), .t (.int .i64 (spE b 32))]) := if_pos (by omega)
theorem take32_q (b : List UInt8) (h : b.length ≤ 549755800000) : F87 [.by b] = some ([], .tup [.t (.int .u32 ((t32 b).1.toNat : Int)), .t (.by (t32 b).2.1), .t (.int .i64 (t32 b).2.2)]) := by
  rw [take32_c (by omega)]
  show _ = some (_, AV.tup [.t (.int .u32 ((UInt32.ofNat (num (spA b 4))).toNat : Int)), _, _])
  rw [u32_num _ (spA_le b 4 4 (by omega))]; rfl
theorem takeb_q (b : List UInt8) (h : b.length ≤ 549755800000) : F89 [.by b, .int .i64 40000] = some ([], .tup [.t (.by (tBts b).1), .t (.by (tBts b).2.1), .t (.int .i64 (tBts b).2.2)]) := takebytes_c 40000 (by omega)

theorem took_bad (b r : List UInt8) (w : Bool) {e : Int} (h : e ≠ 0) : G86 [.bx (.t (.st [.by b, .bool w]))] [.ptr 0 0 [], .t (.by r), .t (.int .i64 e)] = some ([.bx (.t (.st [.by b, .bool true]))], .t (.bool false)) := if_pos h
theorem took_was (b r : List UInt8) (e : Int) : G86 [.bx (.t (.st [.by b, .bool true]))] [.ptr 0 0 [], .t (.by r), .t (.int .i64 e)] = some ([.bx (.t (.st [.by b, .bool true]))], .t (.bool false)) := by
  by_cases h : e ≠ 0
  · exact if_pos h
  · exact (if_neg h).trans (if_pos rfl)
theorem took_ok (b r : List UInt8) : G86 [.bx (.t (.st [.by b, .bool false]))] [.ptr 0 0 [], .t (.by r), .t (.int .i64 0)] = some ([.bx (.t (.st [.by r, .bool false]))], .t (.bool true)) := rfl

/-- A reader's part: unchanged where it went wrong, or goes wrong now. -/
def stepW {α : Type} (b : List UInt8) (w : Bool) (t : α × List UInt8 × Int) (old : T) (new : α → T) : List Blk :=
  if w = true then [.bx (.t (.st [.by b, .bool true])), .bx (.t old)]
  else if t.2.2 = 0 then [.bx (.t (.st [.by t.2.1, .bool false])), .bx (.t (new t.1))]
  else [.bx (.t (.st [.by b, .bool true])), .bx (.t old)]
theorem stepW_was {α : Type} (b : List UInt8) (t : α × List UInt8 × Int) (old : T) (new : α → T) : stepW b true t old new = [.bx (.t (.st [.by b, .bool true])), .bx (.t old)] := if_pos rfl
theorem stepW_ok {α : Type} (b : List UInt8) {t : α × List UInt8 × Int} (old : T) (new : α → T) (h : t.2.2 = 0) : stepW b false t old new = [.bx (.t (.st [.by t.2.1, .bool false])), .bx (.t (new t.1))] := (if_neg (by simp)).trans (if_pos h)
theorem stepW_bad {α : Type} (b : List UInt8) {t : α × List UInt8 × Int} (old : T) (new : α → T) (h : t.2.2 ≠ 0) : stepW b false t old new = [.bx (.t (.st [.by b, .bool true])), .bx (.t old)] := (if_neg (by simp)).trans (if_neg h)

def G71 : GFun
  | [.bx (.t (.st [.by b, .bool w])), .bx (.t (.st [o, .ba 32 n, i, h, x]))], [.ptr 0 0 [], .ptr 1 1 [1]] => if b.length ≤ 549755800000 then
      (if o.size = 1 then some (stepW b w (tH b) (.st [o, .ba 32 n, i, h, x]) (fun m => .st [o, .ba 32 m.1, i, h, x]), .tup []) else none) else none
  | _, _ => none

theorem ct71 : CT [(85, ⟨[false, false], treeG F85⟩), (86, ⟨[true, false, false], G86⟩)] [0, 1, 4, 5, 6, 19] [] := ⟨(.cons c85.g (.cons g86 (.nil _)))⟩

set_option maxHeartbeats 1000000 in
theorem g71 : GCon Try.prog 71 G71 := by
  refine gconc E_ok (rs := []) Try.func71 rfl Try.ntmps71 (by kernel_rfl) rfl (by decide) G71 (np := 2) ?_ ?_
  · intro HB xs h; unfold G71; split <;> first | rfl | (simp at h; done)
  intro HB xs H r hG hwf hex
  unfold G71 at hG
  split at hG <;> try (cases hG; done)
  rename_i b w o n i h x
  split at hG
  case isFalse => cases hG
  rename_i hb
  split at hG
  case isFalse => cases hG
  rename_i ho
  cases hG
  have h1 := takeH_q b hb
  have hn : n.length = 32 := by
    obtain ⟨c, m, wd, hi⟩ := hex
    obtain ⟨_, _, _, _, _, _, hw, _⟩ := hi.ok 1 _ rfl
    simpa [AV.wf, T.wf, T.wfL] using (show T.wf (.st [o, .ba 32 n, i, h, x]) by simpa only [AV.wf] using hw).2.1
  cases w with
  | true =>
    rw [stepW_was]
    have h2 := took_was b (spB b 32) (spE b 32)
    generalize spA b 32 = A at *
    generalize spB b 32 = B at *
    generalize spE b 32 = E at *
    repeat refine St2 (And.intro (And.intro @gentry.eq_1 <| @gentry.eq_2) <| And.intro h1 <| h2) ct71 ?_
    exact Fin trivial [] [0, 1]
  | false =>
    by_cases he : spE b 32 = 0
    · rw [stepW_ok b _ _ (show (tH b).2.2 = 0 from he)]
      obtain ⟨k1, k2, k3⟩ := sp_ok he
      have k4 : (spA b 32).length = 32 := by omega
      have k5 : (tH b).1.1 = spA b 32 := hOf_val k4
      have k6 : (tH b).2.1 = spB b 32 := rfl
      have h2 := took_ok b (spB b 32)
      rw [k5, k6]
      rw [he] at h1
      have k7 : (spA b 32).take 32 = spA b 32 := List.take_of_length_le (by omega)
      generalize spA b 32 = A at *
      generalize spB b 32 = B at *
      repeat refine St2 (And.intro (And.intro @gentry.eq_1 <| @gentry.eq_2) <| And.intro h1 <| And.intro h2 <| And.intro k4 <| And.intro k7 <| And.intro ho <| hn) ct71 ?_
      exact Fin trivial [] [0, 1]
    · rw [stepW_bad b _ _ (show (tH b).2.2 ≠ 0 from he)]
      have h2 := took_bad b (spB b 32) false he
      generalize spA b 32 = A at *
      generalize spB b 32 = B at *
      generalize spE b 32 = E at *
      repeat refine St2 (And.intro (And.intro @gentry.eq_1 <| @gentry.eq_2) <| And.intro h1 <| h2) ct71 ?_
      exact Fin trivial [] [0, 1]

def G74 : GFun
  | [.bx (.t (.st [.by b, .bool w])), .bx (.t (.st [o, .ba 32 n, i, h, .by x]))], [.ptr 0 0 [], .ptr 1 35 [4]] => if b.length ≤ 549755800000 then
      (if o.size = 1 ∧ i.size = 1 ∧ h.size = 1 ∧ n.length = 32 then some (stepW b w (tBts b) (.st [o, .ba 32 n, i, h, .by x]) (fun m => .st [o, .ba 32 n, i, h, .by m]), .tup []) else none) else none
  | _, _ => none

theorem ct74 : CT [(86, ⟨[true, false, false], G86⟩), (89, ⟨[false, false], treeG F89⟩)] [0, 1, 4, 5, 6, 19] [] := ⟨(.cons g86 (.cons c89.g (.nil _)))⟩

set_option maxHeartbeats 1000000 in
theorem g74 : GCon Try.prog 74 G74 := by
  refine gconc E_ok (rs := []) Try.func74 rfl Try.ntmps74 (by kernel_rfl) rfl (by decide) G74 (np := 2) ?_ ?_
  · intro HB xs h; unfold G74; split <;> first | rfl | (simp at h; done)
  intro HB xs H r hG hwf hex
  unfold G74 at hG
  split at hG <;> try (cases hG; done)
  rename_i b w o n i h x
  split at hG
  case isFalse => cases hG
  rename_i hb
  split at hG
  case isFalse => cases hG
  rename_i ho
  cases hG
  obtain ⟨ho, hi, hh, hn⟩ := ho
  have h1 := takeb_q b hb
  cases w with
  | true =>
    rw [stepW_was]
    have h2 := took_was b (tBts b).2.1 (tBts b).2.2
    generalize tBts b = R at *
    repeat refine St2 (And.intro (And.intro @gentry.eq_1 <| @gentry.eq_2) <| And.intro h1 <| h2) ct74 ?_
    exact Fin trivial [] [0, 1]
  | false =>
    by_cases he : (tBts b).2.2 = 0
    · rw [stepW_ok b _ _ he]
      have h2 := took_ok b (tBts b).2.1
      rw [he] at h1
      generalize tBts b = R at *
      repeat refine St2 (And.intro (And.intro @gentry.eq_1 <| @gentry.eq_2) <| And.intro h1 <| And.intro h2 <| And.intro ho <| And.intro hi <| And.intro hh <| hn) ct74 ?_
      exact Fin trivial [] [0, 1]
    · rw [stepW_bad b _ _ he]
      have h2 := took_bad b (tBts b).2.1 false he
      generalize tBts b = R at *
      repeat refine St2 (And.intro (And.intro @gentry.eq_1 <| @gentry.eq_2) <| And.intro h1 <| h2) ct74 ?_
      exact Fin trivial [] [0, 1]

def G72 : GFun
  | [.bx (.t (.st [.by b, .bool w])), .bx (.t (.st [o, .ba 32 n, .int .u32 i, h, x]))], [.ptr 0 0 [], .ptr 1 33 [2]] => if b.length ≤ 549755800000 then
      (if o.size = 1 ∧ n.length = 32 then some (stepW b w (t32 b) (.st [o, .ba 32 n, .int .u32 i, h, x]) (fun m => .st [o, .ba 32 n, .int .u32 (m.toNat : Int), h, x]), .tup []) else none) else none
  | [.bx (.t (.st [.by b, .bool w])), .bx (.t (.st [o, .ba 32 n, i, .int .u32 h, x]))], [.ptr 0 0 [], .ptr 1 34 [3]] => if b.length ≤ 549755800000 then
      (if o.size = 1 ∧ n.length = 32 ∧ i.size = 1 then some (stepW b w (t32 b) (.st [o, .ba 32 n, i, .int .u32 h, x]) (fun m => .st [o, .ba 32 n, i, .int .u32 (m.toNat : Int), x]), .tup []) else none) else none
  | _, _ => none

theorem ct72 : CT [(86, ⟨[true, false, false], G86⟩), (87, ⟨[false], treeG F87⟩)] [0, 1, 4, 5, 6, 19] [] := ⟨(.cons g86 (.cons c87.g (.nil _)))⟩

set_option maxHeartbeats 1000000 in
theorem g72 : GCon Try.prog 72 G72 := by
  refine gconc E_ok (rs := []) Try.func72 rfl Try.ntmps72 (by kernel_rfl) rfl (by decide) G72 (np := 2) ?_ ?_
  · intro HB xs h; unfold G72; split <;> first | rfl | (simp at h; done)
  intro HB xs H r hG hwf hex
  unfold G72 at hG
  split at hG <;> try (cases hG; done)
  · rename_i b w o n i h x
    split at hG
    case isFalse => cases hG
    rename_i hb
    split at hG
    case isFalse => cases hG
    rename_i hc
    cases hG
    obtain ⟨ho, hn⟩ := hc
    have h1 := take32_q b hb
    cases w with
    | true =>
      rw [stepW_was]
      have h2 := took_was b (t32 b).2.1 (t32 b).2.2
      generalize t32 b = R at *
      repeat refine St2 (And.intro (And.intro @gentry.eq_1 <| @gentry.eq_2) <| And.intro h1 <| h2) ct72 ?_
      exact Fin trivial [] [0, 1]
    | false =>
      by_cases he : (t32 b).2.2 = 0
      · rw [stepW_ok b _ _ he]
        have h2 := took_ok b (t32 b).2.1
        rw [he] at h1
        generalize t32 b = R at *
        repeat refine St2 (And.intro (And.intro @gentry.eq_1 <| @gentry.eq_2) <| And.intro h1 <| And.intro h2 <| And.intro ho <| hn) ct72 ?_
        exact Fin trivial [] [0, 1]
      · rw [stepW_bad b _ _ he]
        have h2 := took_bad b (t32 b).2.1 false he
        generalize t32 b = R at *
        repeat refine St2 (And.intro (And.intro @gentry.eq_1 <| @gentry.eq_2) <| And.intro h1 <| h2) ct72 ?_
        exact Fin trivial [] [0, 1]
  · rename_i b w o n i h x
    split at hG
    case isFalse => cases hG
    rename_i hb
    split at hG
    case isFalse => cases hG
    rename_i hc
    cases hG
    obtain ⟨ho, hn, hi⟩ := hc
    have h1 := take32_q b hb
    cases w with
    | true =>
      rw [stepW_was]
      have h2 := took_was b (t32 b).2.1 (t32 b).2.2
      generalize t32 b = R at *
      repeat refine St2 (And.intro (And.intro @gentry.eq_1 <| @gentry.eq_2) <| And.intro h1 <| h2) ct72 ?_
      exact Fin trivial [] [0, 1]
    | false =>
      by_cases he : (t32 b).2.2 = 0
      · rw [stepW_ok b _ _ he]
        have h2 := took_ok b (t32 b).2.1
        rw [he] at h1
        generalize t32 b = R at *
        repeat refine St2 (And.intro (And.intro @gentry.eq_1 <| @gentry.eq_2) <| And.intro h1 <| And.intro h2 <| And.intro ho <| And.intro hn <| hi) ct72 ?_
        exact Fin trivial [] [0, 1]
      · rw [stepW_bad b _ _ he]
        have h2 := took_bad b (t32 b).2.1 false he
        generalize t32 b = R at *
        repeat refine St2 (And.intro (And.intro @gentry.eq_1 <| @gentry.eq_2) <| And.intro h1 <| h2) ct72 ?_
        exact Fin trivial [] [0, 1]

end Go.Fw

end

section
/- rpc: the writer's parts; a question gone through. -/
namespace Go.Fw
open Go Go.Proofs
set_option linter.unusedVariables false
set_option linter.unusedSimpArgs false

theorem put32_q {b : List UInt8} (n : Int) (h : b.length ≤ 1000000000) : F66 [.by b, .int .u32 n] = some ([.by (b ++ le 4 n)], .own 0) := if_pos (by omega)
theorem putby_q (b x : List UInt8) (h : b.length + x.length ≤ 549755800000) : F68 [.by b, .by x] = some ([.by (b ++ sizeB x.length ++ x)], .own 0) := if_pos h

/-- A writer and its bytes; behind a part they lie in a block of their own. -/
def G39 : GFun
  | [.bx (.st [.own 1]), .by l, .bx (.t (.st [o, .ba 32 n, i, h, x]))], [.ptr 0 0 [], .ptr 2 1 [1]] =>
    if l.length ≤ 1000000000 ∧ o.size = 1 ∧ n.length = 32 then some ([.bx (.st [.own 3]), .no, .bx (.t (.st [o, .ba 32 n, i, h, x])), .by (l ++ n)], .tup []) else none
  | _, _ => none

theorem ct39 : CT [] [0, 1] [(0, [⟨0, [0], [], []⟩, ⟨0, [0], [], []⟩, ⟨0, [5], [], []⟩, ⟨0, [6], [], []⟩, ⟨1, [7], [], []⟩, ⟨0, [1], [], []⟩, ⟨0, [9], [], []⟩, ⟨1, [10], [], []⟩, ⟨2, [8, 11], [4, 7], []⟩, ⟨0, [4], [4, 7, 8], []⟩, ⟨0, [13], [4, 7, 8], []⟩, ⟨2, [12, 14], [4, 7, 8], []⟩])] := ⟨GClOk.nil _⟩

theorem g39 : GCon Try.prog 39 G39 := by
  refine gconc E_ok (rs := []) Try.func39 rfl Try.ntmps39 (by kernel_rfl) rfl (by decide) G39 (np := 2) ?_ ?_
  · intro HB xs h; unfold G39; split <;> first | rfl | (simp at h; done)
  intro HB xs H r hG hwf hex
  unfold G39 at hG
  split at hG <;> try (cases hG; done)
  rename_i l o n i h x
  split at hG
  case isFalse => cases hG
  rename_i hc
  cases hG
  obtain ⟨hl, ho, hn⟩ := hc
  have hnt : n.take 32 = n := List.take_of_length_le (by omega)
  repeat refine St (And.intro (And.intro @gentry.eq_1 <| @gentry.eq_2) <| And.intro ho <| And.intro hn <| And.intro hnt <| hl) ct39 ?_
  exact Fin trivial [] [0, 1, 2, 3]

def G40 : GFun
  | [.bx (.st [.own 1]), .by l, .bx (.t (.st [o, .ba 32 n, .int .u32 i, h, x]))], [.ptr 0 0 [], .ptr 2 33 [2]] =>
    if l.length ≤ 1000000000 ∧ o.size = 1 ∧ n.length = 32 then some ([.bx (.st [.own 3]), .by l, .bx (.t (.st [o, .ba 32 n, .int .u32 i, h, x])), .by (l ++ le 4 i)], .tup []) else none
  | [.bx (.st [.own 1]), .by l, .bx (.t (.st [o, .ba 32 n, i, .int .u32 h, x]))], [.ptr 0 0 [], .ptr 2 34 [3]] =>
    if l.length ≤ 1000000000 ∧ o.size = 1 ∧ n.length = 32 ∧ i.size = 1 then some ([.bx (.st [.own 3]), .by l, .bx (.t (.st [o, .ba 32 n, i, .int .u32 h, x])), .by (l ++ le 4 h)], .tup []) else none
  | _, _ => none

theorem ct40 : CT [(66, ⟨[false, false], treeG F66⟩)] [0, 1] [(0, [⟨0, [0], [], []⟩, ⟨0, [0], [], []⟩, ⟨0, [5], [], []⟩, ⟨0, [6], [], []⟩, ⟨1, [7], [], []⟩, ⟨0, [1], [], []⟩, ⟨0, [9], [], []⟩, ⟨1, [10], [], []⟩, ⟨1, [8, 11], [4, 7], []⟩, ⟨0, [4], [4, 7, 8], []⟩, ⟨0, [13], [4, 7, 8], []⟩, ⟨2, [12, 14], [4, 7, 8], []⟩])] := ⟨(.cons c66.g (.nil _))⟩

theorem g40 : GCon Try.prog 40 G40 := by
  refine gconc E_ok (rs := []) Try.func40 rfl Try.ntmps40 (by kernel_rfl) rfl (by decide) G40 (np := 2) ?_ ?_
  · intro HB xs h; unfold G40; split <;> first | rfl | (simp at h; done)
  intro HB xs H r hG hwf hex
  unfold G40 at hG
  split at hG <;> try (cases hG; done)
  · rename_i l o n i h x
    split at hG
    case isFalse => cases hG
    rename_i hc
    cases hG
    obtain ⟨hl, ho, hn⟩ := hc
    have h1 := put32_q (b := l) i hl
    repeat refine St (And.intro (And.intro @gentry.eq_1 <| @gentry.eq_2) <| And.intro ho <| And.intro hn <| h1) ct40 ?_
    exact Fin trivial [] [0, 1, 2, 3]
  · rename_i l o n i h x
    split at hG
    case isFalse => cases hG
    rename_i hc
    cases hG
    obtain ⟨hl, ho, hn, hi⟩ := hc
    have h1 := put32_q (b := l) h hl
    repeat refine St (And.intro (And.intro @gentry.eq_1 <| @gentry.eq_2) <| And.intro ho <| And.intro hn <| And.intro hi <| h1) ct40 ?_
    exact Fin trivial [] [0, 1, 2, 3]

def G42 : GFun
  | [.bx (.st [.own 1]), .by l, .bx (.t (.st [o, .ba 32 n, i, h, .by x]))], [.ptr 0 0 [], .ptr 2 35 [4]] =>
    if l.length + x.length ≤ 549755800000 ∧ o.size = 1 ∧ n.length = 32 ∧ i.size = 1 ∧ h.size = 1 then some ([.bx (.st [.own 3]), .by l, .bx (.t (.st [o, .ba 32 n, i, h, .by x])), .by (l ++ sizeB x.length ++ x)], .tup []) else none
  | _, _ => none

theorem ct42 : CT [(68, ⟨[false, false], treeG F68⟩)] [0, 1] [(0, [⟨0, [0], [], []⟩, ⟨0, [0], [], []⟩, ⟨0, [5], [], []⟩, ⟨0, [6], [], []⟩, ⟨1, [7], [], []⟩, ⟨0, [1], [], []⟩, ⟨0, [9], [], []⟩, ⟨1, [10], [], []⟩, ⟨1, [8, 11], [4, 7], []⟩, ⟨0, [4], [4, 7, 8], []⟩, ⟨0, [13], [4, 7, 8], []⟩, ⟨2, [12, 14], [4, 7, 8], []⟩])] := ⟨(.cons c68.g (.nil _))⟩

theorem g42 : GCon Try.prog 42 G42 := by
  refine gconc E_ok (rs := []) Try.func42 rfl Try.ntmps42 (by kernel_rfl) rfl (by decide) G42 (np := 2) ?_ ?_
  · intro HB xs h; unfold G42; split <;> first | rfl | (simp at h; done)
  intro HB xs H r hG hwf hex
  unfold G42 at hG
  split at hG <;> try (cases hG; done)
  rename_i l o n i h x
  split at hG
  case isFalse => cases hG
  rename_i hc
  cases hG
  obtain ⟨hl, ho, hn, hi, hh⟩ := hc
  have h1 := putby_q l x hl
  repeat refine St (And.intro (And.intro @gentry.eq_1 <| @gentry.eq_2) <| And.intro ho <| And.intro hn <| And.intro hi <| And.intro hh <| h1) ct42 ?_
  exact Fin trivial [] [0, 1, 2, 3]

end Go.Fw

end

section
/- rpc: a question gone through, by a writer, by a reader. -/
namespace Go.Fw
open Go Go.Proofs
set_option linter.unusedVariables false
set_option linter.unusedSimpArgs false

theorem stepW_rd {α : Type} (t : List UInt8 → α × List UInt8 × Int) (d : α) (s : RSt) (new : α → T) : stepW s.b (decide (s.e ≠ 0)) (t s.b) (new d) new = [rX (rd t d s).2, .bx (.t (new (rd t d s).1))] := by
  obtain ⟨b, e⟩ := s
  dsimp only
  by_cases he : e = 0
  · subst he
    by_cases ht : (t b).2.2 = 0
    · have h1 : rd t d ⟨b, 0⟩ = ((t b).1, ⟨(t b).2.1, 0⟩) := (if_neg (by simp)).trans (if_neg (by simpa using ht))
      rw [h1]
      exact stepW_ok b (new d) new ht
    · have h1 : rd t d ⟨b, 0⟩ = (d, ⟨b, (t b).2.2⟩) := (if_neg (by simp)).trans (if_pos ht)
      rw [h1]
      have h2 : decide ((t b).2.2 ≠ 0) = true := decide_eq_true ht
      show stepW b false (t b) (new d) new = [.bx (.t (.st [.by b, .bool (decide ((t b).2.2 ≠ 0))])), .bx (.t (new d))]
      rw [h2]
      exact stepW_bad b (new d) new ht
  · have h1 : rd t d ⟨b, e⟩ = (d, ⟨b, e⟩) := if_pos he
    rw [h1]
    have h2 : decide (e ≠ 0) = true := decide_eq_true he
    show stepW b (decide (e ≠ 0)) (t b) (new d) new = [.bx (.t (.st [.by b, .bool (decide (e ≠ 0))])), .bx (.t (new d))]
    rw [h2]
    exact stepW_was b (t b) (new d) new

theorem name_q (s : RSt) {o i h x : T} (hb : s.b.length ≤ 549755800000) (ho : o.size = 1) : G71 [rX s, .bx (.t (.st [o, .ba 32 zH.1, i, h, x]))] [.ptr 0 0 [], .ptr 1 1 [1]] = some ([rX (rd tH zH s).2, .bx (.t (.st [o, .ba 32 (rd tH zH s).1.1, i, h, x]))], .tup []) := by
  rw [← stepW_rd tH zH s (fun m => .st [o, .ba 32 m.1, i, h, x])]
  show (if s.b.length ≤ 549755800000 then (if o.size = 1 then _ else none) else none) = _
  rw [if_pos hb, if_pos ho]
theorem idx_q (s : RSt) {o h x : T} {n : List UInt8} (hb : s.b.length ≤ 549755800000) (ho : o.size = 1) (hn : n.length = 32) : G72 [rX s, .bx (.t (.st [o, .ba 32 n, .int .u32 0, h, x]))] [.ptr 0 0 [], .ptr 1 33 [2]] = some ([rX (rd t32 0 s).2, .bx (.t (.st [o, .ba 32 n, .int .u32 ((rd t32 0 s).1.toNat : Int), h, x]))], .tup []) := by
  rw [← stepW_rd t32 0 s (fun m => .st [o, .ba 32 n, .int .u32 (m.toNat : Int), h, x])]
  show (if s.b.length ≤ 549755800000 then (if o.size = 1 ∧ n.length = 32 then _ else none) else none) = _
  rw [if_pos hb, if_pos ⟨ho, hn⟩]; rfl
theorem hgt_q (s : RSt) {o i x : T} {n : List UInt8} (hb : s.b.length ≤ 549755800000) (ho : o.size = 1) (hn : n.length = 32) (hi : i.size = 1) : G72 [rX s, .bx (.t (.st [o, .ba 32 n, i, .int .u32 0, x]))] [.ptr 0 0 [], .ptr 1 34 [3]] = some ([rX (rd t32 0 s).2, .bx (.t (.st [o, .ba 32 n, i, .int .u32 ((rd t32 0 s).1.toNat : Int), x]))], .tup []) := by
  rw [← stepW_rd t32 0 s (fun m => .st [o, .ba 32 n, i, .int .u32 (m.toNat : Int), x])]
  simp only [G72]
  rw [if_pos hb, if_pos ⟨ho, hn, hi⟩]; rfl
theorem bts_q (s : RSt) {o i h : T} {n : List UInt8} (hb : s.b.length ≤ 549755800000) (ho : o.size = 1) (hi : i.size = 1) (hh : h.size = 1) (hn : n.length = 32) : G74 [rX s, .bx (.t (.st [o, .ba 32 n, i, h, .by []]))] [.ptr 0 0 [], .ptr 1 35 [4]] = some ([rX (rd tBts [] s).2, .bx (.t (.st [o, .ba 32 n, i, h, .by (rd tBts [] s).1]))], .tup []) := by
  rw [← stepW_rd tBts [] s (fun m => .st [o, .ba 32 n, i, h, .by m])]
  show (if s.b.length ≤ 549755800000 then (if o.size = 1 ∧ i.size = 1 ∧ h.size = 1 ∧ n.length = 32 then _ else none) else none) = _
  rw [if_pos hb, if_pos ⟨ho, hi, hh, hn⟩]

theorem rd_len {α : Type} {t : List UInt8 → α × List UInt8 × Int} {d : α} {s : RSt} (h : ∀ b, (t b).2.1.length ≤ b.length) : (rd t d s).2.b.length ≤ s.b.length := rdX_len (P := true) h

noncomputable def G24 : GFun
  | [.bx (.st [.own 1]), .by l, .bx (.t y)], [.st [.clo f1 [.ptr 0 0 []], .clo f2 [.ptr 0 0 []], .clo f3 [.ptr 0 0 []], .clo f4 [.ptr 0 0 []], .clo f5 [.ptr 0 0 []], .clo f6 [.ptr 0 0 []], .clo f7 [.ptr 0 0 []], .clo f8 [.ptr 0 0 []]], .ptr 2 0 []] =>
    match inv qT y with
    | some q => if f1 = 1000039 ∧ f2 = 1000040 ∧ f4 = 1000042 ∧ l.length ≤ 100 ∧ q.bts.length ≤ 549755000000 then
        (match kQ q.op with
          | 0 => some ([.bx (.st [.own 1]), .by l, .bx (.t y)], .tup [])
          | 1 => some ([.bx (.st [.own 3]), .no, .bx (.t y), .by (l ++ bodyK 1 q)], .tup [])
          | 2 => some ([.bx (.st [.own 3]), .no, .bx (.t y), .by (l ++ bodyK 2 q)], .tup [])
          | k => some ([.bx (.st [.own 3]), .by l, .bx (.t y), .by (l ++ bodyK k q)], .tup [])) else none
    | none => none
  | [.bx (.t (.st [.by b, .bool w])), .bx (.t (.st [.int .u8 o, .ba 32 n, .int .u32 0, .int .u32 0, .by []]))], [.st [.clo f1 [.ptr 0 0 []], .clo f2 [.ptr 0 0 []], .clo f3 [.ptr 0 0 []], .clo f4 [.ptr 0 0 []], .clo f5 [.ptr 0 0 []], .clo f6 [.ptr 0 0 []], .clo f7 [.ptr 0 0 []], .clo f8 [.ptr 0 0 []]], .ptr 1 0 []] =>
    if f1 = 1000071 ∧ f2 = 1000072 ∧ f4 = 1000074 ∧ b.length ≤ 549755800000 ∧ w = false ∧ n = zH.1 ∧ 0 ≤ o ∧ o < 256 then
      some ([rX (rdK (UInt8.ofNat o.toNat) (kQ (UInt8.ofNat o.toNat)) ⟨b, 0⟩).2, .bx (.t (qT (rdK (UInt8.ofNat o.toNat) (kQ (UInt8.ofNat o.toNat)) ⟨b, 0⟩).1))], .tup []) else none
  | _, _ => none

theorem ct24 : CT [(39, ⟨[true, true], G39⟩), (40, ⟨[true, true], G40⟩), (42, ⟨[true, true], G42⟩), (71, ⟨[true, true], G71⟩), (72, ⟨[true, true], G72⟩), (74, ⟨[true, true], G74⟩)] [0, 1, 2, 7, 8, 17, 31, 40, 54] [(4, [⟨0, [2], [], []⟩, ⟨1, [11], [], []⟩, ⟨0, [1], [], []⟩, ⟨0, [13], [], []⟩, ⟨0, [14], [], []⟩, ⟨2, [12, 15], [1], []⟩]), (6, [⟨0, [2], [], []⟩, ⟨1, [19], [], []⟩, ⟨0, [1], [], []⟩, ⟨0, [21], [], []⟩, ⟨0, [22], [], []⟩, ⟨2, [20, 23], [1], []⟩]), (7, [⟨0, [2], [], []⟩, ⟨1, [25], [], []⟩, ⟨0, [1], [], []⟩, ⟨0, [27], [], []⟩, ⟨0, [28], [], []⟩, ⟨2, [26, 29], [1], []⟩]), (10, [⟨0, [2], [], []⟩, ⟨1, [34], [], []⟩, ⟨0, [1], [], []⟩, ⟨0, [36], [], []⟩, ⟨0, [37], [], []⟩, ⟨2, [35, 38], [1], []⟩]), (12, [⟨0, [2], [], []⟩, ⟨1, [42], [], []⟩, ⟨0, [1], [], []⟩, ⟨0, [44], [], []⟩, ⟨0, [45], [], []⟩, ⟨2, [43, 46], [1], []⟩]), (13, [⟨0, [2], [], []⟩, ⟨1, [48], [], []⟩, ⟨0, [1], [], []⟩, ⟨0, [50], [], []⟩, ⟨0, [51], [], []⟩, ⟨2, [49, 52], [1], []⟩]), (15, [⟨0, [2], [], []⟩, ⟨1, [56], [], []⟩, ⟨0, [1], [], []⟩, ⟨0, [58], [], []⟩, ⟨0, [59], [], []⟩, ⟨2, [57, 60], [1], []⟩])] := ⟨(.cons g39 (.cons g40 (.cons g42 (.cons g71 (.cons g72 (.cons g74 (.nil _)))))))⟩

theorem kQ_of (c : UInt8) : (c = 2 ∧ kQ c = 1) ∨ (c ≠ 2 ∧ c = 4 ∧ kQ c = 1) ∨ (c ≠ 2 ∧ c ≠ 4 ∧ c = 3 ∧ kQ c = 2) ∨ (c ≠ 2 ∧ c ≠ 4 ∧ c ≠ 3 ∧ c = 5 ∧ kQ c = 3) ∨ (c ≠ 2 ∧ c ≠ 4 ∧ c ≠ 3 ∧ c ≠ 5 ∧ c = 9 ∧ kQ c = 3) ∨ (c ≠ 2 ∧ c ≠ 4 ∧ c ≠ 3 ∧ c ≠ 5 ∧ c ≠ 9 ∧ c = 6 ∧ kQ c = 4) ∨ (c ≠ 2 ∧ c ≠ 4 ∧ c ≠ 3 ∧ c ≠ 5 ∧ c ≠ 9 ∧ c ≠ 6 ∧ c = 8 ∧ kQ c = 5) ∨ (c ≠ 2 ∧ c ≠ 4 ∧ c ≠ 3 ∧ c ≠ 5 ∧ c ≠ 9 ∧ c ≠ 6 ∧ c ≠ 8 ∧ kQ c = 0) := by
  by_cases h2 : c = 2
  · subst h2; exact .inl ⟨rfl, rfl⟩
  by_cases h4 : c = 4
  · subst h4; exact .inr (.inl ⟨h2, rfl, rfl⟩)
  by_cases h3 : c = 3
  · subst h3; exact .inr (.inr (.inl ⟨h2, h4, rfl, rfl⟩))
  by_cases h5 : c = 5
  · subst h5; exact .inr (.inr (.inr (.inl ⟨h2, h4, h3, rfl, rfl⟩)))
  by_cases h9 : c = 9
  · subst h9; exact .inr (.inr (.inr (.inr (.inl ⟨h2, h4, h3, h5, rfl, rfl⟩))))
  by_cases h6 : c = 6
  · subst h6; exact .inr (.inr (.inr (.inr (.inr (.inl ⟨h2, h4, h3, h5, h9, rfl, rfl⟩)))))
  by_cases h8 : c = 8
  · subst h8; exact .inr (.inr (.inr (.inr (.inr (.inr (.inl ⟨h2, h4, h3, h5, h9, h6, rfl, rfl⟩))))))
  exact .inr (.inr (.inr (.inr (.inr (.inr (.inr ⟨h2, h4, h3, h5, h9, h6, h8, by unfold kQ; simp [h2, h4, h3, h5, h9, h6, h8]⟩))))))
theorem c8_ne {c : UInt8} (n : UInt8) (h : c ≠ n) : ((c.toNat : Int) == (n.toNat : Int)) = false := by
  rw [beq_eq_false_iff_ne]; intro hh; exact h (n8_inj hh)
theorem c8_eq {c : UInt8} (n : UInt8) (h : c = n) : ((c.toNat : Int) == (n.toNat : Int)) = true := by rw [h]; exact beq_self_eq_true _

set_option maxRecDepth 20000 in
set_option maxHeartbeats 8000000 in
theorem g24 : GCon Try.prog 24 G24 := by
  refine gconc E_ok (rs := []) Try.func24 rfl Try.ntmps24 (by kernel_rfl) rfl (by decide) G24 (np := 2) ?_ ?_
  · intro HB xs h; unfold G24; split <;> first | rfl | (simp at h; done)
  intro HB xs H r hG hwf hex
  unfold G24 at hG
  split at hG <;> try (cases hG; done)
  · rename_i l y f1 f2 f3 f4 f5 f6 f7 f8
    split at hG <;> try (cases hG; done)
    rename_i q hq
    split at hG
    case isFalse => cases hG
    rename_i hc
    obtain ⟨rfl, rfl, rfl, hl, hx⟩ := hc
    obtain rfl := inv_inv hq
    obtain ⟨c, ⟨n, hn⟩, i, h, x⟩ := q
    dsimp only at hG hx
    rw [qT_st] at hG ⊢
    dsimp only at hG ⊢
    have w1 : G39 [.bx (.st [.own 1]), .by l, .bx (.t (.st [.int .u8 (c.toNat : Int), .ba 32 n, .int .u32 (i.toNat : Int), .int .u32 (h.toNat : Int), .by x]))] [.ptr 0 0 [], .ptr 2 1 [1]] = some ([.bx (.st [.own 3]), .no, .bx (.t (.st [.int .u8 (c.toNat : Int), .ba 32 n, .int .u32 (i.toNat : Int), .int .u32 (h.toNat : Int), .by x])), .by (l ++ n)], .tup []) := if_pos ⟨by omega, rfl, hn⟩
    have w2 : G40 [.bx (.st [.own 1]), .by (l ++ n), .bx (.t (.st [.int .u8 (c.toNat : Int), .ba 32 n, .int .u32 (i.toNat : Int), .int .u32 (h.toNat : Int), .by x]))] [.ptr 0 0 [], .ptr 2 33 [2]] = some ([.bx (.st [.own 3]), .by (l ++ n), .bx (.t (.st [.int .u8 (c.toNat : Int), .ba 32 n, .int .u32 (i.toNat : Int), .int .u32 (h.toNat : Int), .by x])), .by (l ++ n ++ le 4 (i.toNat : Int))], .tup []) := if_pos ⟨by rw [List.length_append]; omega, rfl, hn⟩
    have w3 : G42 [.bx (.st [.own 1]), .by l, .bx (.t (.st [.int .u8 (c.toNat : Int), .ba 32 n, .int .u32 (i.toNat : Int), .int .u32 (h.toNat : Int), .by x]))] [.ptr 0 0 [], .ptr 2 35 [4]] = some ([.bx (.st [.own 3]), .by l, .bx (.t (.st [.int .u8 (c.toNat : Int), .ba 32 n, .int .u32 (i.toNat : Int), .int .u32 (h.toNat : Int), .by x])), .by (l ++ sizeB x.length ++ x)], .tup []) := if_pos ⟨by omega, rfl, hn, rfl, rfl⟩
    have w4 : G40 [.bx (.st [.own 1]), .by l, .bx (.t (.st [.int .u8 (c.toNat : Int), .ba 32 n, .int .u32 (i.toNat : Int), .int .u32 (h.toNat : Int), .by x]))] [.ptr 0 0 [], .ptr 2 33 [2]] = some ([.bx (.st [.own 3]), .by l, .bx (.t (.st [.int .u8 (c.toNat : Int), .ba 32 n, .int .u32 (i.toNat : Int), .int .u32 (h.toNat : Int), .by x])), .by (l ++ le 4 (i.toNat : Int))], .tup []) := if_pos ⟨by omega, rfl, hn⟩
    have w5 : G40 [.bx (.st [.own 1]), .by (l ++ le 4 (i.toNat : Int)), .bx (.t (.st [.int .u8 (c.toNat : Int), .ba 32 n, .int .u32 (i.toNat : Int), .int .u32 (h.toNat : Int), .by x]))] [.ptr 0 0 [], .ptr 2 34 [3]] = some ([.bx (.st [.own 3]), .by (l ++ le 4 (i.toNat : Int)), .bx (.t (.st [.int .u8 (c.toNat : Int), .ba 32 n, .int .u32 (i.toNat : Int), .int .u32 (h.toNat : Int), .by x])), .by (l ++ le 4 (i.toNat : Int) ++ le 4 (h.toNat : Int))], .tup []) := if_pos ⟨by rw [List.length_append, le_len]; omega, rfl, hn, rfl⟩
    have w6 : G40 [.bx (.st [.own 1]), .by l, .bx (.t (.st [.int .u8 (c.toNat : Int), .ba 32 n, .int .u32 (i.toNat : Int), .int .u32 (h.toNat : Int), .by x]))] [.ptr 0 0 [], .ptr 2 34 [3]] = some ([.bx (.st [.own 3]), .by l, .bx (.t (.st [.int .u8 (c.toNat : Int), .ba 32 n, .int .u32 (i.toNat : Int), .int .u32 (h.toNat : Int), .by x])), .by (l ++ le 4 (h.toNat : Int))], .tup []) := if_pos ⟨by omega, rfl, hn, rfl⟩
    rcases kQ_of c with ⟨a2, hk⟩ | ⟨a2, a4, hk⟩ | ⟨a2, a4, a3, hk⟩ | ⟨a2, a4, a3, a5, hk⟩ | ⟨a2, a4, a3, a5, a9, hk⟩ | ⟨a2, a4, a3, a5, a9, a6, hk⟩ | ⟨a2, a4, a3, a5, a9, a6, a8, hk⟩ | ⟨a2, a4, a3, a5, a9, a6, a8, hk⟩
    · have d2 : ((c.toNat : Int) == 2) = true := c8_eq 2 a2
      rw [hk] at hG
      cases hG
      clear a2
      repeat refine St (And.intro (And.intro @gentry.eq_1 <| @gentry.eq_2) <| And.intro hn <| And.intro d2 <| w1) ct24 ?_
      exact Fin (And.intro @qT.eq_def <| And.intro @bodyK.eq_def <| @List.append_assoc.{0}) [] [0, 1, 2, 4]
    · have d2 : ((c.toNat : Int) == 2) = false := c8_ne 2 a2
      have d4 : ((c.toNat : Int) == 4) = true := c8_eq 4 a4
      rw [hk] at hG
      cases hG
      clear a2 a4
      repeat refine St (And.intro (And.intro @gentry.eq_1 <| @gentry.eq_2) <| And.intro hn <| And.intro d2 <| And.intro d4 <| w1) ct24 ?_
      exact Fin (And.intro @qT.eq_def <| And.intro @bodyK.eq_def <| @List.append_assoc.{0}) [] [0, 1, 2, 4]
    · have d2 : ((c.toNat : Int) == 2) = false := c8_ne 2 a2
      have d4 : ((c.toNat : Int) == 4) = false := c8_ne 4 a4
      have d3 : ((c.toNat : Int) == 3) = true := c8_eq 3 a3
      rw [hk] at hG
      cases hG
      clear a2 a4 a3
      repeat refine St (And.intro (And.intro @gentry.eq_1 <| @gentry.eq_2) <| And.intro hn <| And.intro d2 <| And.intro d4 <| And.intro d3 <| And.intro w1 <| w2) ct24 ?_
      exact Fin (And.intro @qT.eq_def <| And.intro @bodyK.eq_def <| @List.append_assoc.{0}) [] [0, 1, 2, 5]
    · have d2 : ((c.toNat : Int) == 2) = false := c8_ne 2 a2
      have d4 : ((c.toNat : Int) == 4) = false := c8_ne 4 a4
      have d3 : ((c.toNat : Int) == 3) = false := c8_ne 3 a3
      have d5 : ((c.toNat : Int) == 5) = true := c8_eq 5 a5
      rw [hk] at hG
      cases hG
      clear a2 a4 a3 a5
      repeat refine St (And.intro (And.intro @gentry.eq_1 <| @gentry.eq_2) <| And.intro hn <| And.intro d2 <| And.intro d4 <| And.intro d3 <| And.intro d5 <| w3) ct24 ?_
      exact Fin (And.intro @qT.eq_def <| And.intro @bodyK.eq_def <| @List.append_assoc.{0}) [] [0, 1, 2, 4]
    · have d2 : ((c.toNat : Int) == 2) = false := c8_ne 2 a2
      have d4 : ((c.toNat : Int) == 4) = false := c8_ne 4 a4
      have d3 : ((c.toNat : Int) == 3) = false := c8_ne 3 a3
      have d5 : ((c.toNat : Int) == 5) = false := c8_ne 5 a5
      have d9 : ((c.toNat : Int) == 9) = true := c8_eq 9 a9
      rw [hk] at hG
      cases hG
      clear a2 a4 a3 a5 a9
      repeat refine St (And.intro (And.intro @gentry.eq_1 <| @gentry.eq_2) <| And.intro hn <| And.intro d2 <| And.intro d4 <| And.intro d3 <| And.intro d5 <| And.intro d9 <| w3) ct24 ?_
      exact Fin (And.intro @qT.eq_def <| And.intro @bodyK.eq_def <| @List.append_assoc.{0}) [] [0, 1, 2, 4]
    · have d2 : ((c.toNat : Int) == 2) = false := c8_ne 2 a2
      have d4 : ((c.toNat : Int) == 4) = false := c8_ne 4 a4
      have d3 : ((c.toNat : Int) == 3) = false := c8_ne 3 a3
      have d5 : ((c.toNat : Int) == 5) = false := c8_ne 5 a5
      have d9 : ((c.toNat : Int) == 9) = false := c8_ne 9 a9
      have d6 : ((c.toNat : Int) == 6) = true := c8_eq 6 a6
      rw [hk] at hG
      cases hG
      clear a2 a4 a3 a5 a9 a6
      repeat refine St (And.intro (And.intro @gentry.eq_1 <| @gentry.eq_2) <| And.intro hn <| And.intro d2 <| And.intro d4 <| And.intro d3 <| And.intro d5 <| And.intro d9 <| And.intro d6 <| And.intro w4 <| w5) ct24 ?_
      exact Fin (And.intro @qT.eq_def <| And.intro @bodyK.eq_def <| @List.append_assoc.{0}) [] [0, 1, 2, 5]
    · have d2 : ((c.toNat : Int) == 2) = false := c8_ne 2 a2
      have d4 : ((c.toNat : Int) == 4) = false := c8_ne 4 a4
      have d3 : ((c.toNat : Int) == 3) = false := c8_ne 3 a3
      have d5 : ((c.toNat : Int) == 5) = false := c8_ne 5 a5
      have d9 : ((c.toNat : Int) == 9) = false := c8_ne 9 a9
      have d6 : ((c.toNat : Int) == 6) = false := c8_ne 6 a6
      have d8 : ((c.toNat : Int) == 8) = true := c8_eq 8 a8
      rw [hk] at hG
      cases hG
      clear a2 a4 a3 a5 a9 a6 a8
      repeat refine St (And.intro (And.intro @gentry.eq_1 <| @gentry.eq_2) <| And.intro hn <| And.intro d2 <| And.intro d4 <| And.intro d3 <| And.intro d5 <| And.intro d9 <| And.intro d6 <| And.intro d8 <| w6) ct24 ?_
      exact Fin (And.intro @qT.eq_def <| And.intro @bodyK.eq_def <| @List.append_assoc.{0}) [] [0, 1, 2, 4]
    · have d2 : ((c.toNat : Int) == 2) = false := c8_ne 2 a2
      have d4 : ((c.toNat : Int) == 4) = false := c8_ne 4 a4
      have d3 : ((c.toNat : Int) == 3) = false := c8_ne 3 a3
      have d5 : ((c.toNat : Int) == 5) = false := c8_ne 5 a5
      have d9 : ((c.toNat : Int) == 9) = false := c8_ne 9 a9
      have d6 : ((c.toNat : Int) == 6) = false := c8_ne 6 a6
      have d8 : ((c.toNat : Int) == 8) = false := c8_ne 8 a8
      rw [hk] at hG
      cases hG
      clear a2 a4 a3 a5 a9 a6 a8
      repeat refine St (And.intro (And.intro @gentry.eq_1 <| @gentry.eq_2) <| And.intro hn <| And.intro d2 <| And.intro d4 <| And.intro d3 <| And.intro d5 <| And.intro d9 <| And.intro d6 <| d8) ct24 ?_
      exact Fin (And.intro @qT.eq_def <| And.intro @bodyK.eq_def <| @List.append_assoc.{0}) [] [0, 1, 2]
  · rename_i b w o n f1 f2 f3 f4 f5 f6 f7 f8
    split at hG
    case isFalse => cases hG
    rename_i hc
    cases hG
    obtain ⟨rfl, rfl, rfl, hb, rfl, rfl, ho0, ho1⟩ := hc
    obtain ⟨c, rfl⟩ : ∃ c : UInt8, o = (c.toNat : Int) := ⟨UInt8.ofNat o.toNat, by rw [UInt8.toNat_ofNat']; omega⟩
    have hcc : UInt8.ofNat ((c.toNat : Int)).toNat = c := by rw [Int.toNat_natCast]; exact UInt8.ofNat_toNat ..
    rw [hcc]
    have hn : zH.1.length = 32 := zH.2
    have l1 := rd_len (d := zH) (s := ⟨b, 0⟩) tH_len
    have l2 := rd_len (d := 0) (s := ⟨b, 0⟩) t32_len
    have r1 := name_q ⟨b, 0⟩ (o := .int .u8 (c.toNat : Int)) (i := .int .u32 0) (h := .int .u32 0) (x := .by []) hb rfl
    have r2 := idx_q (rd tH zH ⟨b, 0⟩).2 (o := .int .u8 (c.toNat : Int)) (h := .int .u32 0) (x := .by []) (n := (rd tH zH ⟨b, 0⟩).1.1) (Nat.le_trans l1 hb) rfl (rd tH zH ⟨b, 0⟩).1.2
    have r3 := bts_q ⟨b, 0⟩ (o := .int .u8 (c.toNat : Int)) (i := .int .u32 0) (h := .int .u32 0) (n := zH.1) hb rfl rfl rfl hn
    have r4 := idx_q ⟨b, 0⟩ (o := .int .u8 (c.toNat : Int)) (h := .int .u32 0) (x := .by []) (n := zH.1) hb rfl hn
    have r5 := hgt_q (rd t32 0 ⟨b, 0⟩).2 (o := .int .u8 (c.toNat : Int)) (i := .int .u32 ((rd t32 0 ⟨b, 0⟩).1.toNat : Int)) (x := .by []) (n := zH.1) (Nat.le_trans l2 hb) rfl hn rfl
    have r6 := hgt_q ⟨b, 0⟩ (o := .int .u8 (c.toNat : Int)) (i := .int .u32 0) (x := .by []) (n := zH.1) hb rfl hn rfl
    have hf : decide ((0 : Int) ≠ 0) = false := rfl
    have hf2 : (if (0 : Int) = 0 then false else true) = false := rfl
    simp only [rX, hf, decide_false] at r1 r3 r4 r6
    simp only [rX] at r2 r5 ⊢
    rcases kQ_of c with ⟨a2, hk⟩ | ⟨a2, a4, hk⟩ | ⟨a2, a4, a3, hk⟩ | ⟨a2, a4, a3, a5, hk⟩ | ⟨a2, a4, a3, a5, a9, hk⟩ | ⟨a2, a4, a3, a5, a9, a6, hk⟩ | ⟨a2, a4, a3, a5, a9, a6, a8, hk⟩ | ⟨a2, a4, a3, a5, a9, a6, a8, hk⟩
    · have d2 : ((c.toNat : Int) == 2) = true := c8_eq 2 a2
      rw [hk]
      repeat refine St (And.intro (And.intro @gentry.eq_1 <| @gentry.eq_2) <| And.intro hn <| And.intro d2 <| r1) ct24 ?_
      exact Fin (And.intro @qT.eq_def <| @rdK.eq_def) [] [0, 1]
    · have d2 : ((c.toNat : Int) == 2) = false := c8_ne 2 a2
      have d4 : ((c.toNat : Int) == 4) = true := c8_eq 4 a4
      rw [hk]
      repeat refine St (And.intro (And.intro @gentry.eq_1 <| @gentry.eq_2) <| And.intro hn <| And.intro d2 <| And.intro d4 <| r1) ct24 ?_
      exact Fin (And.intro @qT.eq_def <| @rdK.eq_def) [] [0, 1]
    · have d2 : ((c.toNat : Int) == 2) = false := c8_ne 2 a2
      have d4 : ((c.toNat : Int) == 4) = false := c8_ne 4 a4
      have d3 : ((c.toNat : Int) == 3) = true := c8_eq 3 a3
      rw [hk]
      repeat refine St (And.intro (And.intro @gentry.eq_1 <| @gentry.eq_2) <| And.intro hn <| And.intro d2 <| And.intro d4 <| And.intro d3 <| And.intro r1 <| r2) ct24 ?_
      exact Fin (And.intro @qT.eq_def <| @rdK.eq_def) [] [0, 1]
    · have d2 : ((c.toNat : Int) == 2) = false := c8_ne 2 a2
      have d4 : ((c.toNat : Int) == 4) = false := c8_ne 4 a4
      have d3 : ((c.toNat : Int) == 3) = false := c8_ne 3 a3
      have d5 : ((c.toNat : Int) == 5) = true := c8_eq 5 a5
      rw [hk]
      repeat refine St (And.intro (And.intro @gentry.eq_1 <| @gentry.eq_2) <| And.intro hn <| And.intro d2 <| And.intro d4 <| And.intro d3 <| And.intro d5 <| r3) ct24 ?_
      exact Fin (And.intro @qT.eq_def <| @rdK.eq_def) [] [0, 1]
    · have d2 : ((c.toNat : Int) == 2) = false := c8_ne 2 a2
      have d4 : ((c.toNat : Int) == 4) = false := c8_ne 4 a4
      have d3 : ((c.toNat : Int) == 3) = false := c8_ne 3 a3
      have d5 : ((c.toNat : Int) == 5) = false := c8_ne 5 a5
      have d9 : ((c.toNat : Int) == 9) = true := c8_eq 9 a9
      rw [hk]
      repeat refine St (And.intro (And.intro @gentry.eq_1 <| @gentry.eq_2) <| And.intro hn <| And.intro d2 <| And.intro d4 <| And.intro d3 <| And.intro d5 <| And.intro d9 <| r3) ct24 ?_
      exact Fin (And.intro @qT.eq_def <| @rdK.eq_def) [] [0, 1]
    · have d2 : ((c.toNat : Int) == 2) = false := c8_ne 2 a2
      have d4 : ((c.toNat : Int) == 4) = false := c8_ne 4 a4
      have d3 : ((c.toNat : Int) == 3) = false := c8_ne 3 a3
      have d5 : ((c.toNat : Int) == 5) = false := c8_ne 5 a5
      have d9 : ((c.toNat : Int) == 9) = false := c8_ne 9 a9
      have d6 : ((c.toNat : Int) == 6) = true := c8_eq 6 a6
      rw [hk]
      repeat refine St (And.intro (And.intro @gentry.eq_1 <| @gentry.eq_2) <| And.intro hn <| And.intro d2 <| And.intro d4 <| And.intro d3 <| And.intro d5 <| And.intro d9 <| And.intro d6 <| And.intro r4 <| r5) ct24 ?_
      exact Fin (And.intro @qT.eq_def <| @rdK.eq_def) [] [0, 1]
    · have d2 : ((c.toNat : Int) == 2) = false := c8_ne 2 a2
      have d4 : ((c.toNat : Int) == 4) = false := c8_ne 4 a4
      have d3 : ((c.toNat : Int) == 3) = false := c8_ne 3 a3
      have d5 : ((c.toNat : Int) == 5) = false := c8_ne 5 a5
      have d9 : ((c.toNat : Int) == 9) = false := c8_ne 9 a9
      have d6 : ((c.toNat : Int) == 6) = false := c8_ne 6 a6
      have d8 : ((c.toNat : Int) == 8) = true := c8_eq 8 a8
      rw [hk]
      repeat refine St (And.intro (And.intro @gentry.eq_1 <| @gentry.eq_2) <| And.intro hn <| And.intro d2 <| And.intro d4 <| And.intro d3 <| And.intro d5 <| And.intro d9 <| And.intro d6 <| And.intro d8 <| r6) ct24 ?_
      exact Fin (And.intro @qT.eq_def <| @rdK.eq_def) [] [0, 1]
    · have d2 : ((c.toNat : Int) == 2) = false := c8_ne 2 a2
      have d4 : ((c.toNat : Int) == 4) = false := c8_ne 4 a4
      have d3 : ((c.toNat : Int) == 3) = false := c8_ne 3 a3
      have d5 : ((c.toNat : Int) == 5) = false := c8_ne 5 a5
      have d9 : ((c.toNat : Int) == 9) = false := c8_ne 9 a9
      have d6 : ((c.toNat : Int) == 6) = false := c8_ne 6 a6
      have d8 : ((c.toNat : Int) == 8) = false := c8_ne 8 a8
      rw [hk]
      repeat refine St (And.intro (And.intro @gentry.eq_1 <| @gentry.eq_2) <| And.intro hn <| And.intro d2 <| And.intro d4 <| And.intro d3 <| And.intro d5 <| And.intro d9 <| And.intro d6 <| d8) ct24 ?_
      exact Fin (And.intro @qT.eq_def <| @rdK.eq_def) [] [0, 1]

end Go.Fw

end

section
/- rpc: questions put and taken. -/
namespace Go.Fw
open Go Go.Proofs
set_option linter.unusedVariables false
set_option linter.unusedSimpArgs false

def G23 : GFun
  | [.bx (.st [.own 1]), .by l], [.ptr 0 0 []] => some ([.bx (.st [.own 1]), .by l], .st [.clo 1000039 [.ptr 0 0 []], .clo 1000040 [.ptr 0 0 []], .clo 1000041 [.ptr 0 0 []], .clo 1000042 [.ptr 0 0 []], .clo 1000043 [.ptr 0 0 []], .clo 1000044 [.ptr 0 0 []], .clo 1000045 [.ptr 0 0 []], .clo 1000046 [.ptr 0 0 []]])
  | _, _ => none

theorem ct23 : CT [] [0, 2] [] := ⟨GClOk.nil _⟩

theorem g23 : GCon Try.prog 23 G23 := by
  refine gconc E_ok (rs := [.cell 2 79]) Try.func23 rfl Try.ntmps23 (by kernel_rfl) rfl (by decide) G23 (np := 1) ?_ ?_
  · intro HB xs h; unfold G23; split <;> first | rfl | (simp at h; done)
  intro HB xs H r hG hwf hex
  unfold G23 at hG
  split at hG <;> try (cases hG; done)
  cases hG
  repeat refine St (And.intro @gentry.eq_1 <| @gentry.eq_2) ct23 ?_
  exact AWP.ret (Fin trivial [] [0, 1])

def G48 : GFun
  | [.bx (.t (.st [.by b, .bool w]))], [.ptr 0 0 []] => some ([.bx (.t (.st [.by b, .bool w]))], .st [.clo 1000071 [.ptr 0 0 []], .clo 1000072 [.ptr 0 0 []], .clo 1000073 [.ptr 0 0 []], .clo 1000074 [.ptr 0 0 []], .clo 1000075 [.ptr 0 0 []], .clo 1000076 [.ptr 0 0 []], .clo 1000077 [.ptr 0 0 []], .clo 1000078 [.ptr 0 0 []]])
  | _, _ => none

theorem ct48 : CT [] [0, 2] [] := ⟨GClOk.nil _⟩

theorem g48 : GCon Try.prog 48 G48 := by
  refine gconc E_ok (rs := [.cell 2 79]) Try.func48 rfl Try.ntmps48 (by kernel_rfl) rfl (by decide) G48 (np := 1) ?_ ?_
  · intro HB xs h; unfold G48; split <;> first | rfl | (simp at h; done)
  intro HB xs H r hG hwf hex
  unfold G48 at hG
  split at hG <;> try (cases hG; done)
  cases hG
  repeat refine St (And.intro @gentry.eq_1 <| @gentry.eq_2) ct48 ?_
  exact AWP.ret (Fin trivial [] [0])

noncomputable def F26 : Fun
  | [x, y] => match inv qT x, inv qT y with
    | some a, some b => some ([], .t (.bool (decide (a = b))))
    | _, _ => none
  | _ => none

theorem ct26 : CT [(49, ⟨[false, false], treeG F49⟩)] [0, 1, 2, 3, 4] [] := ⟨(.cons c49.g (.nil _))⟩

set_option maxHeartbeats 2000000 in
theorem c26 : ACon Try.prog 26 F26 := by
  refine aconc E_ok (rs := [.tmp 4 4]) Try.func26 rfl Try.ntmps26 (by kernel_rfl) rfl (by decide) F26 (np := 2) ?_ ?_
  · intro ts h; unfold F26; split <;> first | rfl | (simp at h; done)
  intro ts H r hF hwf
  unfold F26 at hF
  split at hF <;> try (cases hF; done)
  split at hF <;> try (cases hF; done)
  rename_i a b ha hb
  cases hF
  obtain rfl := inv_inv ha
  obtain rfl := inv_inv hb
  obtain ⟨o, n, i, h, x⟩ := a
  obtain ⟨o', n', i', h', x'⟩ := b
  rw [qT_st, qT_st]
  dsimp only
  have hn1 := n.2
  have hn2 := n'.2
  by_cases e0 : o = o'
  case neg =>
    have f0 : ((o.toNat : Int) == (o'.toNat : Int)) = false := by rw [beq_eq_false_iff_ne]; exact fun hh => e0 (n8_inj hh)
    have hd : decide ((⟨o, n, i, h, x⟩ : TQ) = ⟨o', n', i', h', x'⟩) = false := decide_eq_false fun hh => e0 (TQ.mk.inj hh).1
    repeat refine St (And.intro hn1 <| And.intro hn2 <| f0) ct26 ?_
    exact AWP.ret (Fin hd [] [])
  subst e0
  have f0 : ((o.toNat : Int) == (o.toNat : Int)) = true := beq_self_eq_true _
  by_cases e1 : n = n'
  case neg =>
    have f1 : (n.1 == n'.1) = false := by rw [beq_eq_false_iff_ne]; exact fun hh => e1 (Subtype.ext hh)
    have hd : decide ((⟨o, n, i, h, x⟩ : TQ) = ⟨o, n', i', h', x'⟩) = false := decide_eq_false fun hh => e1 (TQ.mk.inj hh).2.1
    repeat refine St (And.intro hn1 <| And.intro hn2 <| And.intro f0 <| f1) ct26 ?_
    exact AWP.ret (Fin hd [] [])
  subst e1
  have f1 : (n.1 == n.1) = true := beq_self_eq_true _
  by_cases e2 : i = i'
  case neg =>
    have f2 : ((i.toNat : Int) == (i'.toNat : Int)) = false := by rw [beq_eq_false_iff_ne]; exact fun hh => e2 (n32_inj hh)
    have hd : decide ((⟨o, n, i, h, x⟩ : TQ) = ⟨o, n, i', h', x'⟩) = false := decide_eq_false fun hh => e2 (TQ.mk.inj hh).2.2.1
    repeat refine St (And.intro hn1 <| And.intro hn2 <| And.intro f0 <| And.intro f1 <| f2) ct26 ?_
    exact AWP.ret (Fin hd [] [])
  subst e2
  have f2 : ((i.toNat : Int) == (i.toNat : Int)) = true := beq_self_eq_true _
  by_cases e3 : h = h'
  case neg =>
    have f3 : ((h.toNat : Int) == (h'.toNat : Int)) = false := by rw [beq_eq_false_iff_ne]; exact fun hh => e3 (n32_inj hh)
    have hd : decide ((⟨o, n, i, h, x⟩ : TQ) = ⟨o, n, i, h', x'⟩) = false := decide_eq_false fun hh => e3 (TQ.mk.inj hh).2.2.2.1
    repeat refine St (And.intro hn1 <| And.intro hn2 <| And.intro f0 <| And.intro f1 <| And.intro f2 <| f3) ct26 ?_
    exact AWP.ret (Fin hd [] [])
  subst e3
  have f3 : ((h.toNat : Int) == (h.toNat : Int)) = true := beq_self_eq_true _
  by_cases e4 : x = x'
  case neg =>
    have f4 : (x == x') = false := by rw [beq_eq_false_iff_ne]; exact fun hh => e4 (hh)
    have hd : decide ((⟨o, n, i, h, x⟩ : TQ) = ⟨o, n, i, h, x'⟩) = false := decide_eq_false fun hh => e4 (TQ.mk.inj hh).2.2.2.2
    have hbe : F49 [.by x, .by x'] = some ([], .t (.bool false)) := by show some (_, AV.t (.bool (x == x'))) = _; rw [f4]
    repeat refine St (And.intro hn1 <| And.intro hn2 <| And.intro f0 <| And.intro f1 <| And.intro f2 <| And.intro f3 <| And.intro f4 <| hbe) ct26 ?_
    exact AWP.ret (Fin hd [] [])
  subst e4
  have f4 : (x == x) = true := beq_self_eq_true _
  have hd : decide ((⟨o, n, i, h, x⟩ : TQ) = ⟨o, n, i, h, x⟩) = true := decide_eq_true rfl
  have hbe : F49 [.by x, .by x] = some ([], .t (.bool true)) := by show some (_, AV.t (.bool (x == x))) = _; rw [f4]
  repeat refine St (And.intro hn1 <| And.intro hn2 <| And.intro f0 <| And.intro f1 <| And.intro f2 <| And.intro f3 <| And.intro f4 <| hbe) ct26 ?_
  exact AWP.ret (Fin hd [] [])

theorem same_q (a b : TQ) : F26 [qT a, qT b] = some ([], .t (.bool (decide (a = b)))) := by
  simp only [F26, inv_of qT_inj]

noncomputable def F25 : Fun
  | [.by b] => if b.length ≤ 549755800000 then some ([], .tup [.t (qT (readQ b).1), .t (.bool (readQ b).2)]) else none
  | _ => none

theorem ct25 : CT [(24, ⟨[true, true], G24⟩), (47, ⟨[false], treeG F47⟩), (48, ⟨[true], G48⟩)] [0, 2, 3, 4, 5, 15] [(6, [⟨1, [5], [], []⟩, ⟨0, [4], [], []⟩, ⟨0, [29], [], []⟩, ⟨0, [30], [], []⟩, ⟨0, [31], [], [1]⟩, ⟨0, [32], [], []⟩, ⟨0, [33], [], []⟩, ⟨0, [4], [], []⟩, ⟨0, [35], [], []⟩, ⟨0, [36], [], []⟩, ⟨0, [37], [], [1]⟩, ⟨0, [38], [], [1]⟩, ⟨0, [39], [], []⟩, ⟨0, [34, 40], [], []⟩, ⟨2, [2, 28], [0], [1]⟩, ⟨0, [41], [0, 14], []⟩])] := ⟨(.cons g24 (.cons c47.g (.cons g48 (.nil _))))⟩

theorem dQ_T : qT dQ = .st [.int .u8 0, .ba 32 (zby 32), .int .u32 0, .int .u32 0, .by []] := rfl

set_option maxHeartbeats 2000000 in
theorem c25 : ACon Try.prog 25 F25 := by
  refine aconc E_ok (rs := [.cell 2 26, .tmp 3 4]) Try.func25 rfl Try.ntmps25 (by kernel_rfl) rfl (by decide) F25 (np := 1) ?_ ?_
  · intro ts h; unfold F25; split <;> first | rfl | (simp at h; done)
  intro ts H r hF hwf
  unfold F25 at hF
  split at hF <;> try (cases hF; done)
  rename_i b
  split at hF
  case isFalse => cases hF
  rename_i hb
  cases hF
  cases b with
  | nil =>
    rw [show readQ [] = (dQ, false) from rfl, dQ_T]
    repeat refine St trivial ct25 ?_
    exact AWP.ret (Fin trivial [] [])
  | cons c r =>
    have h1 := isop_c c
    obtain ⟨B, hB⟩ : ∃ B, c :: r = B := ⟨_, rfl⟩
    have hB0 : B.getD 0 0 = c := by rw [← hB]; rfl
    have hBd : B.drop 1 = r := by rw [← hB]; rfl
    have hBl : B.length = r.length + 1 := by rw [← hB]; rfl
    have k0 : ((B.length : Int) == 0) = false := by rw [beq_eq_false_iff_ne]; omega
    have k1 : 0 < B.length := by omega
    have k2 : 1 ≤ B.length := by omega
    have k3 : (0 : Int) < (B.length : Int) := by omega
    rw [hB] at hb
    cases hc : isOp c with
    | false =>
      rw [readQ_no hc, hB, dQ_T]
      rw [hc] at h1
      repeat refine St (And.intro k0 <| And.intro k1 <| And.intro k2 <| And.intro k3 <| And.intro hB0 <| h1) ct25 ?_
      exact AWP.ret (Fin trivial [] [])
    | true =>
      rw [readQ_yes hc, hB]
      rw [hc] at h1
      have hq : G24 [.bx (.t (.st [.by r, .bool false])), .bx (.t (.st [.int .u8 (c.toNat : Int), .ba 32 (zby 32), .int .u32 0, .int .u32 0, .by []]))] [.st [.clo 1000071 [.ptr 0 0 []], .clo 1000072 [.ptr 0 0 []], .clo 1000073 [.ptr 0 0 []], .clo 1000074 [.ptr 0 0 []], .clo 1000075 [.ptr 0 0 []], .clo 1000076 [.ptr 0 0 []], .clo 1000077 [.ptr 0 0 []], .clo 1000078 [.ptr 0 0 []]], .ptr 1 0 []] = some ([rX (rdK c (kQ c) ⟨r, 0⟩).2, .bx (.t (qT (rdK c (kQ c) ⟨r, 0⟩).1))], .tup []) := by
        have hcc : UInt8.ofNat ((c.toNat : Int)).toNat = c := by rw [Int.toNat_natCast]; exact UInt8.ofNat_toNat ..
        simp only [G24]
        rw [if_pos ⟨trivial, trivial, trivial, by omega, trivial, rfl, by omega, by have := c.toNat_lt; omega⟩, hcc]
      have ht : G48 [.bx (.t (.st [.by r, .bool false]))] [.ptr 0 0 []] = some ([.bx (.t (.st [.by r, .bool false]))], .st [.clo 1000071 [.ptr 0 0 []], .clo 1000072 [.ptr 0 0 []], .clo 1000073 [.ptr 0 0 []], .clo 1000074 [.ptr 0 0 []], .clo 1000075 [.ptr 0 0 []], .clo 1000076 [.ptr 0 0 []], .clo 1000077 [.ptr 0 0 []], .clo 1000078 [.ptr 0 0 []]]) := rfl
      generalize rdK c (kQ c) ⟨r, 0⟩ = R at *
      obtain ⟨q, ⟨s, e⟩⟩ := R
      dsimp only at hq ⊢
      simp only [rX] at hq
      have hn := q.name.2
      rw [qT_st] at hq ⊢
      repeat refine St (And.intro k0 <| And.intro k1 <| And.intro k2 <| And.intro k3 <| And.intro hB0 <| And.intro hBd <| h1) ct25 ?_
      refine AWP.weak (Wn 2 [4] 35 (.by [])) ?_
      by_cases he : e = 0
      · subst he
        have hd : decide ((0 : Int) ≠ 0) = false := rfl
        rw [hd] at hq
        by_cases hs : s = []
        · subst hs
          repeat refine St (And.intro ht <| And.intro hq <| hn) ct25 ?_
          exact AWP.ret (Fin trivial [] [])
        · have hsl : ((s.length : Int) == 0) = false := by
            have : 0 < s.length := List.length_pos_iff.2 hs
            rw [beq_eq_false_iff_ne]; omega
          have hsd : decide (s = []) = false := decide_eq_false hs
          rw [hsd]
          repeat refine St (And.intro ht <| And.intro hq <| And.intro hn <| hsl) ct25 ?_
          exact AWP.ret (Fin trivial [] [])
      · have hd : decide (e ≠ 0) = true := decide_eq_true he
        have hd2 : decide (e = 0) = false := decide_eq_false he
        rw [hd] at hq
        rw [hd2]
        repeat refine St (And.intro ht <| And.intro hq <| hn) ct25 ?_
        exact AWP.ret (Fin trivial [] [])

theorem read_q {b : List UInt8} (h : b.length ≤ 549755800000) : F25 [.by b] = some ([], .tup [.t (qT (readQ b).1), .t (.bool (readQ b).2)]) := if_pos h

noncomputable def F13 : Fun
  | [.by b] => if b.length ≤ 549755800000 then some ([], .tup [.t (qT (tkQ b)), .t (.int .i64 (tkQe b))]) else none
  | _ => none

theorem ct13 : CT [(25, ⟨[false], treeG F25⟩)] [0, 2, 3, 4, 5, 12] [] := ⟨(.cons c25.g (.nil _))⟩

theorem c13 : ACon Try.prog 13 F13 := by
  refine aconc E_ok (rs := [.cell 2 26, .tmp 3 28]) Try.func13 rfl Try.ntmps13 (by kernel_rfl) rfl (by decide) F13 (np := 1) ?_ ?_
  · intro ts h; unfold F13; split <;> first | rfl | (simp at h; done)
  intro ts H r hF hwf
  unfold F13 at hF
  split at hF <;> try (cases hF; done)
  rename_i b
  split at hF
  case isFalse => cases hF
  rename_i hb
  cases hF
  have h1 := read_q hb
  cases hr : (readQ b).2 with
  | true =>
    rw [show tkQ b = (readQ b).1 from if_pos hr, show tkQe b = 0 from if_pos hr]
    rw [hr] at h1
    generalize (readQ b).1 = q at *
    have hn := q.name.2
    rw [qT_st] at h1 ⊢
    repeat refine St (And.intro h1 <| hn) ct13 ?_
    exact AWP.ret (Fin trivial [] [])
  | false =>
    rw [show tkQ b = dQ from if_neg (by rw [hr]; simp), show tkQe b = 3 from if_neg (by rw [hr]; simp), dQ_T]
    rw [hr] at h1
    generalize (readQ b).1 = q at *
    have hn := q.name.2
    rw [qT_st] at h1
    repeat refine St (And.intro h1 <| hn) ct13 ?_
    exact AWP.ret (Fin trivial [] [])

theorem taq_c {b : List UInt8} (h : b.length ≤ 549755800000) : F13 [.by b] = some ([], .tup [.t (qT (tkQ b)), .t (.int .i64 (tkQe b))]) := if_pos h

noncomputable def F10 : Fun
  | [y] => match inv qT y with
    | some q => if q.bts.length ≤ 549750000000 then some ([], .tup [.t (.by (putQ q)), .t (.int .i64 (putQe q))]) else none
    | none => none
  | _ => none

theorem ct10 : CT [(23, ⟨[true], G23⟩), (24, ⟨[true, true], G24⟩), (25, ⟨[false], treeG F25⟩), (26, ⟨[false, false], treeG F26⟩)] [0, 1, 2, 3, 4, 5, 6, 7, 32] [] := ⟨(.cons g23 (.cons g24 (.cons c25.g (.cons c26.g (.nil _)))))⟩

theorem bodyK_len (q : TQ) (hb : q.bts.length ≤ 549750000000) : ∀ k, k ≤ 5 → (bodyK k q).length ≤ 549750001000 := by
  have hn := q.name.2
  have hs := sizeB_len (q.bts.length : Int)
  have l4 : ∀ n : Int, (le 4 n).length = 4 := fun n => le_len 4 n
  exact k_all (by simp [bodyK]) (by simp [bodyK, hn]) (by simp [bodyK, hn, l4]) (by simp [bodyK]; omega) (by simp [bodyK, l4]) (by simp [bodyK, l4])

set_option maxRecDepth 20000 in
set_option maxHeartbeats 4000000 in
theorem c10 : ACon Try.prog 10 F10 := by
  refine aconc E_ok (rs := [.tmp 2 24, .tmp 3 28]) Try.func10 rfl Try.ntmps10 (by kernel_rfl) rfl (by decide) F10 (np := 1) ?_ ?_
  · intro ts h; unfold F10; split <;> first | rfl | (simp at h; done)
  intro ts H r hF hwf
  unfold F10 at hF
  split at hF <;> try (cases hF; done)
  split at hF <;> try (cases hF; done)
  rename_i q hq
  split at hF
  case isFalse => cases hF
  rename_i hb
  cases hF
  obtain rfl := inv_inv hq
  have hsame := readQ_same q
  have hput : putQ q = if mayQ q = true then q.op :: bodyQ q else [] := rfl
  have hpe : putQe q = if mayQ q = true then 0 else 1 := rfl
  have hn := q.name.2
  have hbl := bodyK_len q hb (kQ q.op) (kQ_le _)
  have hbo : bodyQ q = bodyK (kQ q.op) q := rfl
  have hof : UInt8.ofNat q.op.toNat = q.op := UInt8.ofNat_toNat ..
  have h2 := read_q (b := q.op :: bodyQ q) (by rw [List.length_cons, hbo]; omega)
  have h3 := same_q (readQ (q.op :: bodyQ q)).1 q
  have hla : G23 [.bx (.st [.own 1]), .by [q.op]] [.ptr 0 0 []] = some ([.bx (.st [.own 1]), .by [q.op]], .st [.clo 1000039 [.ptr 0 0 []], .clo 1000040 [.ptr 0 0 []], .clo 1000041 [.ptr 0 0 []], .clo 1000042 [.ptr 0 0 []], .clo 1000043 [.ptr 0 0 []], .clo 1000044 [.ptr 0 0 []], .clo 1000045 [.ptr 0 0 []], .clo 1000046 [.ptr 0 0 []]]) := rfl
  have hq0 : kQ q.op = 0 → G24 [.bx (.st [.own 1]), .by [q.op], .bx (.t (qT q))] [.st [.clo 1000039 [.ptr 0 0 []], .clo 1000040 [.ptr 0 0 []], .clo 1000041 [.ptr 0 0 []], .clo 1000042 [.ptr 0 0 []], .clo 1000043 [.ptr 0 0 []], .clo 1000044 [.ptr 0 0 []], .clo 1000045 [.ptr 0 0 []], .clo 1000046 [.ptr 0 0 []]], .ptr 2 0 []] = some ([.bx (.st [.own 1]), .by [q.op], .bx (.t (qT q))], .tup []) := fun hk => by
    simp only [G24, inv_of qT_inj]
    rw [if_pos ⟨trivial, trivial, trivial, by simp, by omega⟩]
    simp only [hk]
  have hq1 : kQ q.op = 1 → G24 [.bx (.st [.own 1]), .by [q.op], .bx (.t (qT q))] [.st [.clo 1000039 [.ptr 0 0 []], .clo 1000040 [.ptr 0 0 []], .clo 1000041 [.ptr 0 0 []], .clo 1000042 [.ptr 0 0 []], .clo 1000043 [.ptr 0 0 []], .clo 1000044 [.ptr 0 0 []], .clo 1000045 [.ptr 0 0 []], .clo 1000046 [.ptr 0 0 []]], .ptr 2 0 []] = some ([.bx (.st [.own 3]), .no, .bx (.t (qT q)), .by ([q.op] ++ bodyK 1 q)], .tup []) := fun hk => by
    simp only [G24, inv_of qT_inj]
    rw [if_pos ⟨trivial, trivial, trivial, by simp, by omega⟩]
    simp only [hk]
  have hq2 : kQ q.op = 2 → G24 [.bx (.st [.own 1]), .by [q.op], .bx (.t (qT q))] [.st [.clo 1000039 [.ptr 0 0 []], .clo 1000040 [.ptr 0 0 []], .clo 1000041 [.ptr 0 0 []], .clo 1000042 [.ptr 0 0 []], .clo 1000043 [.ptr 0 0 []], .clo 1000044 [.ptr 0 0 []], .clo 1000045 [.ptr 0 0 []], .clo 1000046 [.ptr 0 0 []]], .ptr 2 0 []] = some ([.bx (.st [.own 3]), .no, .bx (.t (qT q)), .by ([q.op] ++ bodyK 2 q)], .tup []) := fun hk => by
    simp only [G24, inv_of qT_inj]
    rw [if_pos ⟨trivial, trivial, trivial, by simp, by omega⟩]
    simp only [hk]
  have hq3 : kQ q.op = 3 → G24 [.bx (.st [.own 1]), .by [q.op], .bx (.t (qT q))] [.st [.clo 1000039 [.ptr 0 0 []], .clo 1000040 [.ptr 0 0 []], .clo 1000041 [.ptr 0 0 []], .clo 1000042 [.ptr 0 0 []], .clo 1000043 [.ptr 0 0 []], .clo 1000044 [.ptr 0 0 []], .clo 1000045 [.ptr 0 0 []], .clo 1000046 [.ptr 0 0 []]], .ptr 2 0 []] = some ([.bx (.st [.own 3]), .by [q.op], .bx (.t (qT q)), .by ([q.op] ++ bodyK 3 q)], .tup []) := fun hk => by
    simp only [G24, inv_of qT_inj]
    rw [if_pos ⟨trivial, trivial, trivial, by simp, by omega⟩]
    simp only [hk]
  have hq4 : kQ q.op = 4 → G24 [.bx (.st [.own 1]), .by [q.op], .bx (.t (qT q))] [.st [.clo 1000039 [.ptr 0 0 []], .clo 1000040 [.ptr 0 0 []], .clo 1000041 [.ptr 0 0 []], .clo 1000042 [.ptr 0 0 []], .clo 1000043 [.ptr 0 0 []], .clo 1000044 [.ptr 0 0 []], .clo 1000045 [.ptr 0 0 []], .clo 1000046 [.ptr 0 0 []]], .ptr 2 0 []] = some ([.bx (.st [.own 3]), .by [q.op], .bx (.t (qT q)), .by ([q.op] ++ bodyK 4 q)], .tup []) := fun hk => by
    simp only [G24, inv_of qT_inj]
    rw [if_pos ⟨trivial, trivial, trivial, by simp, by omega⟩]
    simp only [hk]
  have hq5 : kQ q.op = 5 → G24 [.bx (.st [.own 1]), .by [q.op], .bx (.t (qT q))] [.st [.clo 1000039 [.ptr 0 0 []], .clo 1000040 [.ptr 0 0 []], .clo 1000041 [.ptr 0 0 []], .clo 1000042 [.ptr 0 0 []], .clo 1000043 [.ptr 0 0 []], .clo 1000044 [.ptr 0 0 []], .clo 1000045 [.ptr 0 0 []], .clo 1000046 [.ptr 0 0 []]], .ptr 2 0 []] = some ([.bx (.st [.own 3]), .by [q.op], .bx (.t (qT q)), .by ([q.op] ++ bodyK 5 q)], .tup []) := fun hk => by
    simp only [G24, inv_of qT_inj]
    rw [if_pos ⟨trivial, trivial, trivial, by simp, by omega⟩]
    simp only [hk]
  generalize readQ (q.op :: bodyQ q) = R at *
  obtain ⟨p, w⟩ := R
  dsimp only at h2 h3 hsame
  have hpn := p.name.2
  generalize putQ q = PQ at *
  generalize putQe q = PE at *
  generalize mayQ q = M at *
  have hcase : (w = false ∧ M = false) ∨ (w = true ∧ decide (p = q) = false ∧ M = false) ∨ (w = true ∧ decide (p = q) = true ∧ M = true) := by
    cases w with
    | false => exact .inl ⟨rfl, hsame.symm⟩
    | true =>
      rw [Bool.true_and] at hsame
      cases hd : decide (p = q) with
      | false => rw [hd] at hsame; exact .inr (.inl ⟨rfl, rfl, hsame.symm⟩)
      | true => rw [hd] at hsame; exact .inr (.inr ⟨rfl, rfl, hsame.symm⟩)
  generalize decide (p = q) = D at *
  rw [hbo] at h2 hput
  have hkc := kQ_cases q.op
  generalize kQ q.op = k at *
  rw [qT_st] at h2
  rw [qT_st, qT_st] at h3
  rw [qT_st]
  rw [qT_st] at hq0 hq1 hq2 hq3 hq4 hq5
  rcases hkc with rfl | rfl | rfl | rfl | rfl | rfl
  · have hqz := hq1 rfl
    clear hq0 hq1 hq2 hq3 hq4 hq5
    have hab : [q.op] ++ bodyK 1 q = q.op :: bodyK 1 q := rfl
    rw [hab] at hqz
    rcases hcase with ⟨rfl, rfl⟩ | ⟨rfl, rfl, rfl⟩ | ⟨rfl, rfl, rfl⟩
    · obtain rfl : PQ = [] := hput
      obtain rfl : PE = 1 := hpe
      repeat refine St (And.intro hla <| And.intro hqz <| And.intro hof <| And.intro hn <| And.intro h2 <| hpn) ct10 ?_
      exact AWP.ret (Fin trivial [] [])
    · obtain rfl : PQ = [] := hput
      obtain rfl : PE = 1 := hpe
      repeat refine St (And.intro hla <| And.intro hqz <| And.intro hof <| And.intro hn <| And.intro h2 <| And.intro h3 <| hpn) ct10 ?_
      exact AWP.ret (Fin trivial [] [])
    · obtain rfl : PQ = q.op :: bodyK 1 q := hput
      obtain rfl : PE = 0 := hpe
      repeat refine St (And.intro hla <| And.intro hqz <| And.intro hof <| And.intro hn <| And.intro h2 <| And.intro h3 <| hpn) ct10 ?_
      exact AWP.ret (Fin trivial [4] [])
  · have hqz := hq2 rfl
    clear hq0 hq1 hq2 hq3 hq4 hq5
    have hab : [q.op] ++ bodyK 2 q = q.op :: bodyK 2 q := rfl
    rw [hab] at hqz
    rcases hcase with ⟨rfl, rfl⟩ | ⟨rfl, rfl, rfl⟩ | ⟨rfl, rfl, rfl⟩
    · obtain rfl : PQ = [] := hput
      obtain rfl : PE = 1 := hpe
      repeat refine St (And.intro hla <| And.intro hqz <| And.intro hof <| And.intro hn <| And.intro h2 <| hpn) ct10 ?_
      exact AWP.ret (Fin trivial [] [])
    · obtain rfl : PQ = [] := hput
      obtain rfl : PE = 1 := hpe
      repeat refine St (And.intro hla <| And.intro hqz <| And.intro hof <| And.intro hn <| And.intro h2 <| And.intro h3 <| hpn) ct10 ?_
      exact AWP.ret (Fin trivial [] [])
    · obtain rfl : PQ = q.op :: bodyK 2 q := hput
      obtain rfl : PE = 0 := hpe
      repeat refine St (And.intro hla <| And.intro hqz <| And.intro hof <| And.intro hn <| And.intro h2 <| And.intro h3 <| hpn) ct10 ?_
      exact AWP.ret (Fin trivial [4] [])
  · have hqz := hq3 rfl
    clear hq0 hq1 hq2 hq3 hq4 hq5
    have hab : [q.op] ++ bodyK 3 q = q.op :: bodyK 3 q := rfl
    rw [hab] at hqz
    rcases hcase with ⟨rfl, rfl⟩ | ⟨rfl, rfl, rfl⟩ | ⟨rfl, rfl, rfl⟩
    · obtain rfl : PQ = [] := hput
      obtain rfl : PE = 1 := hpe
      repeat refine St (And.intro hla <| And.intro hqz <| And.intro hof <| And.intro hn <| And.intro h2 <| hpn) ct10 ?_
      exact AWP.ret (Fin trivial [] [])
    · obtain rfl : PQ = [] := hput
      obtain rfl : PE = 1 := hpe
      repeat refine St (And.intro hla <| And.intro hqz <| And.intro hof <| And.intro hn <| And.intro h2 <| And.intro h3 <| hpn) ct10 ?_
      exact AWP.ret (Fin trivial [] [])
    · obtain rfl : PQ = q.op :: bodyK 3 q := hput
      obtain rfl : PE = 0 := hpe
      repeat refine St (And.intro hla <| And.intro hqz <| And.intro hof <| And.intro hn <| And.intro h2 <| And.intro h3 <| hpn) ct10 ?_
      exact AWP.ret (Fin trivial [4] [])
  · have hqz := hq4 rfl
    clear hq0 hq1 hq2 hq3 hq4 hq5
    have hab : [q.op] ++ bodyK 4 q = q.op :: bodyK 4 q := rfl
    rw [hab] at hqz
    rcases hcase with ⟨rfl, rfl⟩ | ⟨rfl, rfl, rfl⟩ | ⟨rfl, rfl, rfl⟩
    · obtain rfl : PQ = [] := hput
      obtain rfl : PE = 1 := hpe
      repeat refine St (And.intro hla <| And.intro hqz <| And.intro hof <| And.intro hn <| And.intro h2 <| hpn) ct10 ?_
      exact AWP.ret (Fin trivial [] [])
    · obtain rfl : PQ = [] := hput
      obtain rfl : PE = 1 := hpe
      repeat refine St (And.intro hla <| And.intro hqz <| And.intro hof <| And.intro hn <| And.intro h2 <| And.intro h3 <| hpn) ct10 ?_
      exact AWP.ret (Fin trivial [] [])
    · obtain rfl : PQ = q.op :: bodyK 4 q := hput
      obtain rfl : PE = 0 := hpe
      repeat refine St (And.intro hla <| And.intro hqz <| And.intro hof <| And.intro hn <| And.intro h2 <| And.intro h3 <| hpn) ct10 ?_
      exact AWP.ret (Fin trivial [4] [])
  · have hqz := hq5 rfl
    clear hq0 hq1 hq2 hq3 hq4 hq5
    have hab : [q.op] ++ bodyK 5 q = q.op :: bodyK 5 q := rfl
    rw [hab] at hqz
    rcases hcase with ⟨rfl, rfl⟩ | ⟨rfl, rfl, rfl⟩ | ⟨rfl, rfl, rfl⟩
    · obtain rfl : PQ = [] := hput
      obtain rfl : PE = 1 := hpe
      repeat refine St (And.intro hla <| And.intro hqz <| And.intro hof <| And.intro hn <| And.intro h2 <| hpn) ct10 ?_
      exact AWP.ret (Fin trivial [] [])
    · obtain rfl : PQ = [] := hput
      obtain rfl : PE = 1 := hpe
      repeat refine St (And.intro hla <| And.intro hqz <| And.intro hof <| And.intro hn <| And.intro h2 <| And.intro h3 <| hpn) ct10 ?_
      exact AWP.ret (Fin trivial [] [])
    · obtain rfl : PQ = q.op :: bodyK 5 q := hput
      obtain rfl : PE = 0 := hpe
      repeat refine St (And.intro hla <| And.intro hqz <| And.intro hof <| And.intro hn <| And.intro h2 <| And.intro h3 <| hpn) ct10 ?_
      exact AWP.ret (Fin trivial [4] [])
  · have hqz := hq0 rfl
    clear hq0 hq1 hq2 hq3 hq4 hq5
    have hab : [q.op] ++ bodyK 0 q = q.op :: bodyK 0 q := rfl
    have h00 : bodyK 0 q = [] := rfl
    rw [h00] at h2 hput
    rcases hcase with ⟨rfl, rfl⟩ | ⟨rfl, rfl, rfl⟩ | ⟨rfl, rfl, rfl⟩
    · obtain rfl : PQ = [] := hput
      obtain rfl : PE = 1 := hpe
      repeat refine St (And.intro hla <| And.intro hqz <| And.intro hof <| And.intro hn <| And.intro h2 <| hpn) ct10 ?_
      exact AWP.ret (Fin trivial [] [])
    · obtain rfl : PQ = [] := hput
      obtain rfl : PE = 1 := hpe
      repeat refine St (And.intro hla <| And.intro hqz <| And.intro hof <| And.intro hn <| And.intro h2 <| And.intro h3 <| hpn) ct10 ?_
      exact AWP.ret (Fin trivial [] [])
    · obtain rfl : PQ = q.op :: bodyK 0 q := hput
      obtain rfl : PE = 0 := hpe
      repeat refine St (And.intro hla <| And.intro hqz <| And.intro hof <| And.intro hn <| And.intro h2 <| And.intro h3 <| hpn) ct10 ?_
      exact AWP.ret (Fin h00 [1] [])

theorem puq_c {q : TQ} (h : q.bts.length ≤ 549750000000) : F10 [qT q] = some ([], .tup [.t (.by (putQ q)), .t (.int .i64 (putQe q))]) := by
  simp only [F10, inv_of qT_inj]; exact if_pos h

end Go.Fw

end

section
/- compact's answer: bytes laid. -/
namespace Go.Fw
open Go Go.Proofs
set_option linter.unusedVariables false
set_option linter.unusedSimpArgs false

def F28 : Fun
  | [.by b, .int .u64 n, .int .i64 m] => if b.length ≤ 549755813000 ∧ 0 ≤ m ∧ m ≤ 16 then some ([.by (b ++ le m.toNat n)], .own 0) else none
  | _ => none

theorem ct28 : CT [] [0, 1, 2, 6, 7, 8, 14] [] := ⟨GClOk.nil _⟩

theorem c28 : ACon Try.prog 28 F28 := by
  refine aconc E_ok (rs := [.tmp 6 24]) Try.func28 rfl Try.ntmps28 (by kernel_rfl) rfl (by decide) F28 (np := 3) ?_ ?_
  · intro ts h; unfold F28; split <;> first | rfl | (simp at h; done)
  intro ts H r hF hwf
  unfold F28 at hF
  split at hF <;> try (cases hF; done)
  rename_i b n m
  split at hF
  case isFalse => cases hF
  rename_i hc
  obtain ⟨hb, h0, h1⟩ := hc
  cases hF
  have hn := inK_u64 (hwf (.int .u64 n) (by simp))
  repeat refine St trivial ct28 ?_
  refine AWP.loop (G := { k : Nat // k ≤ m.toNat }) (fun k => ⟨[(1, .t (.int .u64 (shrB k.1 n))), (2, .t (.int .i64 m)), (7, .own 0), (8, .t (.int .i64 (k.1 : Int)))], [.by (b ++ le k.1 n)]⟩)
    (fun k => m.toNat - k.1) ⟨0, by omega⟩ (Wt (And.intro (And.intro @shrB.eq_1 <| @shrB.eq_2) <| (And.intro @le.eq_1 <| @le.eq_2)) [1, 2, 7, 8] [1]) ?_
  intro ⟨k, hk⟩
  dsimp only
  by_cases hlt : (k : Int) < m
  · have hl : (b ++ le k n).length ≤ 549755813100 := by simp [le_len]; omega
    have hr := shrB_range k n hn.1 hn.2
    have hq : IntKind.u64.wrap ((shrB k n).tdiv 256) = (shrB k n).fdiv 256 := by
      rw [tdiv_256 hr.1]
      have := shrB_range (k + 1) n hn.1 hn.2
      exact wrap_u64 this.1 this.2
    repeat refine St (And.intro hq <| @le_len) ct28 ?_
    exact ⟨⟨k + 1, by omega⟩, (Wt (And.intro (And.intro @shrB.eq_1 <| @shrB.eq_2) <| And.intro (And.intro @le.eq_1 <| @le.eq_2) <| @List.append_assoc.{0}) [1, 2, 7, 8] [2]), by simp only; omega⟩
  · obtain rfl : k = m.toNat := by omega
    repeat refine St trivial ct28 ?_
    exact AWP.ret (Fin trivial [] [0])

theorem put_c {b : List UInt8} (n : Int) (m : Int) (hb : b.length ≤ 549755813000) (h0 : 0 ≤ m) (h1 : m ≤ 16) : F28 [.by b, .int .u64 n, .int .i64 m] = some ([.by (b ++ le m.toNat n)], .own 0) := if_pos ⟨hb, h0, h1⟩

def F50 : Fun
  | [.by b, .int .u64 n] => if b.length ≤ 549755812000 then some ([.by (b ++ sizeB n)], .own 0) else none
  | _ => none

theorem ct50 : CT [(28, ⟨[false, false, false], treeG F28⟩)] [0, 1, 4, 5, 11, 18] [] := ⟨(.cons c28.g (.nil _))⟩

theorem c50 : ACon Try.prog 50 F50 := by
  refine aconc E_ok (rs := [.tmp 4 24]) Try.func50 rfl Try.ntmps50 (by kernel_rfl) rfl (by decide) F50 (np := 2) ?_ ?_
  · intro ts h; unfold F50; split <;> first | rfl | (simp at h; done)
  intro ts H r hF hwf
  unfold F50 at hF
  split at hF <;> try (cases hF; done)
  rename_i b n
  split at hF
  case isFalse => cases hF
  rename_i hc
  have hb := hc
  cases hF
  have hn := inK_u64 (hwf (.int .u64 n) (by simp))
  have h8 : ∀ c : Int, F28 [.by b, .int .u64 c, .int .i64 1] = some ([.by (b ++ le 1 c)], .own 0) := fun c => put_c c 1 (by omega) (by omega) (by omega)
  have hl : ∀ c : Int, (b ++ le 1 c).length ≤ 549755813000 := fun c => by simp [le_len]; omega
  have h16 : ∀ c d : Int, F28 [.by (b ++ le 1 c), .int .u64 d, .int .i64 2] = some ([.by (b ++ le 1 c ++ le 2 d)], .own 0) := fun c d => put_c d 2 (hl c) (by omega) (by omega)
  have h32 : ∀ c d : Int, F28 [.by (b ++ le 1 c), .int .u64 d, .int .i64 4] = some ([.by (b ++ le 1 c ++ le 4 d)], .own 0) := fun c d => put_c d 4 (hl c) (by omega) (by omega)
  have h64 : ∀ c d : Int, F28 [.by (b ++ le 1 c), .int .u64 d, .int .i64 8] = some ([.by (b ++ le 1 c ++ le 8 d)], .own 0) := fun c d => put_c d 8 (hl c) (by omega) (by omega)
  by_cases h1 : n < 253
  · repeat refine St h8 ct50 ?_
    exact AWP.ret (Fin (And.intro @sizeB.eq_def <| h1) [] [0])
  by_cases h2 : n < 65536
  · repeat refine St (And.intro h8 <| h16) ct50 ?_
    exact AWP.ret (Fin (And.intro @sizeB.eq_def <| And.intro h1 <| And.intro h2 <| @List.append_assoc.{0}) [] [1])
  by_cases h3 : n < 4294967296
  · repeat refine St (And.intro h8 <| h32) ct50 ?_
    exact AWP.ret (Fin (And.intro @sizeB.eq_def <| And.intro h1 <| And.intro h2 <| And.intro h3 <| @List.append_assoc.{0}) [] [1])
  repeat refine St (And.intro h8 <| h64) ct50 ?_
  exact AWP.ret (Fin (And.intro @sizeB.eq_def <| And.intro h1 <| And.intro h2 <| And.intro h3 <| @List.append_assoc.{0}) [] [1])

def F29 : Fun
  | [.by b, .by x] => if b.length + x.length ≤ 549755800000 then some ([.by (b ++ sizeB x.length ++ x)], .own 0) else none
  | _ => none

theorem ct29 : CT [(50, ⟨[false, false], treeG F50⟩)] [0, 1, 4, 5] [] := ⟨(.cons c50.g (.nil _))⟩

theorem c29 : ACon Try.prog 29 F29 := by
  refine aconc E_ok (rs := [.tmp 4 24]) Try.func29 rfl Try.ntmps29 (by kernel_rfl) rfl (by decide) F29 (np := 2) ?_ ?_
  · intro ts h; unfold F29; split <;> first | rfl | (simp at h; done)
  intro ts H r hF hwf
  unfold F29 at hF
  split at hF <;> try (cases hF; done)
  rename_i b x
  split at hF
  case isFalse => cases hF
  rename_i hc
  have hb := hc
  cases hF
  have hs := sizeB_len (x.length : Int)
  have h : F50 [.by b, .int .u64 (x.length : Int)] = some ([.by (b ++ sizeB x.length)], .own 0) := if_pos (by omega)
  have hl : (b ++ sizeB x.length).length ≤ 549755812000 := by simp; omega
  repeat refine St h ct29 ?_
  exact AWP.ret (Fin trivial [] [1])

end Go.Fw

end

section
/- compact's answer: bytes taken apart. -/
namespace Go.Fw
open Go Go.Proofs
set_option linter.unusedVariables false
set_option linter.unusedSimpArgs false

def F52 : Fun
  | [.by b, .int .i64 n] => if b.length ≤ 549755813000 then some ([], .tup [.t (.by (spA b n)), .t (.by (spB b n)), .t (.int .i64 (spE b n))]) else none
  | _ => none

theorem ct52 : CT [] [0, 1, 4, 5, 6, 7, 8, 10, 14] [] := ⟨GClOk.nil _⟩

theorem c52 : ACon Try.prog 52 F52 := by
  refine aconc E_ok (rs := [.tmp 4 24, .tmp 5 24, .tmp 6 28]) Try.func52 rfl Try.ntmps52 (by kernel_rfl) rfl (by decide) F52 (np := 2) ?_ ?_
  · intro ts h; unfold F52; split <;> first | rfl | (simp at h; done)
  intro ts H r hF hwf
  unfold F52 at hF
  split at hF <;> try (cases hF; done)
  rename_i b n
  split at hF
  case isFalse => cases hF
  rename_i hc
  have hb := hc
  cases hF
  by_cases h1 : n < 0
  · repeat refine St trivial ct52 ?_
    exact AWP.ret (Fin (And.intro @spA.eq_def <| And.intro @spB.eq_def <| And.intro @spE.eq_def <| h1) [] [])
  by_cases h2 : (b.length : Int) < n
  · repeat refine St trivial ct52 ?_
    exact AWP.ret (Fin (And.intro @spA.eq_def <| And.intro @spB.eq_def <| And.intro @spE.eq_def <| And.intro h1 <| h2) [] [])
  repeat refine St trivial ct52 ?_
  exact AWP.ret (Fin (And.intro @spA.eq_def <| And.intro @spB.eq_def <| And.intro @spE.eq_def <| And.intro h1 <| h2) [1, 3] [])

def F51 : Fun
  | [.by b, .int .i64 n] => if b.length ≤ 549755813000 ∧ n ≤ 8 then some ([], .tup [.t (.int .u64 (num (spA b n))), .t (.by (spB b n)), .t (.int .i64 (spE b n))]) else none
  | _ => none

theorem ct51 : CT [(52, ⟨[false, false], treeG F52⟩)] [0, 1, 4, 5, 6, 7, 8, 9, 10, 11, 23] [] := ⟨(.cons c52.g (.nil _))⟩

theorem c51 : ACon Try.prog 51 F51 := by
  refine aconc E_ok (rs := [.tmp 4 40, .tmp 5 24, .tmp 6 28]) Try.func51 rfl Try.ntmps51 (by kernel_rfl) rfl (by decide) F51 (np := 2) ?_ ?_
  · intro ts h; unfold F51; split <;> first | rfl | (simp at h; done)
  intro ts H r hF hwf
  unfold F51 at hF
  split at hF <;> try (cases hF; done)
  rename_i b n
  split at hF
  case isFalse => cases hF
  rename_i hc
  obtain ⟨hb, hn⟩ := hc
  cases hF
  have h8 := spA_le b n 8 hn
  have ht : F52 [.by b, .int .i64 n] = some ([], .tup [.t (.by (spA b n)), .t (.by (spB b n)), .t (.int .i64 (spE b n))]) := if_pos hb
  generalize hx : spA b n = x at *
  repeat refine St ht ct51 ?_
  have hz : num (x.drop x.length) = 0 := by simp [num]
  refine AWP.loop (G := { k : Nat // k ≤ x.length }) (fun k => ⟨[(7, .t (.by x)), (8, .t (.by (spB b n))), (9, .t (.int .i64 (spE b n))), (10, .t (.int .u64 (num (x.drop k.1)))), (11, .t (.int .i64 ((k.1 : Int) - 1)))], []⟩)
    (fun k => k.1) ⟨x.length, by omega⟩ (Wt (And.intro hz <| (And.intro @num.eq_1 <| @num.eq_2)) [7, 8, 9, 10, 11] []) ?_
  intro ⟨k, hk⟩
  dsimp only
  by_cases hlt : 0 ≤ (k : Int) - 1
  · obtain ⟨j, rfl⟩ : ∃ j, k = j + 1 := ⟨k - 1, by omega⟩
    have hj : (((j + 1 : Nat) : Int) - 1) = (j : Int) := by omega
    have hd := num_drop x j (by omega)
    have h88 := num_lt8 (x.drop j) (by simp; omega)
    have hc := (x.getD j 0).toNat_lt
    have hw1 : IntKind.u64.wrap ((num (x.drop (j + 1)) : Int) * 256) = (num (x.drop (j + 1)) : Int) * 256 := wrap_u64 (by omega) (by omega)
    have hw2 : IntKind.u64.wrap ((x.getD j 0).toNat : Int) = ((x.getD j 0).toNat : Int) := wrap_u64 (by omega) (by omega)
    have hw3 : IntKind.u64.wrap ((num (x.drop (j + 1)) : Int) * 256 + ((x.getD j 0).toNat : Int)) = (num (x.drop j) : Int) := by rw [wrap_u64 (by omega) (by omega)]; omega
    have hjx : j < x.length := by omega
    repeat refine St (And.intro hj <| And.intro hw1 <| And.intro hw2 <| And.intro hw3 <| hjx) ct51 ?_
    exact ⟨⟨j, by omega⟩, (Wt trivial [7, 8, 9, 10, 11] []), by simp only; omega⟩
  · obtain rfl : k = 0 := by omega
    repeat refine St trivial ct51 ?_
    exact AWP.ret (Fin (@List.drop_zero.{0}) [] [])

theorem number_c (l : List UInt8) (n : Int) (h0 : l.length ≤ 549755813000) (h : n ≤ 8) : F51 [.by l, .int .i64 n] = some ([], .tup [.t (.int .u64 (num (spA l n))), .t (.by (spB l n)), .t (.int .i64 (spE l n))]) := if_pos ⟨h0, h⟩

def F79 : Fun
  | [.by b] => if b.length ≤ 549755813000 then some ([], .tup [.t (.int .u64 ((sz b).1 : Nat)), .t (.by (sz b).2.1), .t (.int .i64 (sz b).2.2)]) else none
  | _ => none

theorem ct79 : CT [(51, ⟨[false, false], treeG F51⟩)] [0, 2, 3, 4, 5, 6, 7, 8, 9, 21, 26, 28, 42] [] := ⟨(.cons c51.g (.nil _))⟩

set_option maxHeartbeats 2000000 in
theorem c79 : ACon Try.prog 79 F79 := by
  refine aconc E_ok (rs := [.tmp 2 40, .tmp 3 24, .tmp 4 28]) Try.func79 rfl Try.ntmps79 (by kernel_rfl) rfl (by decide) F79 (np := 1) ?_ ?_
  · intro ts h; unfold F79; split <;> first | rfl | (simp at h; done)
  intro ts H r hF hwf
  unfold F79 at hF
  split at hF <;> try (cases hF; done)
  rename_i b
  split at hF
  case isFalse => cases hF
  rename_i hc
  have hb := hc
  cases hF
  have hl := spB_len b 1
  have r1 := number_c b 1 (by omega) (by omega)
  have r2 := number_c (spB b 1) 2 (by omega) (by omega)
  have r4 := number_c (spB b 1) 4 (by omega) (by omega)
  have r8 := number_c (spB b 1) 8 (by omega) (by omega)
  have hsz := sz.eq_1 b
  have hbad := @sp_bad b 1
  have hlt := num_lt1 (spA b 1) (spA_le b 1 1 (by omega))
  have b2 := @sp_bad (spB b 1) 2
  have b4 := @sp_bad (spB b 1) 4
  have b8 := @sp_bad (spB b 1) 8
  generalize sz b = R at *
  generalize spB b 1 = y at *
  by_cases h1 : spE b 1 = 0
  case neg =>
    simp only [h1, ne_eq, not_false_eq_true, if_true] at hsz
    obtain ⟨e1, e2⟩ := hbad h1
    subst e2
    rw [e1] at r1
    have h1' : (spE b 1 != 0) = true := by simpa using h1
    repeat refine St (And.intro r1 <| h1') ct79 ?_
    exact AWP.ret (Fin (And.intro hsz <| (And.intro @num.eq_1 <| @num.eq_2)) [] [])
  simp only [h1, ne_eq, not_true_eq_false, if_false] at hsz
  rw [h1] at r1
  obtain ⟨x, hx⟩ : ∃ x : Nat, num (spA b 1) = x := ⟨_, rfl⟩
  rw [hx] at hsz r1 hlt
  by_cases h253 : x = 253
  case pos =>
    subst h253
    simp only [Nat.reduceEqDiff, if_true, if_false] at hsz
    unfold rdR at hsz
    by_cases k1 : spE y 2 = 0
    case neg =>
      simp only [k1, ne_eq, not_false_eq_true, if_true] at hsz
      obtain ⟨e1, e2⟩ := b2 k1
      rw [e1, e2] at r2
      have k1' : (spE y 2 == 0) = false := by simpa using k1
      repeat refine St (And.intro r1 <| And.intro r2 <| k1') ct79 ?_
      exact AWP.ret (Fin (And.intro hsz <| (And.intro @num.eq_1 <| @num.eq_2)) [] [])
    simp only [k1, ne_eq, not_true_eq_false, if_false] at hsz
    rw [k1] at r2
    split at hsz
    · repeat refine St (And.intro r1 <| r2) ct79 ?_
      exact AWP.ret (Fin hsz [] [])
    · repeat refine St (And.intro r1 <| r2) ct79 ?_
      exact AWP.ret (Fin hsz [] [])
  by_cases h254 : x = 254
  case pos =>
    subst h254
    simp only [Nat.reduceEqDiff, if_true, if_false] at hsz
    unfold rdR at hsz
    by_cases k1 : spE y 4 = 0
    case neg =>
      simp only [k1, ne_eq, not_false_eq_true, if_true] at hsz
      obtain ⟨e1, e2⟩ := b4 k1
      rw [e1, e2] at r4
      have k1' : (spE y 4 == 0) = false := by simpa using k1
      repeat refine St (And.intro r1 <| And.intro r4 <| k1') ct79 ?_
      exact AWP.ret (Fin (And.intro hsz <| (And.intro @num.eq_1 <| @num.eq_2)) [] [])
    simp only [k1, ne_eq, not_true_eq_false, if_false] at hsz
    rw [k1] at r4
    split at hsz
    · repeat refine St (And.intro r1 <| r4) ct79 ?_
      exact AWP.ret (Fin hsz [] [])
    · repeat refine St (And.intro r1 <| r4) ct79 ?_
      exact AWP.ret (Fin hsz [] [])
  by_cases h255 : x = 255
  case pos =>
    subst h255
    simp only [Nat.reduceEqDiff, if_true, if_false] at hsz
    unfold rdR at hsz
    by_cases k1 : spE y 8 = 0
    case neg =>
      simp only [k1, ne_eq, not_false_eq_true, if_true] at hsz
      obtain ⟨e1, e2⟩ := b8 k1
      rw [e1, e2] at r8
      have k1' : (spE y 8 == 0) = false := by simpa using k1
      repeat refine St (And.intro r1 <| And.intro r8 <| k1') ct79 ?_
      exact AWP.ret (Fin (And.intro hsz <| (And.intro @num.eq_1 <| @num.eq_2)) [] [])
    simp only [k1, ne_eq, not_true_eq_false, if_false] at hsz
    rw [k1] at r8
    split at hsz
    · repeat refine St (And.intro r1 <| r8) ct79 ?_
      exact AWP.ret (Fin hsz [] [])
    · repeat refine St (And.intro r1 <| r8) ct79 ?_
      exact AWP.ret (Fin hsz [] [])
  simp only [h253, h254, h255, if_false] at hsz
  repeat refine St r1 ct79 ?_
  exact AWP.ret (Fin hsz [] [])

def F80 : Fun
  | [.int .u64 n, .int .i64 most] => some ([], .t (.bool (decide (most < 0 ∨ most < n))))
  | _ => none

theorem ct80 : CT [] [0, 1, 4] [] := ⟨GClOk.nil _⟩

theorem c80 : ACon Try.prog 80 F80 := by
  refine aconc E_ok (rs := [.tmp 4 4]) Try.func80 rfl Try.ntmps80 (by kernel_rfl) rfl (by decide) F80 (np := 2) ?_ ?_
  · intro ts h; unfold F80; split <;> first | rfl | (simp at h; done)
  intro ts H r hF hwf
  unfold F80 at hF
  split at hF <;> try (cases hF; done)
  rename_i n most
  cases hF
  have hm := inK_i64 (hwf (.int .i64 most) (by simp))
  by_cases h1 : most < 0
  · repeat refine St h1 ct80 ?_
    exact AWP.ret (Fin h1 [] [])
  · have hw : IntKind.u64.wrap most = most := wrap_u64 (by omega) (by omega)
    repeat refine St (And.intro h1 <| hw) ct80 ?_
    exact AWP.ret (Fin h1 [] [])

def F54 : Fun
  | [.by b, .int .i64 most] => if b.length ≤ 549755813000 then some ([], .tup [.t (.by (lim b most).1), .t (.by (lim b most).2.1), .t (.int .i64 (lim b most).2.2)]) else none
  | _ => none

theorem ct54 : CT [(52, ⟨[false, false], treeG F52⟩), (79, ⟨[false], treeG F79⟩), (80, ⟨[false, false], treeG F80⟩)] [0, 1, 4, 5, 6, 7, 8, 9, 17, 21, 26] [] := ⟨(.cons c52.g (.cons c79.g (.cons c80.g (.nil _))))⟩

theorem c54 : ACon Try.prog 54 F54 := by
  refine aconc E_ok (rs := [.tmp 4 24, .tmp 5 24, .tmp 6 28]) Try.func54 rfl Try.ntmps54 (by kernel_rfl) rfl (by decide) F54 (np := 2) ?_ ?_
  · intro ts h; unfold F54; split <;> first | rfl | (simp at h; done)
  intro ts H r hF hwf
  unfold F54 at hF
  split at hF <;> try (cases hF; done)
  rename_i b most
  split at hF
  case isFalse => cases hF
  rename_i hc
  have hb := hc
  cases hF
  have hm := inK_i64 (hwf (.int .i64 most) (by simp))
  have hsl := sz_len b
  have hs : F79 [.by b] = some ([], .tup [.t (.int .u64 ((sz b).1 : Nat)), .t (.by (sz b).2.1), .t (.int .i64 (sz b).2.2)]) := if_pos hb
  have hl := lim.eq_1 b most
  unfold bnd at hl
  generalize lim b most = R at *
  generalize sz b = Z at *
  obtain ⟨n, q, e⟩ := Z
  dsimp only at hsl hs hl
  by_cases h1 : e = 0
  case neg =>
    simp only [h1, ne_eq, not_false_eq_true, if_true] at hl
    repeat refine St (And.intro hs <| h1) ct54 ?_
    exact AWP.ret (Fin hl [] [])
  subst h1
  simp only [ne_eq, not_true_eq_false, if_false] at hl
  by_cases h2 : most < 0 ∨ most < (n : Int)
  · simp only [h2, if_true, show ¬ (4 : Int) = 0 by omega, not_false_eq_true] at hl
    repeat refine St (And.intro hs <| And.intro @F80.eq_def <| h2) ct54 ?_
    exact AWP.ret (Fin hl [] [])
  simp only [h2, if_false, not_true_eq_false] at hl
  by_cases h3 : (q.length : Int) < (n : Int)
  · repeat refine St (And.intro hs <| And.intro @F80.eq_def <| And.intro h2 <| h3) ct54 ?_
    exact AWP.ret (Fin (And.intro hl <| And.intro @spA.eq_def <| And.intro @spB.eq_def <| And.intro @spE.eq_def <| And.intro h3 <| (show ¬ (n : Int) < 0 by omega)) [] [])
  have ht : F52 [.by q, .int .i64 (n : Int)] = some ([], .tup [.t (.by (spA q n)), .t (.by (spB q n)), .t (.int .i64 (spE q n))]) := if_pos (by omega)
  repeat refine St (And.intro hs <| And.intro @F80.eq_def <| And.intro h2 <| And.intro h3 <| ht) ct54 ?_
  exact AWP.ret (Fin hl [] [])

end Go.Fw

end

section
/- rpc's answer: the tape, what is asked. -/
namespace Go.Fw
open Go Go.Proofs
set_option linter.unusedVariables false
set_option linter.unusedSimpArgs false

def hsf9 (l : List UInt8) (i : Nat) : List UInt8 := l.take i ++ List.replicate (32 - i) 0
theorem hsh_len {l : List UInt8} {i : Nat} (h : l.length = 32) (hi : i ≤ 32) : (hsf9 l i).length = 32 := by simp [hsf9]; omega
theorem hsh_set {l : List UInt8} {i : Nat} (h : l.length = 32) (hi : i < 32) : (hsf9 l i).set i (l.getD i 0) = hsf9 l (i + 1) := by
  unfold hsf9
  rw [show 32 - i = (32 - (i + 1)) + 1 by omega, List.replicate_succ, List.set_append_right _ _ (by simp; omega)]
  have e : i - (l.take i).length = 0 := by simp; omega
  rw [e, List.set_cons_zero, List.take_succ_eq_append_getElem (by omega), List.append_assoc]
  have : l.getD i 0 = l[i] := by simp [show i < l.length by omega]
  rw [this]; rfl
theorem hsh_0 (l : List UInt8) : hsf9 l 0 = zby 32 := rfl
theorem hsh_32 {l : List UInt8} (h : l.length = 32) : hsf9 l 32 = l := by unfold hsf9; rw [List.take_of_length_le (by omega)]; simp

def F53 : Fun
  | [.by l] => if l.length = 32 then some ([], .t (.ba 32 l)) else if l.length = 0 then some ([], .t (.ba 32 (zby 32))) else none
  | _ => none

theorem ct53 : CT [] [0, 2, 3, 4, 13] [] := ⟨GClOk.nil _⟩

theorem c53 : ACon Try.prog 53 F53 := by
  refine aconc E_ok (rs := [.cell 2 22]) Try.func53 rfl Try.ntmps53 (by kernel_rfl) rfl (by decide) F53 (np := 1) ?_ ?_
  · intro ts h; unfold F53; split <;> first | rfl | (simp at h; done)
  intro ts H r hF hwf
  unfold F53 at hF
  split at hF <;> try (cases hF; done)
  rename_i l
  split at hF
  · rename_i hl
    cases hF
    repeat refine St2 trivial ct53 ?_
    refine AWP.loop (G := { i : Nat // i ≤ 32 }) (fun i => ⟨[(0, .t (.by l)), (2, .ptr 0 0 []), (3, .ptr 1 0 []), (4, .t (.int .i64 (i.1 : Int)))], [.bx (.t (.ba 32 (zby 32))), .bx (.t (.ba 32 (hsf9 l i.1)))]⟩) (fun i => 32 - i.1) ⟨0, by omega⟩ (Wt @hsh_0 [0, 2, 3, 4] [0, 1]) ?_
    intro ⟨i, hi⟩
    dsimp only
    have hhl := hsh_len hl hi
    by_cases hlt : (i : Int) < (l.length : Int)
    · have hlt' : i < l.length := by omega
      have h32 : (i : Int) < 32 := by omega
      have h32' : i < 32 := by omega
      have hs := hsh_set hl h32'
      have hof : ∀ c : UInt8, UInt8.ofNat c.toNat = c := fun c => by simp
      repeat refine St2 (And.intro hlt <| And.intro hlt' <| And.intro h32 <| And.intro h32' <| And.intro hs <| And.intro hhl <| And.intro @u8.eq_def <| And.intro hof <| @T.size.eq_def) ct53 ?_
      exact ⟨⟨i + 1, by omega⟩, (Wt trivial [0, 2, 3, 4] [0, 1]), by simp only; omega⟩
    · have hend : hsf9 l i = l := by rw [show i = 32 by omega]; exact hsh_32 hl
      repeat refine St2 hlt ct53 ?_
      exact AWP.ret (Fin hend [] [])
  · split at hF
    · rename_i hl
      cases hF
      have hlt : ¬ (0 : Int) < (l.length : Int) := by omega
      repeat refine St2 trivial ct53 ?_
      refine AWP.loop (G := Unit) (fun i => ⟨[(0, .t (.by l)), (2, .ptr 0 0 []), (3, .ptr 1 0 []), (4, .t (.int .i64 0))], [.bx (.t (.ba 32 (zby 32))), .bx (.t (.ba 32 (zby 32)))]⟩) (fun i => 0) () (Wt trivial [0, 2, 3, 4] [0, 1]) ?_
      intro i
      repeat refine St2 hlt ct53 ?_
      exact AWP.ret (Fin trivial [] [])
    · cases hF


def askT : Nat → T
  | 1 => .ar 4 1 [.bool true, .bool false, .bool false, .bool false]
  | 2 => .ar 4 1 [.bool true, .bool true, .bool false, .bool false]
  | 3 => .ar 4 1 [.bool false, .bool false, .bool false, .bool true]
  | 4 => .ar 4 1 [.bool false, .bool true, .bool true, .bool false]
  | 5 => .ar 4 1 [.bool false, .bool false, .bool true, .bool false]
  | _ => .ar 4 1 [.bool false, .bool false, .bool false, .bool false]
def F27 : Fun
  | [.int .u8 n] => if 0 ≤ n ∧ n < 256 then some ([], .t (askT (kQ (UInt8.ofNat n.toNat)))) else none
  | _ => none

theorem ct27 : CT [] [0, 2, 3, 4, 8, 11, 15, 18] [] := ⟨GClOk.nil _⟩

theorem kQ_off (c : UInt8) : (c = 2 ∧ kQ c = 1) ∨ (c ≠ 2 ∧ c = 4 ∧ kQ c = 1) ∨ (c ≠ 2 ∧ c ≠ 4 ∧ c = 3 ∧ kQ c = 2) ∨ (c ≠ 2 ∧ c ≠ 4 ∧ c ≠ 3 ∧ c = 5 ∧ kQ c = 3) ∨ (c ≠ 2 ∧ c ≠ 4 ∧ c ≠ 3 ∧ c ≠ 5 ∧ c = 9 ∧ kQ c = 3) ∨ (c ≠ 2 ∧ c ≠ 4 ∧ c ≠ 3 ∧ c ≠ 5 ∧ c ≠ 9 ∧ c = 6 ∧ kQ c = 4) ∨ (c ≠ 2 ∧ c ≠ 4 ∧ c ≠ 3 ∧ c ≠ 5 ∧ c ≠ 9 ∧ c ≠ 6 ∧ c = 8 ∧ kQ c = 5) ∨ (c ≠ 2 ∧ c ≠ 4 ∧ c ≠ 3 ∧ c ≠ 5 ∧ c ≠ 9 ∧ c ≠ 6 ∧ c ≠ 8 ∧ kQ c = 0) := by
  by_cases h2 : c = 2
  · subst h2; exact .inl ⟨rfl, rfl⟩
  by_cases h4 : c = 4
  · subst h4; exact .inr (.inl ⟨h2, rfl, rfl⟩)
  by_cases h3 : c = 3
  · subst h3; exact .inr (.inr (.inl ⟨h2, h4, rfl, rfl⟩))
  by_cases h5 : c = 5
  · subst h5; exact .inr (.inr (.inr (.inl ⟨h2, h4, h3, rfl, rfl⟩)))
  by_cases h9 : c = 9
  · subst h9; exact .inr (.inr (.inr (.inr (.inl ⟨h2, h4, h3, h5, rfl, rfl⟩))))
  by_cases h6 : c = 6
  · subst h6; exact .inr (.inr (.inr (.inr (.inr (.inl ⟨h2, h4, h3, h5, h9, rfl, rfl⟩)))))
  by_cases h8 : c = 8
  · subst h8; exact .inr (.inr (.inr (.inr (.inr (.inr (.inl ⟨h2, h4, h3, h5, h9, h6, rfl, rfl⟩))))))
  exact .inr (.inr (.inr (.inr (.inr (.inr (.inr ⟨h2, h4, h3, h5, h9, h6, h8, by unfold kQ; simp [h2, h4, h3, h5, h9, h6, h8]⟩))))))
theorem d8_ne {c : UInt8} (n : UInt8) (h : c ≠ n) : ((c.toNat : Int) == (n.toNat : Int)) = false := by
  rw [beq_eq_false_iff_ne]; intro hh; exact h (n8_inj hh)
theorem d8_eq {c : UInt8} (n : UInt8) (h : c = n) : ((c.toNat : Int) == (n.toNat : Int)) = true := by rw [h]; exact beq_self_eq_true _

set_option maxHeartbeats 2000000 in
theorem c27 : ACon Try.prog 27 F27 := by
  refine aconc E_ok (rs := [.cell 2 86]) Try.func27 rfl Try.ntmps27 (by kernel_rfl) rfl (by decide) F27 (np := 1) ?_ ?_
  · intro ts h; unfold F27; split <;> first | rfl | (simp at h; done)
  intro ts H r hF hwf
  unfold F27 at hF
  split at hF <;> try (cases hF; done)
  rename_i z
  split at hF
  case isFalse => cases hF
  rename_i hc
  cases hF
  obtain ⟨c, rfl⟩ : ∃ c : UInt8, z = (c.toNat : Int) := ⟨UInt8.ofNat z.toNat, by rw [UInt8.toNat_ofNat']; omega⟩
  have hcc : UInt8.ofNat ((c.toNat : Int)).toNat = c := by rw [Int.toNat_natCast]; exact UInt8.ofNat_toNat ..
  rw [hcc]
  rcases kQ_off c with ⟨a2, hk⟩ | ⟨a2, a4, hk⟩ | ⟨a2, a4, a3, hk⟩ | ⟨a2, a4, a3, a5, hk⟩ | ⟨a2, a4, a3, a5, a9, hk⟩ | ⟨a2, a4, a3, a5, a9, a6, hk⟩ | ⟨a2, a4, a3, a5, a9, a6, a8, hk⟩ | ⟨a2, a4, a3, a5, a9, a6, a8, hk⟩
  · have d2 : ((c.toNat : Int) == 2) = true := d8_eq 2 a2
    rw [hk]
    repeat refine St2 d2 ct27 ?_
    exact AWP.ret (Fin @askT.eq_def [] [])
  · have d2 : ((c.toNat : Int) == 2) = false := d8_ne 2 a2
    have d4 : ((c.toNat : Int) == 4) = true := d8_eq 4 a4
    rw [hk]
    repeat refine St2 (And.intro d2 <| d4) ct27 ?_
    exact AWP.ret (Fin @askT.eq_def [] [])
  · have d2 : ((c.toNat : Int) == 2) = false := d8_ne 2 a2
    have d4 : ((c.toNat : Int) == 4) = false := d8_ne 4 a4
    have d3 : ((c.toNat : Int) == 3) = true := d8_eq 3 a3
    rw [hk]
    repeat refine St2 (And.intro d2 <| And.intro d4 <| d3) ct27 ?_
    exact AWP.ret (Fin @askT.eq_def [] [])
  · have d2 : ((c.toNat : Int) == 2) = false := d8_ne 2 a2
    have d4 : ((c.toNat : Int) == 4) = false := d8_ne 4 a4
    have d3 : ((c.toNat : Int) == 3) = false := d8_ne 3 a3
    have d5 : ((c.toNat : Int) == 5) = true := d8_eq 5 a5
    rw [hk]
    repeat refine St2 (And.intro d2 <| And.intro d4 <| And.intro d3 <| d5) ct27 ?_
    exact AWP.ret (Fin @askT.eq_def [] [])
  · have d2 : ((c.toNat : Int) == 2) = false := d8_ne 2 a2
    have d4 : ((c.toNat : Int) == 4) = false := d8_ne 4 a4
    have d3 : ((c.toNat : Int) == 3) = false := d8_ne 3 a3
    have d5 : ((c.toNat : Int) == 5) = false := d8_ne 5 a5
    have d9 : ((c.toNat : Int) == 9) = true := d8_eq 9 a9
    rw [hk]
    repeat refine St2 (And.intro d2 <| And.intro d4 <| And.intro d3 <| And.intro d5 <| d9) ct27 ?_
    exact AWP.ret (Fin @askT.eq_def [] [])
  · have d2 : ((c.toNat : Int) == 2) = false := d8_ne 2 a2
    have d4 : ((c.toNat : Int) == 4) = false := d8_ne 4 a4
    have d3 : ((c.toNat : Int) == 3) = false := d8_ne 3 a3
    have d5 : ((c.toNat : Int) == 5) = false := d8_ne 5 a5
    have d9 : ((c.toNat : Int) == 9) = false := d8_ne 9 a9
    have d6 : ((c.toNat : Int) == 6) = true := d8_eq 6 a6
    rw [hk]
    repeat refine St2 (And.intro d2 <| And.intro d4 <| And.intro d3 <| And.intro d5 <| And.intro d9 <| d6) ct27 ?_
    exact AWP.ret (Fin @askT.eq_def [] [])
  · have d2 : ((c.toNat : Int) == 2) = false := d8_ne 2 a2
    have d4 : ((c.toNat : Int) == 4) = false := d8_ne 4 a4
    have d3 : ((c.toNat : Int) == 3) = false := d8_ne 3 a3
    have d5 : ((c.toNat : Int) == 5) = false := d8_ne 5 a5
    have d9 : ((c.toNat : Int) == 9) = false := d8_ne 9 a9
    have d6 : ((c.toNat : Int) == 6) = false := d8_ne 6 a6
    have d8 : ((c.toNat : Int) == 8) = true := d8_eq 8 a8
    rw [hk]
    repeat refine St2 (And.intro d2 <| And.intro d4 <| And.intro d3 <| And.intro d5 <| And.intro d9 <| And.intro d6 <| d8) ct27 ?_
    exact AWP.ret (Fin @askT.eq_def [] [])
  · have d2 : ((c.toNat : Int) == 2) = false := d8_ne 2 a2
    have d4 : ((c.toNat : Int) == 4) = false := d8_ne 4 a4
    have d3 : ((c.toNat : Int) == 3) = false := d8_ne 3 a3
    have d5 : ((c.toNat : Int) == 5) = false := d8_ne 5 a5
    have d9 : ((c.toNat : Int) == 9) = false := d8_ne 9 a9
    have d6 : ((c.toNat : Int) == 6) = false := d8_ne 6 a6
    have d8 : ((c.toNat : Int) == 8) = false := d8_ne 8 a8
    rw [hk]
    repeat refine St2 (And.intro d2 <| And.intro d4 <| And.intro d3 <| And.intro d5 <| And.intro d9 <| And.intro d6 <| d8) ct27 ?_
    exact AWP.ret (Fin @askT.eq_def [] [])

theorem ask_c (c : UInt8) : F27 [.int .u8 (c.toNat : Int)] = some ([], .t (askT (kQ c))) := by
  have h0 := c.toNat_lt
  have hcc : UInt8.ofNat ((c.toNat : Int)).toNat = c := by rw [Int.toNat_natCast]; exact UInt8.ofNat_toNat ..
  simp only [F27]
  rw [if_pos ⟨by omega, by omega⟩, hcc]

/-! ### The tape. -/
theorem rnumA (b : List UInt8) (h : b.length ≤ 549755800000) : F51 [.by b, .int .i64 4] = some ([], .tup [.t (.int .u64 ((t32 b).1.toNat : Int)), .t (.by (t32 b).2.1), .t (.int .i64 (t32 b).2.2)]) := by
  rw [number_c b 4 (by omega) (by omega)]
  show _ = some (_, AV.tup [.t (.int .u64 ((UInt32.ofNat (num (spA b 4))).toNat : Int)), _, _])
  rw [u32_num _ (spA_le b 4 4 (by omega))]; rfl
theorem u8_num (l : List UInt8) (h : l.length ≤ 1) : ((UInt8.ofNat (num l)).toNat : Int) = (num l : Int) := by
  have := num_lt1 l h
  rw [UInt8.toNat_ofNat']; omega
theorem rnumB (b : List UInt8) (h : b.length ≤ 549755800000) : F51 [.by b, .int .i64 1] = some ([], .tup [.t (.int .u64 ((t8 b).1.toNat : Int)), .t (.by (t8 b).2.1), .t (.int .i64 (t8 b).2.2)]) := by
  rw [number_c b 1 (by omega) (by omega)]
  show _ = some (_, AV.tup [.t (.int .u64 ((UInt8.ofNat (num (spA b 1))).toNat : Int)), _, _])
  rw [u8_num _ (spA_le b 1 1 (by omega))]; rfl
abbrev lX (s : LSt) : Blk := .bx (.t (.st [.by s.b, .bool s.ok]))

def G30 : GFun
  | [.bx (.t (.st [.by b, .bool w]))], [.ptr 0 0 [], .t (.int .i64 4)] => if b.length ≤ 549755800000 then some ([lX (ld t32 ⟨b, w⟩).2], .t (.int .u64 ((ld t32 ⟨b, w⟩).1.toNat : Int))) else none
  | [.bx (.t (.st [.by b, .bool w]))], [.ptr 0 0 [], .t (.int .i64 1)] => if b.length ≤ 549755800000 then some ([lX (ld t8 ⟨b, w⟩).2], .t (.int .u64 ((ld t8 ⟨b, w⟩).1.toNat : Int))) else none
  | _, _ => none

theorem ct30 : CT [(51, ⟨[false, false], treeG F51⟩)] [0, 1, 4, 5, 6, 7] [] := ⟨(.cons c51.g (.nil _))⟩

set_option maxHeartbeats 1000000 in
theorem g30 : GCon Try.prog 30 G30 := by
  refine gconc E_ok (rs := [.tmp 4 40]) Try.func30 rfl Try.ntmps30 (by kernel_rfl) rfl (by decide) G30 (np := 2) ?_ ?_
  · intro HB xs h; unfold G30; split <;> first | rfl | (simp at h; done)
  intro HB xs H r hG hwf hex
  unfold G30 at hG
  split at hG <;> try (cases hG; done)
  · rename_i b w
    split at hG
    case isFalse => cases hG
    rename_i hb
    cases hG
    have h1 := rnumA b hb
    unfold ld
    dsimp only
    generalize t32 b = R at *
    obtain ⟨x, r, e⟩ := R
    dsimp only at h1 ⊢
    cases w with
    | false =>
      repeat refine St2 (And.intro (And.intro @gentry.eq_1 <| @gentry.eq_2) <| h1) ct30 ?_
      exact AWP.ret (Fin trivial [] [0])
    | true =>
      by_cases he : e = 0
      · subst he
        repeat refine St2 (And.intro (And.intro @gentry.eq_1 <| @gentry.eq_2) <| h1) ct30 ?_
        exact AWP.ret (Fin trivial [] [0])
      · have h2 : (e == 0) = false := by simpa using he
        have h3 : decide (e = 0) = false := decide_eq_false he
        rw [h3]
        repeat refine St2 (And.intro (And.intro @gentry.eq_1 <| @gentry.eq_2) <| And.intro h1 <| h2) ct30 ?_
        exact AWP.ret (Fin trivial [] [0])
  · rename_i b w
    split at hG
    case isFalse => cases hG
    rename_i hb
    cases hG
    have h1 := rnumB b hb
    unfold ld
    dsimp only
    generalize t8 b = R at *
    obtain ⟨x, r, e⟩ := R
    dsimp only at h1 ⊢
    cases w with
    | false =>
      repeat refine St2 (And.intro (And.intro @gentry.eq_1 <| @gentry.eq_2) <| h1) ct30 ?_
      exact AWP.ret (Fin trivial [] [0])
    | true =>
      by_cases he : e = 0
      · subst he
        repeat refine St2 (And.intro (And.intro @gentry.eq_1 <| @gentry.eq_2) <| h1) ct30 ?_
        exact AWP.ret (Fin trivial [] [0])
      · have h2 : (e == 0) = false := by simpa using he
        have h3 : decide (e = 0) = false := decide_eq_false he
        rw [h3]
        repeat refine St2 (And.intro (And.intro @gentry.eq_1 <| @gentry.eq_2) <| And.intro h1 <| h2) ct30 ?_
        exact AWP.ret (Fin trivial [] [0])

theorem rtakA (b : List UInt8) (h : b.length ≤ 549755800000) : F52 [.by b, .int .i64 32] = some ([], .tup [.t (.by (spA b 32)), .t (.by (spB b 32)), .t (.int .i64 (spE b 32))]) := if_pos (by omega)
theorem rtakC (b : List UInt8) (m : Int) (h : b.length ≤ 549755800000) : F54 [.by b, .int .i64 m] = some ([], .tup [.t (.by (lim b m).1), .t (.by (lim b m).2.1), .t (.int .i64 (lim b m).2.2)]) := if_pos (by omega)
theorem rtakB (b : List UInt8) (h : b.length ≤ 549755800000) : F54 [.by b, .int .i64 40000] = some ([], .tup [.t (.by (tBts b).1), .t (.by (tBts b).2.1), .t (.int .i64 (tBts b).2.2)]) := rtakC b 40000 h

def G31 : GFun
  | [.bx (.t (.st [.by b, .bool w]))], [.ptr 0 0 []] => if b.length ≤ 549755800000 then some ([lX (ld tH ⟨b, w⟩).2], .t (.ba 32 (ld tH ⟨b, w⟩).1.1)) else none
  | _, _ => none

theorem ct31 : CT [(52, ⟨[false, false], treeG F52⟩), (53, ⟨[false], treeG F53⟩)] [0, 2, 3, 4, 5] [] := ⟨(.cons c52.g (.cons c53.g (.nil _)))⟩

set_option maxHeartbeats 1000000 in
theorem g31 : GCon Try.prog 31 G31 := by
  refine gconc E_ok (rs := [.cell 2 22]) Try.func31 rfl Try.ntmps31 (by kernel_rfl) rfl (by decide) G31 (np := 1) ?_ ?_
  · intro HB xs h; unfold G31; split <;> first | rfl | (simp at h; done)
  intro HB xs H r hG hwf hex
  unfold G31 at hG
  split at hG <;> try (cases hG; done)
  rename_i b w
  split at hG
  case isFalse => cases hG
  rename_i hb
  cases hG
  have h1 := rtakA b hb
  have hh : F53 [.by (spA b 32)] = some ([], .t (.ba 32 (tH b).1.1)) := by
    by_cases hx : spE b 32 = 0
    · obtain ⟨q1, q2, q3⟩ := sp_ok hx
      have hl : (spA b 32).length = 32 := by omega
      have ho : (tH b).1.1 = spA b 32 := hOf_val hl
      rw [ho]; exact if_pos hl
    · have ho : (tH b).1 = hOf (spA b 32) := rfl
      rw [ho, (sp_bad hx).1]
      rfl
  have h32 := (tH b).1.2
  have e1 : (tH b).2.1 = spB b 32 := rfl
  have e2 : (tH b).2.2 = spE b 32 := rfl
  unfold ld
  dsimp only
  rw [e1, e2]
  generalize (tH b).1.1 = y at *
  generalize spA b 32 = x at *
  generalize spB b 32 = r at *
  generalize spE b 32 = e at *
  cases w with
  | false =>
    repeat refine St2 (And.intro (And.intro @gentry.eq_1 <| @gentry.eq_2) <| And.intro h1 <| And.intro hh <| h32) ct31 ?_
    exact AWP.ret (Fin trivial [] [0])
  | true =>
    by_cases he : e = 0
    · subst he
      repeat refine St2 (And.intro (And.intro @gentry.eq_1 <| @gentry.eq_2) <| And.intro h1 <| And.intro hh <| h32) ct31 ?_
      exact AWP.ret (Fin trivial [] [0])
    · have h2 : (e == 0) = false := by simpa using he
      have h3 : decide (e = 0) = false := decide_eq_false he
      rw [h3]
      repeat refine St2 (And.intro (And.intro @gentry.eq_1 <| @gentry.eq_2) <| And.intro h1 <| And.intro h2 <| And.intro hh <| h32) ct31 ?_
      exact AWP.ret (Fin trivial [] [0])

def G32 : GFun
  | [.bx (.t (.st [.by b, .bool w]))], [.ptr 0 0 []] => if b.length ≤ 549755800000 then some ([lX (ld tBts ⟨b, w⟩).2], .t (.by (ld tBts ⟨b, w⟩).1)) else none
  | _, _ => none

theorem ct32 : CT [(54, ⟨[false, false], treeG F54⟩)] [0, 2, 3, 4, 5] [] := ⟨(.cons c54.g (.nil _))⟩

set_option maxHeartbeats 1000000 in
theorem g32 : GCon Try.prog 32 G32 := by
  refine gconc E_ok (rs := [.tmp 2 24]) Try.func32 rfl Try.ntmps32 (by kernel_rfl) rfl (by decide) G32 (np := 1) ?_ ?_
  · intro HB xs h; unfold G32; split <;> first | rfl | (simp at h; done)
  intro HB xs H r hG hwf hex
  unfold G32 at hG
  split at hG <;> try (cases hG; done)
  rename_i b w
  split at hG
  case isFalse => cases hG
  rename_i hb
  cases hG
  have h1 := rtakB b hb
  unfold ld
  dsimp only
  generalize tBts b = R at *
  obtain ⟨x, r, e⟩ := R
  dsimp only at h1 ⊢
  cases w with
  | false =>
    repeat refine St2 (And.intro (And.intro @gentry.eq_1 <| @gentry.eq_2) <| h1) ct32 ?_
    exact AWP.ret (Fin trivial [] [0])
  | true =>
    by_cases he : e = 0
    · subst he
      repeat refine St2 (And.intro (And.intro @gentry.eq_1 <| @gentry.eq_2) <| h1) ct32 ?_
      exact AWP.ret (Fin trivial [] [0])
    · have h2 : (e == 0) = false := by simpa using he
      have h3 : decide (e = 0) = false := decide_eq_false he
      rw [h3]
      repeat refine St2 (And.intro (And.intro @gentry.eq_1 <| @gentry.eq_2) <| And.intro h1 <| h2) ct32 ?_
      exact AWP.ret (Fin trivial [] [0])

end Go.Fw

end

section
/- rpc's answer: questions put, taken, compared. -/
namespace Go.Fw
open Go Go.Proofs
set_option linter.unusedVariables false
set_option linter.unusedSimpArgs false

theorem putQ_no {q : TQ} (h : mayQ q = false) : putQ q = [] ∧ putQe q = 1 := ⟨if_neg (by rw [h]; simp), if_neg (by rw [h]; simp)⟩
theorem putQ_yes {q : TQ} (h : mayQ q = true) : putQ q = q.op :: bodyK (kQ q.op) q ∧ putQe q = 0 := ⟨if_pos h, if_pos h⟩
theorem mayQ_op {q : TQ} (h : isOp q.op = false) : mayQ q = false := by simp only [mayQ, h, Bool.false_and]
theorem mayQ_long {q : TQ} (h : 40000 < q.bts.length) : mayQ q = false := by
  have : decide (q.bts.length ≤ 40000) = false := decide_eq_false (by omega)
  simp only [mayQ, this, Bool.and_false]
theorem mayQ_strip {q : TQ} (h : isOp q.op = true) (hl : q.bts.length ≤ 40000) : mayQ q = decide (stripK (kQ q.op) q = q) := by
  simp only [mayQ, h, decide_eq_true hl, Bool.true_and, Bool.and_true]; rfl

noncomputable def F11 : Fun
  | [y] => match inv qT y with
    | some q => if q.bts.length ≤ 549750000000 then some ([], .tup [.t (.by (putQ q)), .t (.int .i64 (putQe q))]) else none
    | none => none
  | _ => none

theorem ct11 : CT [(27, ⟨[false], treeG F27⟩), (28, ⟨[false, false, false], treeG F28⟩), (29, ⟨[false, false], treeG F29⟩)] [0, 1, 2, 3, 4, 5, 19, 62, 67, 73, 80, 87] [] := ⟨(.cons c27.g (.cons c28.g (.cons c29.g (.nil _))))⟩

set_option maxRecDepth 20000 in
set_option maxHeartbeats 4000000 in
theorem c11 : ACon Try.prog 11 F11 := by
  refine aconc E_ok (rs := [.tmp 2 24, .tmp 3 28]) Try.func11 rfl Try.ntmps11 (by kernel_rfl) rfl (by decide) F11 (np := 1) ?_ ?_
  · intro ts h; unfold F11; split <;> first | rfl | (simp at h; done)
  intro ts H r hF hwf
  unfold F11 at hF
  split at hF <;> try (cases hF; done)
  split at hF <;> try (cases hF; done)
  rename_i q hq
  split at hF
  case isFalse => cases hF
  rename_i hb
  cases hF
  obtain rfl := inv_inv hq
  obtain ⟨c, n, i, h, x⟩ := q
  rw [qT_st]
  dsimp only at hb ⊢
  have hn := n.2
  have c0 : (0 : Int) ≤ (c.toNat : Int) := by omega
  by_cases hA : (c.toNat : Int) < 1
  · have hno : mayQ ⟨c, n, i, h, x⟩ = false := mayQ_op (by show (decide (1 ≤ c.toNat) && decide (c.toNat ≤ 10)) = false; rw [decide_eq_false (show ¬ 1 ≤ c.toNat by omega)]; rfl)
    rw [(putQ_no hno).1, (putQ_no hno).2]
    repeat refine St hA ct11 ?_
    exact AWP.ret (Fin trivial [] [])
  by_cases hB : 10 < (c.toNat : Int)
  · have hno : mayQ ⟨c, n, i, h, x⟩ = false := mayQ_op (by show (decide (1 ≤ c.toNat) && decide (c.toNat ≤ 10)) = false; rw [decide_eq_false (show ¬ c.toNat ≤ 10 by omega)]; exact Bool.and_false _)
    rw [(putQ_no hno).1, (putQ_no hno).2]
    repeat refine St (And.intro hA <| hB) ct11 ?_
    exact AWP.ret (Fin trivial [] [])
  by_cases hC : (40000 : Int) < (x.length : Int)
  · have hno : mayQ ⟨c, n, i, h, x⟩ = false := mayQ_long (show 40000 < x.length by omega)
    rw [(putQ_no hno).1, (putQ_no hno).2]
    repeat refine St (And.intro hA <| And.intro hB <| hC) ct11 ?_
    exact AWP.ret (Fin trivial [] [])
  have hop : isOp c = true := by show (decide (1 ≤ c.toNat) && decide (c.toNat ≤ 10)) = true; rw [decide_eq_true (show 1 ≤ c.toNat by omega), decide_eq_true (show c.toNat ≤ 10 by omega)]; rfl
  have hmay := mayQ_strip (q := ⟨c, n, i, h, x⟩) hop (show x.length ≤ 40000 by omega)
  have hyes := fun hh => putQ_yes (q := ⟨c, n, i, h, x⟩) hh
  have ha := ask_c c
  have hk := kQ_cases c
  have hof : UInt8.ofNat c.toNat = c := UInt8.ofNat_toNat ..
  dsimp only at hmay hyes
  generalize kQ c = k at *
  have hl0 : ([c] : List UInt8).length = 1 := rfl
  have hi2 := i.toNat_lt
  have hh2 := h.toNat_lt
  rcases hk with rfl | rfl | rfl | rfl | rfl | rfl
  · replace ha : F27 [.int .u8 (c.toNat : Int)] = some ([], .t (.ar 4 1 [.bool true, .bool false, .bool false, .bool false])) := ha
    by_cases ei : i = 0
    case neg =>
      have fi : ((i.toNat : Int) != 0) = true := by rw [bne_iff_ne]; exact fun hh => ei (n32_inj hh)
      have hno : mayQ ⟨c, n, i, h, x⟩ = false := by rw [hmay]; exact decide_eq_false fun hh => ei (congrArg TQ.idx hh).symm
      rw [(putQ_no hno).1, (putQ_no hno).2]
      repeat refine St (And.intro hA <| And.intro hB <| And.intro hC <| And.intro ha <| And.intro hn <| fi) ct11 ?_
      exact AWP.ret (Fin trivial [] [])
    have fi : ((i.toNat : Int) != 0) = false := by rw [ei]; rfl
    by_cases eh : h = 0
    case neg =>
      have fh : ((h.toNat : Int) != 0) = true := by rw [bne_iff_ne]; exact fun hh => eh (n32_inj hh)
      have hno : mayQ ⟨c, n, i, h, x⟩ = false := by rw [hmay]; exact decide_eq_false fun hh => eh (congrArg TQ.hgt hh).symm
      rw [(putQ_no hno).1, (putQ_no hno).2]
      repeat refine St (And.intro hA <| And.intro hB <| And.intro hC <| And.intro ha <| And.intro hn <| And.intro fi <| fh) ct11 ?_
      exact AWP.ret (Fin trivial [] [])
    have fh : ((h.toNat : Int) != 0) = false := by rw [eh]; rfl
    by_cases ex : x = []
    case neg =>
      have fx : 0 < x.length := List.length_pos_iff.2 ex
      have hno : mayQ ⟨c, n, i, h, x⟩ = false := by rw [hmay]; exact decide_eq_false fun hh => ex (congrArg TQ.bts hh).symm
      rw [(putQ_no hno).1, (putQ_no hno).2]
      repeat refine St (And.intro hA <| And.intro hB <| And.intro hC <| And.intro ha <| And.intro hn <| And.intro fi <| And.intro fh <| fx) ct11 ?_
      exact AWP.ret (Fin trivial [] [])
    have fx : ¬ 0 < x.length := by rw [ex]; exact Nat.lt_irrefl 0
    have hy : mayQ ⟨c, n, i, h, x⟩ = true := by rw [hmay]; exact decide_eq_true (by subst ei; subst eh; subst ex; rfl)
    rw [(hyes hy).1, (hyes hy).2]
    have ht : n.1.take 32 = n.1 := List.take_of_length_le (by omega)
    repeat refine St (And.intro hA <| And.intro hB <| And.intro hC <| And.intro ha <| And.intro hn <| And.intro fi <| And.intro fh <| And.intro fx <| And.intro hof <| ht) ct11 ?_
    exact AWP.ret (Fin (And.intro hof <| @bodyK.eq_def) [3] [])
  · replace ha : F27 [.int .u8 (c.toNat : Int)] = some ([], .t (.ar 4 1 [.bool true, .bool true, .bool false, .bool false])) := ha
    by_cases eh : h = 0
    case neg =>
      have fh : ((h.toNat : Int) != 0) = true := by rw [bne_iff_ne]; exact fun hh => eh (n32_inj hh)
      have hno : mayQ ⟨c, n, i, h, x⟩ = false := by rw [hmay]; exact decide_eq_false fun hh => eh (congrArg TQ.hgt hh).symm
      rw [(putQ_no hno).1, (putQ_no hno).2]
      repeat refine St (And.intro hA <| And.intro hB <| And.intro hC <| And.intro ha <| And.intro hn <| fh) ct11 ?_
      exact AWP.ret (Fin trivial [] [])
    have fh : ((h.toNat : Int) != 0) = false := by rw [eh]; rfl
    by_cases ex : x = []
    case neg =>
      have fx : 0 < x.length := List.length_pos_iff.2 ex
      have hno : mayQ ⟨c, n, i, h, x⟩ = false := by rw [hmay]; exact decide_eq_false fun hh => ex (congrArg TQ.bts hh).symm
      rw [(putQ_no hno).1, (putQ_no hno).2]
      repeat refine St (And.intro hA <| And.intro hB <| And.intro hC <| And.intro ha <| And.intro hn <| And.intro fh <| fx) ct11 ?_
      exact AWP.ret (Fin trivial [] [])
    have fx : ¬ 0 < x.length := by rw [ex]; exact Nat.lt_irrefl 0
    have hy : mayQ ⟨c, n, i, h, x⟩ = true := by rw [hmay]; exact decide_eq_true (by subst eh; subst ex; rfl)
    rw [(hyes hy).1, (hyes hy).2]
    have ht : n.1.take 32 = n.1 := List.take_of_length_le (by omega)
    have p1 := put_c (b := c :: n.1) (i.toNat : Int) 4 (by rw [List.length_cons]; omega) (by omega) (by omega)
    repeat refine St (And.intro hA <| And.intro hB <| And.intro hC <| And.intro ha <| And.intro hn <| And.intro fh <| And.intro fx <| And.intro hof <| And.intro ht <| p1) ct11 ?_
    exact AWP.ret (Fin (And.intro hof <| @bodyK.eq_def) [4] [])
  · replace ha : F27 [.int .u8 (c.toNat : Int)] = some ([], .t (.ar 4 1 [.bool false, .bool false, .bool false, .bool true])) := ha
    by_cases en : n = zH
    case neg =>
      have fn : (n.1 == zby 32) = false := by rw [beq_eq_false_iff_ne]; exact fun hh => en (Subtype.ext hh)
      have hno : mayQ ⟨c, n, i, h, x⟩ = false := by rw [hmay]; exact decide_eq_false fun hh => en (congrArg TQ.name hh).symm
      rw [(putQ_no hno).1, (putQ_no hno).2]
      repeat refine St (And.intro hA <| And.intro hB <| And.intro hC <| And.intro ha <| And.intro hn <| fn) ct11 ?_
      exact AWP.ret (Fin trivial [] [])
    have fn : (n.1 == zby 32) = true := by rw [en]; rfl
    by_cases ei : i = 0
    case neg =>
      have fi : ((i.toNat : Int) != 0) = true := by rw [bne_iff_ne]; exact fun hh => ei (n32_inj hh)
      have hno : mayQ ⟨c, n, i, h, x⟩ = false := by rw [hmay]; exact decide_eq_false fun hh => ei (congrArg TQ.idx hh).symm
      rw [(putQ_no hno).1, (putQ_no hno).2]
      repeat refine St (And.intro hA <| And.intro hB <| And.intro hC <| And.intro ha <| And.intro hn <| And.intro fn <| fi) ct11 ?_
      exact AWP.ret (Fin trivial [] [])
    have fi : ((i.toNat : Int) != 0) = false := by rw [ei]; rfl
    by_cases eh : h = 0
    case neg =>
      have fh : ((h.toNat : Int) != 0) = true := by rw [bne_iff_ne]; exact fun hh => eh (n32_inj hh)
      have hno : mayQ ⟨c, n, i, h, x⟩ = false := by rw [hmay]; exact decide_eq_false fun hh => eh (congrArg TQ.hgt hh).symm
      rw [(putQ_no hno).1, (putQ_no hno).2]
      repeat refine St (And.intro hA <| And.intro hB <| And.intro hC <| And.intro ha <| And.intro hn <| And.intro fn <| And.intro fi <| fh) ct11 ?_
      exact AWP.ret (Fin trivial [] [])
    have fh : ((h.toNat : Int) != 0) = false := by rw [eh]; rfl
    have hy : mayQ ⟨c, n, i, h, x⟩ = true := by rw [hmay]; exact decide_eq_true (by subst en; subst ei; subst eh; rfl)
    rw [(hyes hy).1, (hyes hy).2]
    have p1 : F29 [.by [c], .by x] = some ([.by ([c] ++ sizeB x.length ++ x)], .own 0) := if_pos (by omega)
    repeat refine St (And.intro hA <| And.intro hB <| And.intro hC <| And.intro ha <| And.intro hn <| And.intro fn <| And.intro fi <| And.intro fh <| And.intro hof <| p1) ct11 ?_
    exact AWP.ret (Fin (And.intro hof <| @bodyK.eq_def) [3] [])
  · replace ha : F27 [.int .u8 (c.toNat : Int)] = some ([], .t (.ar 4 1 [.bool false, .bool true, .bool true, .bool false])) := ha
    by_cases en : n = zH
    case neg =>
      have fn : (n.1 == zby 32) = false := by rw [beq_eq_false_iff_ne]; exact fun hh => en (Subtype.ext hh)
      have hno : mayQ ⟨c, n, i, h, x⟩ = false := by rw [hmay]; exact decide_eq_false fun hh => en (congrArg TQ.name hh).symm
      rw [(putQ_no hno).1, (putQ_no hno).2]
      repeat refine St (And.intro hA <| And.intro hB <| And.intro hC <| And.intro ha <| And.intro hn <| fn) ct11 ?_
      exact AWP.ret (Fin trivial [] [])
    have fn : (n.1 == zby 32) = true := by rw [en]; rfl
    by_cases ex : x = []
    case neg =>
      have fx : 0 < x.length := List.length_pos_iff.2 ex
      have hno : mayQ ⟨c, n, i, h, x⟩ = false := by rw [hmay]; exact decide_eq_false fun hh => ex (congrArg TQ.bts hh).symm
      rw [(putQ_no hno).1, (putQ_no hno).2]
      repeat refine St (And.intro hA <| And.intro hB <| And.intro hC <| And.intro ha <| And.intro hn <| And.intro fn <| fx) ct11 ?_
      exact AWP.ret (Fin trivial [] [])
    have fx : ¬ 0 < x.length := by rw [ex]; exact Nat.lt_irrefl 0
    have hy : mayQ ⟨c, n, i, h, x⟩ = true := by rw [hmay]; exact decide_eq_true (by subst en; subst ex; rfl)
    rw [(hyes hy).1, (hyes hy).2]
    have p1 := put_c (b := [c]) (i.toNat : Int) 4 (by omega) (by omega) (by omega)
    have p2 := put_c (b := c :: le 4 (i.toNat : Int)) (h.toNat : Int) 4 (by rw [List.length_cons, le_len]; omega) (by omega) (by omega)
    repeat refine St (And.intro hA <| And.intro hB <| And.intro hC <| And.intro ha <| And.intro hn <| And.intro fn <| And.intro fx <| And.intro hof <| And.intro p1 <| p2) ct11 ?_
    exact AWP.ret (Fin (And.intro hof <| @bodyK.eq_def) [4] [])
  · replace ha : F27 [.int .u8 (c.toNat : Int)] = some ([], .t (.ar 4 1 [.bool false, .bool false, .bool true, .bool false])) := ha
    by_cases en : n = zH
    case neg =>
      have fn : (n.1 == zby 32) = false := by rw [beq_eq_false_iff_ne]; exact fun hh => en (Subtype.ext hh)
      have hno : mayQ ⟨c, n, i, h, x⟩ = false := by rw [hmay]; exact decide_eq_false fun hh => en (congrArg TQ.name hh).symm
      rw [(putQ_no hno).1, (putQ_no hno).2]
      repeat refine St (And.intro hA <| And.intro hB <| And.intro hC <| And.intro ha <| And.intro hn <| fn) ct11 ?_
      exact AWP.ret (Fin trivial [] [])
    have fn : (n.1 == zby 32) = true := by rw [en]; rfl
    by_cases ei : i = 0
    case neg =>
      have fi : ((i.toNat : Int) != 0) = true := by rw [bne_iff_ne]; exact fun hh => ei (n32_inj hh)
      have hno : mayQ ⟨c, n, i, h, x⟩ = false := by rw [hmay]; exact decide_eq_false fun hh => ei (congrArg TQ.idx hh).symm
      rw [(putQ_no hno).1, (putQ_no hno).2]
      repeat refine St (And.intro hA <| And.intro hB <| And.intro hC <| And.intro ha <| And.intro hn <| And.intro fn <| fi) ct11 ?_
      exact AWP.ret (Fin trivial [] [])
    have fi : ((i.toNat : Int) != 0) = false := by rw [ei]; rfl
    by_cases ex : x = []
    case neg =>
      have fx : 0 < x.length := List.length_pos_iff.2 ex
      have hno : mayQ ⟨c, n, i, h, x⟩ = false := by rw [hmay]; exact decide_eq_false fun hh => ex (congrArg TQ.bts hh).symm
      rw [(putQ_no hno).1, (putQ_no hno).2]
      repeat refine St (And.intro hA <| And.intro hB <| And.intro hC <| And.intro ha <| And.intro hn <| And.intro fn <| And.intro fi <| fx) ct11 ?_
      exact AWP.ret (Fin trivial [] [])
    have fx : ¬ 0 < x.length := by rw [ex]; exact Nat.lt_irrefl 0
    have hy : mayQ ⟨c, n, i, h, x⟩ = true := by rw [hmay]; exact decide_eq_true (by subst en; subst ei; subst ex; rfl)
    rw [(hyes hy).1, (hyes hy).2]
    have p1 := put_c (b := [c]) (h.toNat : Int) 4 (by omega) (by omega) (by omega)
    repeat refine St (And.intro hA <| And.intro hB <| And.intro hC <| And.intro ha <| And.intro hn <| And.intro fn <| And.intro fi <| And.intro fx <| And.intro hof <| p1) ct11 ?_
    exact AWP.ret (Fin (And.intro hof <| @bodyK.eq_def) [3] [])
  · replace ha : F27 [.int .u8 (c.toNat : Int)] = some ([], .t (.ar 4 1 [.bool false, .bool false, .bool false, .bool false])) := ha
    by_cases en : n = zH
    case neg =>
      have fn : (n.1 == zby 32) = false := by rw [beq_eq_false_iff_ne]; exact fun hh => en (Subtype.ext hh)
      have hno : mayQ ⟨c, n, i, h, x⟩ = false := by rw [hmay]; exact decide_eq_false fun hh => en (congrArg TQ.name hh).symm
      rw [(putQ_no hno).1, (putQ_no hno).2]
      repeat refine St (And.intro hA <| And.intro hB <| And.intro hC <| And.intro ha <| And.intro hn <| fn) ct11 ?_
      exact AWP.ret (Fin trivial [] [])
    have fn : (n.1 == zby 32) = true := by rw [en]; rfl
    by_cases ei : i = 0
    case neg =>
      have fi : ((i.toNat : Int) != 0) = true := by rw [bne_iff_ne]; exact fun hh => ei (n32_inj hh)
      have hno : mayQ ⟨c, n, i, h, x⟩ = false := by rw [hmay]; exact decide_eq_false fun hh => ei (congrArg TQ.idx hh).symm
      rw [(putQ_no hno).1, (putQ_no hno).2]
      repeat refine St (And.intro hA <| And.intro hB <| And.intro hC <| And.intro ha <| And.intro hn <| And.intro fn <| fi) ct11 ?_
      exact AWP.ret (Fin trivial [] [])
    have fi : ((i.toNat : Int) != 0) = false := by rw [ei]; rfl
    by_cases eh : h = 0
    case neg =>
      have fh : ((h.toNat : Int) != 0) = true := by rw [bne_iff_ne]; exact fun hh => eh (n32_inj hh)
      have hno : mayQ ⟨c, n, i, h, x⟩ = false := by rw [hmay]; exact decide_eq_false fun hh => eh (congrArg TQ.hgt hh).symm
      rw [(putQ_no hno).1, (putQ_no hno).2]
      repeat refine St (And.intro hA <| And.intro hB <| And.intro hC <| And.intro ha <| And.intro hn <| And.intro fn <| And.intro fi <| fh) ct11 ?_
      exact AWP.ret (Fin trivial [] [])
    have fh : ((h.toNat : Int) != 0) = false := by rw [eh]; rfl
    by_cases ex : x = []
    case neg =>
      have fx : 0 < x.length := List.length_pos_iff.2 ex
      have hno : mayQ ⟨c, n, i, h, x⟩ = false := by rw [hmay]; exact decide_eq_false fun hh => ex (congrArg TQ.bts hh).symm
      rw [(putQ_no hno).1, (putQ_no hno).2]
      repeat refine St (And.intro hA <| And.intro hB <| And.intro hC <| And.intro ha <| And.intro hn <| And.intro fn <| And.intro fi <| And.intro fh <| fx) ct11 ?_
      exact AWP.ret (Fin trivial [] [])
    have fx : ¬ 0 < x.length := by rw [ex]; exact Nat.lt_irrefl 0
    have hy : mayQ ⟨c, n, i, h, x⟩ = true := by rw [hmay]; exact decide_eq_true (by subst en; subst ei; subst eh; subst ex; rfl)
    rw [(hyes hy).1, (hyes hy).2]
    repeat refine St (And.intro hA <| And.intro hB <| And.intro hC <| And.intro ha <| And.intro hn <| And.intro fn <| And.intro fi <| And.intro fh <| And.intro fx <| hof) ct11 ?_
    exact AWP.ret (Fin (And.intro hof <| @bodyK.eq_def) [2] [])

theorem rpuq_c {q : TQ} (h : q.bts.length ≤ 549750000000) : F11 [qT q] = some ([], .tup [.t (.by (putQ q)), .t (.int .i64 (putQe q))]) := by
  simp only [F11, inv_of qT_inj]; exact if_pos h

noncomputable def F15 : Fun
  | [x, y] => match inv qT x, inv qT y with
    | some a, some b => some ([], .t (.bool (decide (a = b))))
    | _, _ => none
  | _ => none

theorem ct15 : CT [] [0, 1, 2, 3, 4] [] := ⟨GClOk.nil _⟩

set_option maxHeartbeats 2000000 in
theorem c15 : ACon Try.prog 15 F15 := by
  refine aconc E_ok (rs := [.tmp 4 4]) Try.func15 rfl Try.ntmps15 (by kernel_rfl) rfl (by decide) F15 (np := 2) ?_ ?_
  · intro ts h; unfold F15; split <;> first | rfl | (simp at h; done)
  intro ts H r hF hwf
  unfold F15 at hF
  split at hF <;> try (cases hF; done)
  split at hF <;> try (cases hF; done)
  rename_i a b ha hb
  cases hF
  obtain rfl := inv_inv ha
  obtain rfl := inv_inv hb
  obtain ⟨o, n, i, h, x⟩ := a
  obtain ⟨o', n', i', h', x'⟩ := b
  rw [qT_st, qT_st]
  dsimp only
  have hn1 := n.2
  have hn2 := n'.2
  by_cases e0 : o = o'
  case neg =>
    have f0 : ((o.toNat : Int) == (o'.toNat : Int)) = false := by rw [beq_eq_false_iff_ne]; exact fun hh => e0 (n8_inj hh)
    have hd : decide ((⟨o, n, i, h, x⟩ : TQ) = ⟨o', n', i', h', x'⟩) = false := decide_eq_false fun hh => e0 (TQ.mk.inj hh).1
    repeat refine St (And.intro hn1 <| And.intro hn2 <| f0) ct15 ?_
    exact AWP.ret (Fin hd [] [])
  subst e0
  have f0 : ((o.toNat : Int) == (o.toNat : Int)) = true := beq_self_eq_true _
  by_cases e1 : n = n'
  case neg =>
    have f1 : (n.1 == n'.1) = false := by rw [beq_eq_false_iff_ne]; exact fun hh => e1 (Subtype.ext hh)
    have hd : decide ((⟨o, n, i, h, x⟩ : TQ) = ⟨o, n', i', h', x'⟩) = false := decide_eq_false fun hh => e1 (TQ.mk.inj hh).2.1
    repeat refine St (And.intro hn1 <| And.intro hn2 <| And.intro f0 <| f1) ct15 ?_
    exact AWP.ret (Fin hd [] [])
  subst e1
  have f1 : (n.1 == n.1) = true := beq_self_eq_true _
  by_cases e2 : i = i'
  case neg =>
    have f2 : ((i.toNat : Int) == (i'.toNat : Int)) = false := by rw [beq_eq_false_iff_ne]; exact fun hh => e2 (n32_inj hh)
    have hd : decide ((⟨o, n, i, h, x⟩ : TQ) = ⟨o, n, i', h', x'⟩) = false := decide_eq_false fun hh => e2 (TQ.mk.inj hh).2.2.1
    repeat refine St (And.intro hn1 <| And.intro hn2 <| And.intro f0 <| And.intro f1 <| f2) ct15 ?_
    exact AWP.ret (Fin hd [] [])
  subst e2
  have f2 : ((i.toNat : Int) == (i.toNat : Int)) = true := beq_self_eq_true _
  by_cases e3 : h = h'
  case neg =>
    have f3 : ((h.toNat : Int) == (h'.toNat : Int)) = false := by rw [beq_eq_false_iff_ne]; exact fun hh => e3 (n32_inj hh)
    have hd : decide ((⟨o, n, i, h, x⟩ : TQ) = ⟨o, n, i, h', x'⟩) = false := decide_eq_false fun hh => e3 (TQ.mk.inj hh).2.2.2.1
    repeat refine St (And.intro hn1 <| And.intro hn2 <| And.intro f0 <| And.intro f1 <| And.intro f2 <| f3) ct15 ?_
    exact AWP.ret (Fin hd [] [])
  subst e3
  have f3 : ((h.toNat : Int) == (h.toNat : Int)) = true := beq_self_eq_true _
  by_cases e4 : x = x'
  case neg =>
    have f4 : (x == x') = false := by rw [beq_eq_false_iff_ne]; exact fun hh => e4 (hh)
    have hd : decide ((⟨o, n, i, h, x⟩ : TQ) = ⟨o, n, i, h, x'⟩) = false := decide_eq_false fun hh => e4 (TQ.mk.inj hh).2.2.2.2
    repeat refine St (And.intro hn1 <| And.intro hn2 <| And.intro f0 <| And.intro f1 <| And.intro f2 <| And.intro f3 <| f4) ct15 ?_
    exact AWP.ret (Fin hd [] [])
  subst e4
  have f4 : (x == x) = true := beq_self_eq_true _
  have hd : decide ((⟨o, n, i, h, x⟩ : TQ) = ⟨o, n, i, h, x⟩) = true := decide_eq_true rfl
  repeat refine St (And.intro hn1 <| And.intro hn2 <| And.intro f0 <| And.intro f1 <| And.intro f2 <| And.intro f3 <| f4) ct15 ?_
  exact AWP.ret (Fin hd [] [])

theorem rsame_q (a b : TQ) : F15 [qT a, qT b] = some ([], .t (.bool (decide (a = b)))) := by
  simp only [F15, inv_of qT_inj]

end Go.Fw

end

section
/- rpc's answer: a question taken. -/
namespace Go.Fw
open Go Go.Proofs
set_option linter.unusedVariables false
set_option linter.unusedSimpArgs false

theorem num8_t {b : List UInt8} {w : Bool} (h : b.length ≤ 549755800000) : G30 [.bx (.t (.st [.by b, .bool w]))] [.ptr 0 0 [], .t (.int .i64 1)] = some ([lX (ld t8 ⟨b, w⟩).2], .t (.int .u64 ((ld t8 ⟨b, w⟩).1.toNat : Int))) := if_pos h
theorem num32_t {b : List UInt8} {w : Bool} (h : b.length ≤ 549755800000) : G30 [.bx (.t (.st [.by b, .bool w]))] [.ptr 0 0 [], .t (.int .i64 4)] = some ([lX (ld t32 ⟨b, w⟩).2], .t (.int .u64 ((ld t32 ⟨b, w⟩).1.toNat : Int))) := if_pos h
theorem nam_t {b : List UInt8} {w : Bool} (h : b.length ≤ 549755800000) : G31 [.bx (.t (.st [.by b, .bool w]))] [.ptr 0 0 []] = some ([lX (ld tH ⟨b, w⟩).2], .t (.ba 32 (ld tH ⟨b, w⟩).1.1)) := if_pos h
theorem str_t {b : List UInt8} {w : Bool} (h : b.length ≤ 549755800000) : G32 [.bx (.t (.st [.by b, .bool w]))] [.ptr 0 0 []] = some ([lX (ld tBts ⟨b, w⟩).2], .t (.by (ld tBts ⟨b, w⟩).1)) := if_pos h
theorem t8_len (b : List UInt8) : (t8 b).2.1.length ≤ b.length := spB_len b 1
theorem tBts_len (b : List UInt8) : (tBts b).2.1.length ≤ b.length := (lim_len b 40000).2
theorem ld_len {α : Type} {t : List UInt8 → α × List UInt8 × Int} {s : LSt} (h : ∀ b, (t b).2.1.length ≤ b.length) : (ld t s).2.b.length ≤ s.b.length := h s.b
theorem tBts_le (s : LSt) : (ld tBts s).1.length ≤ s.b.length := (lim_len s.b 40000).1

theorem dQ_R : qT dQ = .st [.int .u8 0, .ba 32 (zby 32), .int .u32 0, .int .u32 0, .by []] := rfl

noncomputable def F14 : Fun
  | [.by b] => if b.length ≤ 549740000000 then some ([], .tup [.t (qT (tkQ b)), .t (.int .i64 (tkQe b))]) else none
  | _ => none

theorem ct14 : CT [(11, ⟨[false], treeG F11⟩), (27, ⟨[false], treeG F27⟩), (30, ⟨[true, false], G30⟩), (31, ⟨[true], G31⟩), (32, ⟨[true], G32⟩)] [0, 2, 3, 4, 5, 6, 7, 8, 20, 25, 31, 37, 61] [] := ⟨(.cons c11.g (.cons c27.g (.cons g30 (.cons g31 (.cons g32 (.nil _))))))⟩

set_option maxRecDepth 20000 in
set_option maxHeartbeats 4000000 in
theorem c14 : ACon Try.prog 14 F14 := by
  refine aconc E_ok (rs := [.cell 2 32, .tmp 3 28]) Try.func14 rfl Try.ntmps14 (by kernel_rfl) rfl (by decide) F14 (np := 1) ?_ ?_
  · intro ts h; unfold F14; split <;> first | rfl | (simp at h; done)
  intro ts H r hF hwf
  unfold F14 at hF
  split at hF <;> try (cases hF; done)
  rename_i b
  split at hF
  case isFalse => cases hF
  rename_i hb
  cases hF
  obtain ⟨hlaw, hsame⟩ := ldQ_law b
  have hyes : (readQ b).2 = true → tkQ b = (readQ b).1 ∧ tkQe b = 0 := fun h => ⟨if_pos h, if_pos h⟩
  have hno : (readQ b).2 = false → tkQ b = dQ ∧ tkQe b = 3 := fun h => ⟨if_neg (by rw [h]; simp), if_neg (by rw [h]; simp)⟩
  have n1 := num8_t (b := b) (w := true) (by omega)
  have l1 := ld_len (s := ⟨b, true⟩) t8_len
  have hld : ldQ b = ldK (ld t8 ⟨b, true⟩).1 (kQ (ld t8 ⟨b, true⟩).1) (ld t8 ⟨b, true⟩).2 := rfl
  rw [hld] at hlaw hsame
  generalize ld t8 ⟨b, true⟩ = R1 at *
  obtain ⟨c, ⟨b1, w1⟩⟩ := R1
  dsimp only at n1 l1 hlaw hsame
  have ha := ask_c c
  have hk := kQ_cases c
  have hof : IntKind.u8.wrap (c.toNat : Int) = (c.toNat : Int) := wrap_u8 (by omega) (by have := c.toNat_lt; omega)
  have hz : zH.1 = zby 32 := rfl
  have hkd : kQ c = kQ c := rfl
  generalize hkk : kQ c = k at hk ha hlaw hsame hkd
  rcases hk with rfl | rfl | rfl | rfl | rfl | rfl
  · replace ha : F27 [.int .u8 (c.toNat : Int)] = some ([], .t (.ar 4 1 [.bool true, .bool false, .bool false, .bool false])) := ha
    simp only [ldK] at hlaw hsame
    have n2 := nam_t (b := b1) (w := w1) (by omega)
    have l2 := ld_len (s := ⟨b1, w1⟩) tH_len
    generalize ld tH ⟨b1, w1⟩ = R2 at *
    obtain ⟨n, ⟨b2, w2⟩⟩ := R2
    dsimp only at n2 l2 hlaw hsame
    have hnn := n.2
    have hp := rpuq_c (q := ⟨c, n, 0, 0, []⟩) (by dsimp only; simp)
    rw [qT_st] at hp
    dsimp only at hp
    have hz0 : (((0 : UInt32).toNat : Nat) : Int) = 0 := rfl
    rw [hz0] at hp
    by_cases ho : w2 = true
    case neg =>
      have hw : w2 = false := by simpa using ho
      subst hw
      obtain ⟨t1, t2⟩ := hno (by rw [← hlaw]; rfl)
      rw [t1, t2, dQ_R]
      cases hm : mayQ ⟨c, n, 0, 0, []⟩ with
      | false =>
        rw [(putQ_no hm).1, (putQ_no hm).2] at hp
        repeat refine St (And.intro n1 <| And.intro hof <| And.intro ha <| And.intro n2 <| And.intro hnn <| hp) ct14 ?_
        exact AWP.ret (Fin trivial [] [])
      | true =>
        rw [(putQ_yes hm).1, (putQ_yes hm).2] at hp
        repeat refine St (And.intro n1 <| And.intro hof <| And.intro ha <| And.intro n2 <| And.intro hnn <| hp) ct14 ?_
        exact AWP.ret (Fin trivial [] [])
    subst ho
    rw [Bool.true_and] at hlaw
    cases hm : mayQ ⟨c, n, 0, 0, []⟩ with
    | false =>
      rw [hm] at hlaw
      obtain ⟨t1, t2⟩ := hno (by rw [← hlaw]; rfl)
      rw [t1, t2, dQ_R]
      rw [(putQ_no hm).1, (putQ_no hm).2] at hp
      repeat refine St (And.intro n1 <| And.intro hof <| And.intro ha <| And.intro n2 <| And.intro hnn <| hp) ct14 ?_
      exact AWP.ret (Fin trivial [] [])
    | true =>
    rw [hm, Bool.true_and] at hlaw
    rw [(putQ_yes hm).1, (putQ_yes hm).2] at hp
    have hbq : bodyQ ⟨c, n, 0, 0, []⟩ = bodyK 1 ⟨c, n, 0, 0, []⟩ := by unfold bodyQ; dsimp only; rw [hkk]
    dsimp only at hp hlaw
    rw [hbq] at hlaw
    rw [hkk] at hp
    by_cases he : c :: bodyK 1 ⟨c, n, 0, 0, []⟩ = b
    case neg =>
      obtain ⟨t1, t2⟩ := hno (by rw [← hlaw]; exact decide_eq_false he)
      rw [t1, t2, dQ_R]
      have hne : ((c :: bodyK 1 ⟨c, n, 0, 0, []⟩) == b) = false := by rw [beq_eq_false_iff_ne]; exact he
      generalize c :: bodyK 1 ⟨c, n, 0, 0, []⟩ = D at *
      have hne2 : (D != b) = true := by rw [bne_iff_ne]; exact he
      repeat refine St (And.intro n1 <| And.intro hof <| And.intro ha <| And.intro n2 <| And.intro hnn <| And.intro hp <| And.intro hne <| hne2) ct14 ?_
      exact AWP.ret (Fin trivial [] [])
    have hr : (readQ b).2 = true := by rw [← hlaw]; exact decide_eq_true he
    obtain ⟨t1, t2⟩ := hyes hr
    have t3 := hsame hr
    rw [t1, t2, ← t3, qT_st]
    dsimp only
    have heq : ((c :: bodyK 1 ⟨c, n, 0, 0, []⟩) == b) = true := by rw [beq_iff_eq]; exact he
    have heq2 : ((c :: bodyK 1 ⟨c, n, 0, 0, []⟩) != b) = false := by rw [bne_eq_false_iff_eq]; exact he
    generalize c :: bodyK 1 ⟨c, n, 0, 0, []⟩ = D at *
    repeat refine St (And.intro n1 <| And.intro hof <| And.intro ha <| And.intro n2 <| And.intro hnn <| And.intro hp <| And.intro heq <| heq2) ct14 ?_
    exact AWP.ret (Fin trivial [] [])
  · replace ha : F27 [.int .u8 (c.toNat : Int)] = some ([], .t (.ar 4 1 [.bool true, .bool true, .bool false, .bool false])) := ha
    simp only [ldK] at hlaw hsame
    have n2 := nam_t (b := b1) (w := w1) (by omega)
    have l2 := ld_len (s := ⟨b1, w1⟩) tH_len
    generalize ld tH ⟨b1, w1⟩ = R2 at *
    obtain ⟨n, ⟨b2, w2⟩⟩ := R2
    dsimp only at n2 l2 hlaw hsame
    have hnn := n.2
    have n3 := num32_t (b := b2) (w := w2) (by omega)
    have l3 := ld_len (s := ⟨b2, w2⟩) t32_len
    generalize ld t32 ⟨b2, w2⟩ = R3 at *
    obtain ⟨i, ⟨b3, w3⟩⟩ := R3
    dsimp only at n3 l3 hlaw hsame
    have hwi : IntKind.u32.wrap (i.toNat : Int) = (i.toNat : Int) := wrap_u32 (by omega) (by have := i.toNat_lt; omega)
    have hp := rpuq_c (q := ⟨c, n, i, 0, []⟩) (by dsimp only; simp)
    rw [qT_st] at hp
    dsimp only at hp
    have hz0 : (((0 : UInt32).toNat : Nat) : Int) = 0 := rfl
    rw [hz0] at hp
    by_cases ho : w3 = true
    case neg =>
      have hw : w3 = false := by simpa using ho
      subst hw
      obtain ⟨t1, t2⟩ := hno (by rw [← hlaw]; rfl)
      rw [t1, t2, dQ_R]
      cases hm : mayQ ⟨c, n, i, 0, []⟩ with
      | false =>
        rw [(putQ_no hm).1, (putQ_no hm).2] at hp
        repeat refine St (And.intro n1 <| And.intro hof <| And.intro ha <| And.intro n2 <| And.intro hnn <| And.intro n3 <| And.intro hwi <| hp) ct14 ?_
        exact AWP.ret (Fin trivial [] [])
      | true =>
        rw [(putQ_yes hm).1, (putQ_yes hm).2] at hp
        repeat refine St (And.intro n1 <| And.intro hof <| And.intro ha <| And.intro n2 <| And.intro hnn <| And.intro n3 <| And.intro hwi <| hp) ct14 ?_
        exact AWP.ret (Fin trivial [] [])
    subst ho
    rw [Bool.true_and] at hlaw
    cases hm : mayQ ⟨c, n, i, 0, []⟩ with
    | false =>
      rw [hm] at hlaw
      obtain ⟨t1, t2⟩ := hno (by rw [← hlaw]; rfl)
      rw [t1, t2, dQ_R]
      rw [(putQ_no hm).1, (putQ_no hm).2] at hp
      repeat refine St (And.intro n1 <| And.intro hof <| And.intro ha <| And.intro n2 <| And.intro hnn <| And.intro n3 <| And.intro hwi <| hp) ct14 ?_
      exact AWP.ret (Fin trivial [] [])
    | true =>
    rw [hm, Bool.true_and] at hlaw
    rw [(putQ_yes hm).1, (putQ_yes hm).2] at hp
    have hbq : bodyQ ⟨c, n, i, 0, []⟩ = bodyK 2 ⟨c, n, i, 0, []⟩ := by unfold bodyQ; dsimp only; rw [hkk]
    dsimp only at hp hlaw
    rw [hbq] at hlaw
    rw [hkk] at hp
    by_cases he : c :: bodyK 2 ⟨c, n, i, 0, []⟩ = b
    case neg =>
      obtain ⟨t1, t2⟩ := hno (by rw [← hlaw]; exact decide_eq_false he)
      rw [t1, t2, dQ_R]
      have hne : ((c :: bodyK 2 ⟨c, n, i, 0, []⟩) == b) = false := by rw [beq_eq_false_iff_ne]; exact he
      generalize c :: bodyK 2 ⟨c, n, i, 0, []⟩ = D at *
      have hne2 : (D != b) = true := by rw [bne_iff_ne]; exact he
      repeat refine St (And.intro n1 <| And.intro hof <| And.intro ha <| And.intro n2 <| And.intro hnn <| And.intro n3 <| And.intro hwi <| And.intro hp <| And.intro hne <| hne2) ct14 ?_
      exact AWP.ret (Fin trivial [] [])
    have hr : (readQ b).2 = true := by rw [← hlaw]; exact decide_eq_true he
    obtain ⟨t1, t2⟩ := hyes hr
    have t3 := hsame hr
    rw [t1, t2, ← t3, qT_st]
    dsimp only
    have heq : ((c :: bodyK 2 ⟨c, n, i, 0, []⟩) == b) = true := by rw [beq_iff_eq]; exact he
    have heq2 : ((c :: bodyK 2 ⟨c, n, i, 0, []⟩) != b) = false := by rw [bne_eq_false_iff_eq]; exact he
    generalize c :: bodyK 2 ⟨c, n, i, 0, []⟩ = D at *
    repeat refine St (And.intro n1 <| And.intro hof <| And.intro ha <| And.intro n2 <| And.intro hnn <| And.intro n3 <| And.intro hwi <| And.intro hp <| And.intro heq <| heq2) ct14 ?_
    exact AWP.ret (Fin trivial [] [])
  · replace ha : F27 [.int .u8 (c.toNat : Int)] = some ([], .t (.ar 4 1 [.bool false, .bool false, .bool false, .bool true])) := ha
    simp only [ldK] at hlaw hsame
    have n2 := str_t (b := b1) (w := w1) (by omega)
    have l2 := ld_len (s := ⟨b1, w1⟩) tBts_len
    have lx := tBts_le ⟨b1, w1⟩
    generalize ld tBts ⟨b1, w1⟩ = R2 at *
    obtain ⟨x, ⟨b2, w2⟩⟩ := R2
    dsimp only at n2 l2 hlaw hsame lx
    have hp := rpuq_c (q := ⟨c, zH, 0, 0, x⟩) (by dsimp only; omega)
    rw [qT_st] at hp
    dsimp only at hp
    rw [hz] at hp
    have hz0 : (((0 : UInt32).toNat : Nat) : Int) = 0 := rfl
    rw [hz0] at hp
    by_cases ho : w2 = true
    case neg =>
      have hw : w2 = false := by simpa using ho
      subst hw
      obtain ⟨t1, t2⟩ := hno (by rw [← hlaw]; rfl)
      rw [t1, t2, dQ_R]
      cases hm : mayQ ⟨c, zH, 0, 0, x⟩ with
      | false =>
        rw [(putQ_no hm).1, (putQ_no hm).2] at hp
        repeat refine St (And.intro n1 <| And.intro hof <| And.intro ha <| And.intro n2 <| hp) ct14 ?_
        exact AWP.ret (Fin trivial [] [])
      | true =>
        rw [(putQ_yes hm).1, (putQ_yes hm).2] at hp
        repeat refine St (And.intro n1 <| And.intro hof <| And.intro ha <| And.intro n2 <| hp) ct14 ?_
        exact AWP.ret (Fin trivial [] [])
    subst ho
    rw [Bool.true_and] at hlaw
    cases hm : mayQ ⟨c, zH, 0, 0, x⟩ with
    | false =>
      rw [hm] at hlaw
      obtain ⟨t1, t2⟩ := hno (by rw [← hlaw]; rfl)
      rw [t1, t2, dQ_R]
      rw [(putQ_no hm).1, (putQ_no hm).2] at hp
      repeat refine St (And.intro n1 <| And.intro hof <| And.intro ha <| And.intro n2 <| hp) ct14 ?_
      exact AWP.ret (Fin trivial [] [])
    | true =>
    rw [hm, Bool.true_and] at hlaw
    rw [(putQ_yes hm).1, (putQ_yes hm).2] at hp
    have hbq : bodyQ ⟨c, zH, 0, 0, x⟩ = bodyK 3 ⟨c, zH, 0, 0, x⟩ := by unfold bodyQ; dsimp only; rw [hkk]
    dsimp only at hp hlaw
    rw [hbq] at hlaw
    rw [hkk] at hp
    by_cases he : c :: bodyK 3 ⟨c, zH, 0, 0, x⟩ = b
    case neg =>
      obtain ⟨t1, t2⟩ := hno (by rw [← hlaw]; exact decide_eq_false he)
      rw [t1, t2, dQ_R]
      have hne : ((c :: bodyK 3 ⟨c, zH, 0, 0, x⟩) == b) = false := by rw [beq_eq_false_iff_ne]; exact he
      generalize c :: bodyK 3 ⟨c, zH, 0, 0, x⟩ = D at *
      have hne2 : (D != b) = true := by rw [bne_iff_ne]; exact he
      repeat refine St (And.intro n1 <| And.intro hof <| And.intro ha <| And.intro n2 <| And.intro hp <| And.intro hne <| hne2) ct14 ?_
      exact AWP.ret (Fin trivial [] [])
    have hr : (readQ b).2 = true := by rw [← hlaw]; exact decide_eq_true he
    obtain ⟨t1, t2⟩ := hyes hr
    have t3 := hsame hr
    rw [t1, t2, ← t3, qT_st]
    dsimp only
    have heq : ((c :: bodyK 3 ⟨c, zH, 0, 0, x⟩) == b) = true := by rw [beq_iff_eq]; exact he
    have heq2 : ((c :: bodyK 3 ⟨c, zH, 0, 0, x⟩) != b) = false := by rw [bne_eq_false_iff_eq]; exact he
    generalize c :: bodyK 3 ⟨c, zH, 0, 0, x⟩ = D at *
    repeat refine St (And.intro n1 <| And.intro hof <| And.intro ha <| And.intro n2 <| And.intro hp <| And.intro heq <| heq2) ct14 ?_
    exact AWP.ret (Fin hz [] [])
  · replace ha : F27 [.int .u8 (c.toNat : Int)] = some ([], .t (.ar 4 1 [.bool false, .bool true, .bool true, .bool false])) := ha
    simp only [ldK] at hlaw hsame
    have n2 := num32_t (b := b1) (w := w1) (by omega)
    have l2 := ld_len (s := ⟨b1, w1⟩) t32_len
    generalize ld t32 ⟨b1, w1⟩ = R2 at *
    obtain ⟨i, ⟨b2, w2⟩⟩ := R2
    dsimp only at n2 l2 hlaw hsame
    have hwi : IntKind.u32.wrap (i.toNat : Int) = (i.toNat : Int) := wrap_u32 (by omega) (by have := i.toNat_lt; omega)
    have n3 := num32_t (b := b2) (w := w2) (by omega)
    have l3 := ld_len (s := ⟨b2, w2⟩) t32_len
    generalize ld t32 ⟨b2, w2⟩ = R3 at *
    obtain ⟨h, ⟨b3, w3⟩⟩ := R3
    dsimp only at n3 l3 hlaw hsame
    have hwh : IntKind.u32.wrap (h.toNat : Int) = (h.toNat : Int) := wrap_u32 (by omega) (by have := h.toNat_lt; omega)
    have hp := rpuq_c (q := ⟨c, zH, i, h, []⟩) (by dsimp only; simp)
    rw [qT_st] at hp
    dsimp only at hp
    rw [hz] at hp
    by_cases ho : w3 = true
    case neg =>
      have hw : w3 = false := by simpa using ho
      subst hw
      obtain ⟨t1, t2⟩ := hno (by rw [← hlaw]; rfl)
      rw [t1, t2, dQ_R]
      cases hm : mayQ ⟨c, zH, i, h, []⟩ with
      | false =>
        rw [(putQ_no hm).1, (putQ_no hm).2] at hp
        repeat refine St (And.intro n1 <| And.intro hof <| And.intro ha <| And.intro n2 <| And.intro hwi <| And.intro n3 <| And.intro hwh <| hp) ct14 ?_
        exact AWP.ret (Fin trivial [] [])
      | true =>
        rw [(putQ_yes hm).1, (putQ_yes hm).2] at hp
        repeat refine St (And.intro n1 <| And.intro hof <| And.intro ha <| And.intro n2 <| And.intro hwi <| And.intro n3 <| And.intro hwh <| hp) ct14 ?_
        exact AWP.ret (Fin trivial [] [])
    subst ho
    rw [Bool.true_and] at hlaw
    cases hm : mayQ ⟨c, zH, i, h, []⟩ with
    | false =>
      rw [hm] at hlaw
      obtain ⟨t1, t2⟩ := hno (by rw [← hlaw]; rfl)
      rw [t1, t2, dQ_R]
      rw [(putQ_no hm).1, (putQ_no hm).2] at hp
      repeat refine St (And.intro n1 <| And.intro hof <| And.intro ha <| And.intro n2 <| And.intro hwi <| And.intro n3 <| And.intro hwh <| hp) ct14 ?_
      exact AWP.ret (Fin trivial [] [])
    | true =>
    rw [hm, Bool.true_and] at hlaw
    rw [(putQ_yes hm).1, (putQ_yes hm).2] at hp
    have hbq : bodyQ ⟨c, zH, i, h, []⟩ = bodyK 4 ⟨c, zH, i, h, []⟩ := by unfold bodyQ; dsimp only; rw [hkk]
    dsimp only at hp hlaw
    rw [hbq] at hlaw
    rw [hkk] at hp
    by_cases he : c :: bodyK 4 ⟨c, zH, i, h, []⟩ = b
    case neg =>
      obtain ⟨t1, t2⟩ := hno (by rw [← hlaw]; exact decide_eq_false he)
      rw [t1, t2, dQ_R]
      have hne : ((c :: bodyK 4 ⟨c, zH, i, h, []⟩) == b) = false := by rw [beq_eq_false_iff_ne]; exact he
      generalize c :: bodyK 4 ⟨c, zH, i, h, []⟩ = D at *
      have hne2 : (D != b) = true := by rw [bne_iff_ne]; exact he
      repeat refine St (And.intro n1 <| And.intro hof <| And.intro ha <| And.intro n2 <| And.intro hwi <| And.intro n3 <| And.intro hwh <| And.intro hp <| And.intro hne <| hne2) ct14 ?_
      exact AWP.ret (Fin trivial [] [])
    have hr : (readQ b).2 = true := by rw [← hlaw]; exact decide_eq_true he
    obtain ⟨t1, t2⟩ := hyes hr
    have t3 := hsame hr
    rw [t1, t2, ← t3, qT_st]
    dsimp only
    have heq : ((c :: bodyK 4 ⟨c, zH, i, h, []⟩) == b) = true := by rw [beq_iff_eq]; exact he
    have heq2 : ((c :: bodyK 4 ⟨c, zH, i, h, []⟩) != b) = false := by rw [bne_eq_false_iff_eq]; exact he
    generalize c :: bodyK 4 ⟨c, zH, i, h, []⟩ = D at *
    repeat refine St (And.intro n1 <| And.intro hof <| And.intro ha <| And.intro n2 <| And.intro hwi <| And.intro n3 <| And.intro hwh <| And.intro hp <| And.intro heq <| heq2) ct14 ?_
    exact AWP.ret (Fin hz [] [])
  · replace ha : F27 [.int .u8 (c.toNat : Int)] = some ([], .t (.ar 4 1 [.bool false, .bool false, .bool true, .bool false])) := ha
    simp only [ldK] at hlaw hsame
    have n2 := num32_t (b := b1) (w := w1) (by omega)
    have l2 := ld_len (s := ⟨b1, w1⟩) t32_len
    generalize ld t32 ⟨b1, w1⟩ = R2 at *
    obtain ⟨h, ⟨b2, w2⟩⟩ := R2
    dsimp only at n2 l2 hlaw hsame
    have hwh : IntKind.u32.wrap (h.toNat : Int) = (h.toNat : Int) := wrap_u32 (by omega) (by have := h.toNat_lt; omega)
    have hp := rpuq_c (q := ⟨c, zH, 0, h, []⟩) (by dsimp only; simp)
    rw [qT_st] at hp
    dsimp only at hp
    rw [hz] at hp
    have hz0 : (((0 : UInt32).toNat : Nat) : Int) = 0 := rfl
    rw [hz0] at hp
    by_cases ho : w2 = true
    case neg =>
      have hw : w2 = false := by simpa using ho
      subst hw
      obtain ⟨t1, t2⟩ := hno (by rw [← hlaw]; rfl)
      rw [t1, t2, dQ_R]
      cases hm : mayQ ⟨c, zH, 0, h, []⟩ with
      | false =>
        rw [(putQ_no hm).1, (putQ_no hm).2] at hp
        repeat refine St (And.intro n1 <| And.intro hof <| And.intro ha <| And.intro n2 <| And.intro hwh <| hp) ct14 ?_
        exact AWP.ret (Fin trivial [] [])
      | true =>
        rw [(putQ_yes hm).1, (putQ_yes hm).2] at hp
        repeat refine St (And.intro n1 <| And.intro hof <| And.intro ha <| And.intro n2 <| And.intro hwh <| hp) ct14 ?_
        exact AWP.ret (Fin trivial [] [])
    subst ho
    rw [Bool.true_and] at hlaw
    cases hm : mayQ ⟨c, zH, 0, h, []⟩ with
    | false =>
      rw [hm] at hlaw
      obtain ⟨t1, t2⟩ := hno (by rw [← hlaw]; rfl)
      rw [t1, t2, dQ_R]
      rw [(putQ_no hm).1, (putQ_no hm).2] at hp
      repeat refine St (And.intro n1 <| And.intro hof <| And.intro ha <| And.intro n2 <| And.intro hwh <| hp) ct14 ?_
      exact AWP.ret (Fin trivial [] [])
    | true =>
    rw [hm, Bool.true_and] at hlaw
    rw [(putQ_yes hm).1, (putQ_yes hm).2] at hp
    have hbq : bodyQ ⟨c, zH, 0, h, []⟩ = bodyK 5 ⟨c, zH, 0, h, []⟩ := by unfold bodyQ; dsimp only; rw [hkk]
    dsimp only at hp hlaw
    rw [hbq] at hlaw
    rw [hkk] at hp
    by_cases he : c :: bodyK 5 ⟨c, zH, 0, h, []⟩ = b
    case neg =>
      obtain ⟨t1, t2⟩ := hno (by rw [← hlaw]; exact decide_eq_false he)
      rw [t1, t2, dQ_R]
      have hne : ((c :: bodyK 5 ⟨c, zH, 0, h, []⟩) == b) = false := by rw [beq_eq_false_iff_ne]; exact he
      generalize c :: bodyK 5 ⟨c, zH, 0, h, []⟩ = D at *
      have hne2 : (D != b) = true := by rw [bne_iff_ne]; exact he
      repeat refine St (And.intro n1 <| And.intro hof <| And.intro ha <| And.intro n2 <| And.intro hwh <| And.intro hp <| And.intro hne <| hne2) ct14 ?_
      exact AWP.ret (Fin trivial [] [])
    have hr : (readQ b).2 = true := by rw [← hlaw]; exact decide_eq_true he
    obtain ⟨t1, t2⟩ := hyes hr
    have t3 := hsame hr
    rw [t1, t2, ← t3, qT_st]
    dsimp only
    have heq : ((c :: bodyK 5 ⟨c, zH, 0, h, []⟩) == b) = true := by rw [beq_iff_eq]; exact he
    have heq2 : ((c :: bodyK 5 ⟨c, zH, 0, h, []⟩) != b) = false := by rw [bne_eq_false_iff_eq]; exact he
    generalize c :: bodyK 5 ⟨c, zH, 0, h, []⟩ = D at *
    repeat refine St (And.intro n1 <| And.intro hof <| And.intro ha <| And.intro n2 <| And.intro hwh <| And.intro hp <| And.intro heq <| heq2) ct14 ?_
    exact AWP.ret (Fin hz [] [])
  · replace ha : F27 [.int .u8 (c.toNat : Int)] = some ([], .t (.ar 4 1 [.bool false, .bool false, .bool false, .bool false])) := ha
    simp only [ldK] at hlaw hsame
    have hp := rpuq_c (q := ⟨c, zH, 0, 0, []⟩) (by dsimp only; simp)
    rw [qT_st] at hp
    dsimp only at hp
    rw [hz] at hp
    have hz0 : (((0 : UInt32).toNat : Nat) : Int) = 0 := rfl
    rw [hz0] at hp
    by_cases ho : w1 = true
    case neg =>
      have hw : w1 = false := by simpa using ho
      subst hw
      obtain ⟨t1, t2⟩ := hno (by rw [← hlaw]; rfl)
      rw [t1, t2, dQ_R]
      cases hm : mayQ ⟨c, zH, 0, 0, []⟩ with
      | false =>
        rw [(putQ_no hm).1, (putQ_no hm).2] at hp
        repeat refine St (And.intro n1 <| And.intro hof <| And.intro ha <| hp) ct14 ?_
        exact AWP.ret (Fin trivial [] [])
      | true =>
        rw [(putQ_yes hm).1, (putQ_yes hm).2] at hp
        repeat refine St (And.intro n1 <| And.intro hof <| And.intro ha <| hp) ct14 ?_
        exact AWP.ret (Fin trivial [] [])
    subst ho
    rw [Bool.true_and] at hlaw
    cases hm : mayQ ⟨c, zH, 0, 0, []⟩ with
    | false =>
      rw [hm] at hlaw
      obtain ⟨t1, t2⟩ := hno (by rw [← hlaw]; rfl)
      rw [t1, t2, dQ_R]
      rw [(putQ_no hm).1, (putQ_no hm).2] at hp
      repeat refine St (And.intro n1 <| And.intro hof <| And.intro ha <| hp) ct14 ?_
      exact AWP.ret (Fin trivial [] [])
    | true =>
    rw [hm, Bool.true_and] at hlaw
    rw [(putQ_yes hm).1, (putQ_yes hm).2] at hp
    have hbq : bodyQ ⟨c, zH, 0, 0, []⟩ = bodyK 0 ⟨c, zH, 0, 0, []⟩ := by unfold bodyQ; dsimp only; rw [hkk]
    dsimp only at hp hlaw
    rw [hbq] at hlaw
    rw [hkk] at hp
    by_cases he : c :: bodyK 0 ⟨c, zH, 0, 0, []⟩ = b
    case neg =>
      obtain ⟨t1, t2⟩ := hno (by rw [← hlaw]; exact decide_eq_false he)
      rw [t1, t2, dQ_R]
      have hne : ((c :: bodyK 0 ⟨c, zH, 0, 0, []⟩) == b) = false := by rw [beq_eq_false_iff_ne]; exact he
      generalize c :: bodyK 0 ⟨c, zH, 0, 0, []⟩ = D at *
      have hne2 : (D != b) = true := by rw [bne_iff_ne]; exact he
      repeat refine St (And.intro n1 <| And.intro hof <| And.intro ha <| And.intro hp <| And.intro hne <| hne2) ct14 ?_
      exact AWP.ret (Fin trivial [] [])
    have hr : (readQ b).2 = true := by rw [← hlaw]; exact decide_eq_true he
    obtain ⟨t1, t2⟩ := hyes hr
    have t3 := hsame hr
    rw [t1, t2, ← t3, qT_st]
    dsimp only
    have heq : ((c :: bodyK 0 ⟨c, zH, 0, 0, []⟩) == b) = true := by rw [beq_iff_eq]; exact he
    have heq2 : ((c :: bodyK 0 ⟨c, zH, 0, 0, []⟩) != b) = false := by rw [bne_eq_false_iff_eq]; exact he
    generalize c :: bodyK 0 ⟨c, zH, 0, 0, []⟩ = D at *
    repeat refine St (And.intro n1 <| And.intro hof <| And.intro ha <| And.intro hp <| And.intro heq <| heq2) ct14 ?_
    exact AWP.ret (Fin hz [] [])

theorem rtaq_c {b : List UInt8} (h : b.length ≤ 549740000000) : F14 [.by b] = some ([], .tup [.t (qT (tkQ b)), .t (.int .i64 (tkQe b))]) := if_pos h

end Go.Fw

end

section
/- Chapter 33: the live question, RpcQuestion: their code walked. -/
namespace Go.Fw
open Go Go.Proofs
set_option linter.unusedVariables false
set_option linter.unusedSimpArgs false

def dead33 : T := .st [.int .u8 2, .int .i64 5, .ba 32 (zby 32), .int .u32 0, .ar 4 1 (List.replicate 4 (.int .u64 0)), .int .u64 0, .bool false, .by [], .sq 69 [], .ar 5 1 (List.replicate 5 (.int .u32 0)), .sq 32 []]
theorem dead33_eq : dead33 = .st [.int .u8 2, .int .i64 5, .ba 32 (zby 32), .int .u32 0, .ar 4 1 (List.replicate 4 (.int .u64 0)), .int .u64 0, .bool false, .by [], .sq 69 [], .ar 5 1 (List.replicate 5 (.int .u32 0)), .sq 32 []] := rfl

/-- The one answer that the live question asks. -/
noncomputable def F33q : Fun
  | [.by b] => if b = [UInt8.ofNat 2, UInt8.ofNat 5] then some ([], .tup [.t dead33, .t (.bool true)]) else none
  | _ => none

theorem ct33q : CT [(47, ⟨[false], treeG F47⟩), (48, ⟨[true], G48⟩)] [0, 2, 3, 4, 5, 21, 37] [(4, [⟨0, [0], [], []⟩, ⟨1, [27], [], []⟩, ⟨1, [28], [1], []⟩, ⟨0, [0], [], []⟩, ⟨1, [30], [], []⟩, ⟨1, [31], [4], []⟩, ⟨1, [32], [4, 5], []⟩, ⟨1, [29, 33], [1, 2, 4, 5, 6], []⟩, ⟨1, [], [], []⟩, ⟨2, [5, 34], [1, 2, 4, 5, 6, 7, 8], []⟩]), (7, [⟨1, [5], [], []⟩, ⟨0, [4], [], []⟩, ⟨0, [42], [], []⟩, ⟨0, [43], [], []⟩, ⟨0, [44], [], [1]⟩, ⟨0, [45], [], []⟩, ⟨0, [46], [], []⟩, ⟨0, [4], [], []⟩, ⟨0, [48], [], []⟩, ⟨0, [49], [], []⟩, ⟨0, [50], [], [1]⟩, ⟨0, [51], [], [1]⟩, ⟨0, [52], [], []⟩, ⟨0, [47, 53], [], []⟩, ⟨2, [2, 41], [0], [1]⟩, ⟨0, [54], [0, 14], []⟩])] := ⟨(.cons c47.g (.cons g48 (.nil _)))⟩

set_option maxHeartbeats 2000000 in
theorem c33q : ACon Try.prog 33 F33q := by
  refine aconc E_ok (rs := [.cell 2 47, .tmp 3 4]) Try.func33 rfl Try.ntmps33 (by kernel_rfl) rfl (by decide) F33q (np := 1) ?_ ?_
  · intro ts h; unfold F33q; split <;> first | rfl | (simp at h; done)
  intro ts H r hF hwf
  unfold F33q at hF
  split at hF <;> try (cases hF; done)
  
  rename_i b
  split at hF
  case isFalse => cases hF
  rename_i hb
  cases hF
  subst hb
  have h1 := isop_c (UInt8.ofNat 2)
  have h2 : isOp (UInt8.ofNat 2) = true := rfl
  rw [h2] at h1
  rw [dead33_eq]
  have e2 : ((UInt8.ofNat 2).toNat : Int) = 2 := rfl
  have e5 : ((UInt8.ofNat 5).toNat : Int) = 5 := rfl
  rw [e2] at h1
  repeat refine St (And.intro h1 <| And.intro e2 <| e5) ct33q ?_
  refine AWP.weak (Wn 2 [7] 41 (.by [])) ?_
  refine AWP.weak (Wn 2 [8] 42 (.sq 69 [])) ?_
  refine AWP.weak (Wn 2 [10] 48 (.sq 32 [])) ?_
  repeat refine St (And.intro h1 <| And.intro e2 <| e5) ct33q ?_
  exact AWP.ret (Fin trivial [] [])

noncomputable def F16q : Fun
  | [.by b] => if b = [UInt8.ofNat 2, UInt8.ofNat 5] then some ([], .tup [.t dead33, .t (.int .i64 0)]) else none
  | _ => none

theorem ct16q : CT [(33, ⟨[false], treeG F33q⟩)] [0, 2, 3, 4, 5, 12] [] := ⟨(.cons c33q.g (.nil _))⟩

set_option maxHeartbeats 2000000 in
theorem c16q : ACon Try.prog 16 F16q := by
  refine aconc E_ok (rs := [.cell 2 47, .tmp 3 28]) Try.func16 rfl Try.ntmps16 (by kernel_rfl) rfl (by decide) F16q (np := 1) ?_ ?_
  · intro ts h; unfold F16q; split <;> first | rfl | (simp at h; done)
  intro ts H r hF hwf
  unfold F16q at hF
  split at hF <;> try (cases hF; done)
  
  rename_i b
  split at hF
  case isFalse => cases hF
  rename_i hb
  cases hF
  subst hb
  have h1 : F33q [.by [UInt8.ofNat 2, UInt8.ofNat 5]] = some ([], .tup [.t dead33, .t (.bool true)]) := by simp only [F33q, if_true]
  rw [dead33_eq] at h1 ⊢
  repeat refine St h1 ct16q ?_
  exact AWP.ret (Fin trivial [] [])

def F9 : Fun
  | [] => some ([], .t (.bool true))
  | _ => none

theorem ct9 : CT [(10, ⟨[false], treeG F10⟩), (13, ⟨[false], treeG F13⟩), (16, ⟨[false], treeG F16q⟩)] [0, 1, 2, 3, 4, 6] [] := ⟨(.cons c10.g (.cons c13.g (.cons c16q.g (.nil _))))⟩

set_option maxHeartbeats 2000000 in
theorem c9 : ACon Try.prog 9 F9 := by
  refine aconc E_ok (rs := [.tmp 0 4]) Try.func9 rfl Try.ntmps9 (by kernel_rfl) rfl (by decide) F9 (np := 0) ?_ ?_
  · intro ts h; unfold F9; split <;> first | rfl | (simp at h; done)
  intro ts H r hF hwf
  unfold F9 at hF
  split at hF <;> try (cases hF; done)
  cases hF
  have h1 := puq_c (q := ⟨1, zH, 0, 0, []⟩) (by simp)
  have m1 : mayQ ⟨1, zH, 0, 0, []⟩ = true := by decide +kernel
  have p1 : putQ ⟨1, zH, 0, 0, []⟩ = [1] := by unfold putQ; rw [if_pos m1]; rfl
  have p2 : putQe ⟨1, zH, 0, 0, []⟩ = 0 := if_pos m1
  have q1 : qT ⟨1, zH, 0, 0, []⟩ = .st [.int .u8 1, .ba 32 (zby 32), .int .u32 0, .int .u32 0, .by []] := rfl
  rw [p1, p2, q1] at h1
  have h2 : F16q [.by [UInt8.ofNat 2, UInt8.ofNat 5]] = some ([], .tup [.t dead33, .t (.int .i64 0)]) := by simp only [F16q, if_true]
  rw [dead33_eq] at h2
  have h3 := taq_c (b := [UInt8.ofNat 11]) (by simp)
  have r1 : (readQ [UInt8.ofNat 11]).2 = false := by rw [readQ_no (by decide)]
  have r2 : tkQ [UInt8.ofNat 11] = dQ := if_neg (by rw [r1]; simp)
  have r3 : tkQe [UInt8.ofNat 11] = 3 := if_neg (by rw [r1]; simp)
  rw [r2, r3, dQ_T] at h3
  repeat refine St (And.intro h1 <| And.intro h2 <| h3) ct9 ?_
  exact AWP.ret (Fin trivial [] [])

noncomputable def F12 : Fun
  | [y] => match inv qT y with
    | some q => some ([], .t (qT q))
    | none => none
  | _ => none

theorem ct12 : CT [] [0, 1, 2] [] := ⟨GClOk.nil _⟩

theorem c12 : ACon Try.prog 12 F12 := by
  refine aconc E_ok (rs := [.cell 2 32]) Try.func12 rfl Try.ntmps12 (by kernel_rfl) rfl (by decide) F12 (np := 1) ?_ ?_
  · intro ts h; unfold F12; split <;> first | rfl | (simp at h; done)
  intro ts H r hF hwf
  unfold F12 at hF
  split at hF <;> try (cases hF; done)
  split at hF <;> try (cases hF; done)
  rename_i q hq
  cases hF
  obtain rfl := inv_inv hq
  have hn := q.name.2
  rw [qT_st]
  repeat refine St hn ct12 ?_
  exact AWP.ret (Fin trivial [] [])
theorem qst_c (q : TQ) : F12 [qT q] = some ([], .t (qT q)) := by simp only [F12, inv_of qT_inj]

noncomputable def F3 : Fun
  | [y, .by b] => match inv qT y with
    | some q => some ([], .t (.bool true))
    | none => none
  | _ => none

theorem ct3 : CT [(9, ⟨[], treeG F9⟩), (10, ⟨[false], treeG F10⟩), (11, ⟨[false], treeG F11⟩), (12, ⟨[false], treeG F12⟩), (13, ⟨[false], treeG F13⟩), (14, ⟨[false], treeG F14⟩), (15, ⟨[false, false], treeG F15⟩)] [0, 1, 2, 4, 5, 6, 7, 8, 9, 10, 11, 12, 13, 22] [(8, (List.cons (⟨1, [], [], []⟩ : Info) <| List.cons (⟨0, [48], [0], []⟩ : Info) <| List.cons (⟨0, [5], [0], []⟩ : Info) <| List.cons (⟨1, [50], [0], []⟩ : Info) <| List.cons (⟨0, [7], [0], []⟩ : Info) <| List.cons (⟨1, [52], [0], []⟩ : Info) <| List.cons (⟨0, [51, 53], [0, 3, 5], []⟩ : Info) <| List.cons (⟨0, [49, 54], [0, 3, 5], []⟩ : Info) <| List.cons (⟨0, [55], [0, 3, 5], []⟩ : Info) <| List.cons (⟨0, [6], [0, 3, 5], []⟩ : Info) <| List.cons (⟨0, [8], [0, 3, 5], []⟩ : Info) <| List.cons (⟨0, [57, 58], [0, 3, 5], []⟩ : Info) <| List.cons (⟨0, [56, 59], [0, 3, 5], []⟩ : Info) <| List.cons (⟨0, [60], [0, 3, 5], []⟩ : Info) <| List.cons (⟨1, [10], [0, 3, 5], []⟩ : Info) <| List.cons (⟨1, [62], [0, 3, 5, 14], []⟩ : Info) <| List.cons (⟨1, [12], [0, 3, 5], []⟩ : Info) <| List.cons (⟨1, [63, 64], [0, 3, 5, 14, 15, 16], []⟩ : Info) <| List.cons (⟨0, [61, 65], [0, 3, 5, 14, 15, 16, 17], []⟩ : Info) <| List.cons (⟨0, [66], [0, 3, 5, 14, 15, 16, 17], []⟩ : Info) <| List.cons (⟨0, [11], [0, 3, 5, 14, 15, 16, 17], []⟩ : Info) <| List.cons (⟨0, [13], [0, 3, 5, 14, 15, 16, 17], []⟩ : Info) <| List.cons (⟨0, [68, 69], [0, 3, 5, 14, 15, 16, 17], []⟩ : Info) <| List.cons (⟨0, [67, 70], [0, 3, 5, 14, 15, 16, 17], []⟩ : Info) <| List.cons (⟨0, [71], [0, 3, 5, 14, 15, 16, 17], []⟩ : Info) <| List.cons (⟨0, [9], [0, 3, 5, 14, 15, 16, 17], []⟩ : Info) <| List.cons (⟨1, [73], [0, 3, 5, 14, 15, 16, 17], []⟩ : Info) <| List.cons (⟨0, [1], [0, 3, 5, 14, 15, 16, 17], []⟩ : Info) <| List.cons (⟨1, [75], [0, 3, 5, 14, 15, 16, 17], []⟩ : Info) <| List.cons (⟨0, [74, 76], [0, 3, 5, 14, 15, 16, 17, 26, 28], []⟩ : Info) <| List.cons (⟨0, [72, 77], [0, 3, 5, 14, 15, 16, 17, 26, 28], []⟩ : Info) <| List.cons (⟨0, [78], [0, 3, 5, 14, 15, 16, 17, 26, 28], []⟩ : Info) <| []))] := ⟨(.cons c9.g (.cons c10.g (.cons c11.g (.cons c12.g (.cons c13.g (.cons c14.g (.cons c15.g (.nil _))))))))⟩

set_option maxRecDepth 20000 in
set_option maxHeartbeats 4000000 in
theorem c3 : ACon Try.prog 3 F3 := by
  refine aconc E_ok (rs := [.tmp 4 4]) Try.func3 rfl Try.ntmps3 (by kernel_rfl) rfl (by decide) F3 (np := 2) ?_ ?_
  · intro ts h; unfold F3; split <;> first | rfl | (simp at h; done)
  intro ts H r hF hwf
  unfold F3 at hF
  split at hF <;> try (cases hF; done)
  rename_i y b
  split at hF <;> try (cases hF; done)
  rename_i q hq
  cases hF
  obtain rfl := inv_inv hq
  have hn := q.name.2
  by_cases ha : (600 : Int) < (q.bts.length : Int)
  · rw [qT_st]
    repeat refine St (And.intro hn <| And.intro ha <| @F9.eq_def) ct3 ?_
    exact AWP.ret (Fin trivial [] [])
  by_cases hb : (600 : Int) < (b.length : Int)
  · rw [qT_st]
    repeat refine St (And.intro hn <| And.intro ha <| And.intro hb <| @F9.eq_def) ct3 ?_
    exact AWP.ret (Fin trivial [] [])
  have h1 := puq_c (q := q) (by omega)
  have h2 := rpuq_c (q := q) (by omega)
  have h3 := taq_c (b := b) (by omega)
  have h4 := rtaq_c (b := b) (by omega)
  have h5 := qst_c q
  have h6 := qst_c (tkQ b)
  have h7 := rsame_q (tkQ b) (tkQ b)
  rw [decide_eq_true rfl] at h7
  generalize tkQ b = p at *
  generalize tkQe b = pe at *
  generalize putQ q = x at *
  generalize putQe q = e at *
  have hp := p.name.2
  rw [qT_st] at h1 h2 h3 h4 h5 h6 h7 ⊢
  have r1 : (x == x) = true := beq_self_eq_true _
  have r2 : (e == e) = true := beq_self_eq_true _
  have r3 : (pe == pe) = true := beq_self_eq_true _
  have r4 : (b == b) = true := beq_self_eq_true _
  repeat refine St (And.intro hn <| And.intro ha <| And.intro hb <| And.intro h1 <| And.intro h2 <| And.intro h3 <| And.intro h4 <| And.intro h5 <| And.intro h6 <| And.intro h7 <| And.intro hp <| And.intro r1 <| And.intro r2 <| And.intro r3 <| And.intro r4 <| @F9.eq_def) ct3 ?_
  exact AWP.ret (Fin trivial [] [])

theorem rpcQuestion_t (q : TQ) (b : List UInt8) : F3 [qT q, .by b] = some ([], .t (.bool true)) := by simp only [F3, inv_of qT_inj]

end Go.Fw

end
