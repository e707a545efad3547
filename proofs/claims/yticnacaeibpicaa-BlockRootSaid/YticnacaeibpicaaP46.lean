/- The abstract machine, and the contracts of the code: part 46. -/
import Derived.Test.YticnacaeibpicaaFwCp

section
/- compact: bytes laid. -/
namespace Go.Fw
open Go Go.Proofs
set_option linter.unusedVariables false
set_option linter.unusedSimpArgs false

def F57 : Fun
  | [.by b] => if b.length ≤ 549755813888 then some ([.by b], .own 0) else none
  | _ => none

theorem ct57 : CT [] [0, 2] [] := ⟨GClOk.nil _⟩

theorem c57 : ACon Try.prog 57 F57 := by
  refine aconc E_ok (rs := [.tmp 2 22]) Try.func57 rfl Try.ntmps57 (by kernel_rfl) rfl (by decide) F57 (np := 1) ?_ ?_
  · intro ts h; unfold F57; split <;> first | rfl | (simp at h; done)
  intro ts H r hF hwf
  unfold F57 at hF
  split at hF <;> try (cases hF; done)
  rename_i b
  split at hF
  case isFalse => cases hF
  rename_i hc
  have hb := hc
  cases hF
  repeat refine St trivial ct57 ?_
  exact AWP.ret (Fin trivial [] [0])

def F71 : Fun
  | [.by b, .int .u8 n, .int .i64 m] => if b.length ≤ 549755813000 ∧ 0 ≤ m ∧ m ≤ 16 then some ([.by (b ++ le m.toNat n)], .own 0) else none
  | _ => none

theorem ct71 : CT [] [0, 1, 2, 6, 7, 8, 21, 22, 23] [] := ⟨GClOk.nil _⟩

theorem c71 : ACon Try.prog 71 F71 := by
  refine aconc E_ok (rs := [.tmp 6 22]) Try.func71 rfl Try.ntmps71 (by kernel_rfl) rfl (by decide) F71 (np := 3) ?_ ?_
  · intro ts h; unfold F71; split <;> first | rfl | (simp at h; done)
  intro ts H r hF hwf
  unfold F71 at hF
  split at hF <;> try (cases hF; done)
  rename_i b n m
  split at hF
  case isFalse => cases hF
  rename_i hc
  obtain ⟨hb, h0, h1⟩ := hc
  cases hF
  have hn := inK_u8 (hwf (.int .u8 n) (by simp))
  repeat refine St trivial ct71 ?_
  refine AWP.loop (G := { k : Nat // k ≤ m.toNat }) (fun k => ⟨[(7, .own 0), (8, .t (.int .u64 (shrB k.1 n))), (21, .t (.int .i64 m)), (22, .t (.int .i64 (k.1 : Int)))], [.by (b ++ le k.1 n)]⟩)
    (fun k => m.toNat - k.1) ⟨0, by omega⟩ (Wt (And.intro (And.intro @shrB.eq_1 <| @shrB.eq_2) <| (And.intro @le.eq_1 <| @le.eq_2)) [7, 8, 21, 22] [0]) ?_
  intro ⟨k, hk⟩
  dsimp only
  by_cases hlt : (k : Int) < m
  · have hl : (b ++ le k n).length ≤ 549755813100 := by simp [le_len]; omega
    have hr := shrB_range k n (by omega) (by omega)
    repeat refine St (And.intro @shr8 <| @le_len) ct71 ?_
    exact ⟨⟨k + 1, by omega⟩, (Wt (And.intro (And.intro @shrB.eq_1 <| @shrB.eq_2) <| And.intro (And.intro @le.eq_1 <| @le.eq_2) <| @List.append_assoc.{0}) [7, 8, 21, 22] [2]), by simp only; omega⟩
  · obtain rfl : k = m.toNat := by omega
    repeat refine St trivial ct71 ?_
    exact AWP.ret (Fin trivial [] [0])

def F72 : Fun
  | [.by b, .int .u16 n, .int .i64 m] => if b.length ≤ 549755813000 ∧ 0 ≤ m ∧ m ≤ 16 then some ([.by (b ++ le m.toNat n)], .own 0) else none
  | _ => none

theorem ct72 : CT [] [0, 1, 2, 6, 7, 8, 21, 22, 23] [] := ⟨GClOk.nil _⟩

theorem c72 : ACon Try.prog 72 F72 := by
  refine aconc E_ok (rs := [.tmp 6 22]) Try.func72 rfl Try.ntmps72 (by kernel_rfl) rfl (by decide) F72 (np := 3) ?_ ?_
  · intro ts h; unfold F72; split <;> first | rfl | (simp at h; done)
  intro ts H r hF hwf
  unfold F72 at hF
  split at hF <;> try (cases hF; done)
  rename_i b n m
  split at hF
  case isFalse => cases hF
  rename_i hc
  obtain ⟨hb, h0, h1⟩ := hc
  cases hF
  have hn := inK_u16 (hwf (.int .u16 n) (by simp))
  repeat refine St trivial ct72 ?_
  refine AWP.loop (G := { k : Nat // k ≤ m.toNat }) (fun k => ⟨[(7, .own 0), (8, .t (.int .u64 (shrB k.1 n))), (21, .t (.int .i64 m)), (22, .t (.int .i64 (k.1 : Int)))], [.by (b ++ le k.1 n)]⟩)
    (fun k => m.toNat - k.1) ⟨0, by omega⟩ (Wt (And.intro (And.intro @shrB.eq_1 <| @shrB.eq_2) <| (And.intro @le.eq_1 <| @le.eq_2)) [7, 8, 21, 22] [0]) ?_
  intro ⟨k, hk⟩
  dsimp only
  by_cases hlt : (k : Int) < m
  · have hl : (b ++ le k n).length ≤ 549755813100 := by simp [le_len]; omega
    have hr := shrB_range k n (by omega) (by omega)
    repeat refine St (And.intro @shr8 <| @le_len) ct72 ?_
    exact ⟨⟨k + 1, by omega⟩, (Wt (And.intro (And.intro @shrB.eq_1 <| @shrB.eq_2) <| And.intro (And.intro @le.eq_1 <| @le.eq_2) <| @List.append_assoc.{0}) [7, 8, 21, 22] [2]), by simp only; omega⟩
  · obtain rfl : k = m.toNat := by omega
    repeat refine St trivial ct72 ?_
    exact AWP.ret (Fin trivial [] [0])

def F68 : Fun
  | [.by b, .int .u32 n, .int .i64 m] => if b.length ≤ 549755813000 ∧ 0 ≤ m ∧ m ≤ 16 then some ([.by (b ++ le m.toNat n)], .own 0) else none
  | _ => none

theorem ct68 : CT [] [0, 1, 2, 6, 7, 8, 21, 22, 23] [] := ⟨GClOk.nil _⟩

theorem c68 : ACon Try.prog 68 F68 := by
  refine aconc E_ok (rs := [.tmp 6 22]) Try.func68 rfl Try.ntmps68 (by kernel_rfl) rfl (by decide) F68 (np := 3) ?_ ?_
  · intro ts h; unfold F68; split <;> first | rfl | (simp at h; done)
  intro ts H r hF hwf
  unfold F68 at hF
  split at hF <;> try (cases hF; done)
  rename_i b n m
  split at hF
  case isFalse => cases hF
  rename_i hc
  obtain ⟨hb, h0, h1⟩ := hc
  cases hF
  have hn := inK_u32 (hwf (.int .u32 n) (by simp))
  repeat refine St trivial ct68 ?_
  refine AWP.loop (G := { k : Nat // k ≤ m.toNat }) (fun k => ⟨[(7, .own 0), (8, .t (.int .u64 (shrB k.1 n))), (21, .t (.int .i64 m)), (22, .t (.int .i64 (k.1 : Int)))], [.by (b ++ le k.1 n)]⟩)
    (fun k => m.toNat - k.1) ⟨0, by omega⟩ (Wt (And.intro (And.intro @shrB.eq_1 <| @shrB.eq_2) <| (And.intro @le.eq_1 <| @le.eq_2)) [7, 8, 21, 22] [0]) ?_
  intro ⟨k, hk⟩
  dsimp only
  by_cases hlt : (k : Int) < m
  · have hl : (b ++ le k n).length ≤ 549755813100 := by simp [le_len]; omega
    have hr := shrB_range k n (by omega) (by omega)
    repeat refine St (And.intro @shr8 <| @le_len) ct68 ?_
    exact ⟨⟨k + 1, by omega⟩, (Wt (And.intro (And.intro @shrB.eq_1 <| @shrB.eq_2) <| And.intro (And.intro @le.eq_1 <| @le.eq_2) <| @List.append_assoc.{0}) [7, 8, 21, 22] [2]), by simp only; omega⟩
  · obtain rfl : k = m.toNat := by omega
    repeat refine St trivial ct68 ?_
    exact AWP.ret (Fin trivial [] [0])

def F73 : Fun
  | [.by b, .int .u64 n, .int .i64 m] => if b.length ≤ 549755813000 ∧ 0 ≤ m ∧ m ≤ 16 then some ([.by (b ++ le m.toNat n)], .own 0) else none
  | _ => none

theorem ct73 : CT [] [0, 1, 2, 6, 7, 8, 20, 21, 22] [] := ⟨GClOk.nil _⟩

theorem c73 : ACon Try.prog 73 F73 := by
  refine aconc E_ok (rs := [.tmp 6 22]) Try.func73 rfl Try.ntmps73 (by kernel_rfl) rfl (by decide) F73 (np := 3) ?_ ?_
  · intro ts h; unfold F73; split <;> first | rfl | (simp at h; done)
  intro ts H r hF hwf
  unfold F73 at hF
  split at hF <;> try (cases hF; done)
  rename_i b n m
  split at hF
  case isFalse => cases hF
  rename_i hc
  obtain ⟨hb, h0, h1⟩ := hc
  cases hF
  have hn := inK_u64 (hwf (.int .u64 n) (by simp))
  repeat refine St trivial ct73 ?_
  refine AWP.loop (G := { k : Nat // k ≤ m.toNat }) (fun k => ⟨[(7, .own 0), (8, .t (.int .u64 (shrB k.1 n))), (20, .t (.int .i64 m)), (21, .t (.int .i64 (k.1 : Int)))], [.by (b ++ le k.1 n)]⟩)
    (fun k => m.toNat - k.1) ⟨0, by omega⟩ (Wt (And.intro (And.intro @shrB.eq_1 <| @shrB.eq_2) <| (And.intro @le.eq_1 <| @le.eq_2)) [7, 8, 20, 21] [0]) ?_
  intro ⟨k, hk⟩
  dsimp only
  by_cases hlt : (k : Int) < m
  · have hl : (b ++ le k n).length ≤ 549755813100 := by simp [le_len]; omega
    have hr := shrB_range k n (by omega) (by omega)
    repeat refine St (And.intro @shr8 <| @le_len) ct73 ?_
    exact ⟨⟨k + 1, by omega⟩, (Wt (And.intro (And.intro @shrB.eq_1 <| @shrB.eq_2) <| And.intro (And.intro @le.eq_1 <| @le.eq_2) <| @List.append_assoc.{0}) [7, 8, 20, 21] [2]), by simp only; omega⟩
  · obtain rfl : k = m.toNat := by omega
    repeat refine St trivial ct73 ?_
    exact AWP.ret (Fin trivial [] [0])

def F38 : Fun
  | [.by b, .int .u32 n] => if b.length ≤ 549755812000 then some ([.by (b ++ le 4 n)], .own 0) else none
  | _ => none

theorem ct38 : CT [(68, ⟨[false, false, false], treeG F68⟩)] [0, 1, 4] [] := ⟨(.cons c68.g (.nil _))⟩

theorem c38 : ACon Try.prog 38 F38 := by
  refine aconc E_ok (rs := [.tmp 4 22]) Try.func38 rfl Try.ntmps38 (by kernel_rfl) rfl (by decide) F38 (np := 2) ?_ ?_
  · intro ts h; unfold F38; split <;> first | rfl | (simp at h; done)
  intro ts H r hF hwf
  unfold F38 at hF
  split at hF <;> try (cases hF; done)
  rename_i b n
  split at hF
  case isFalse => cases hF
  rename_i hc
  have hb := hc
  cases hF
  have h : F68 [.by b, .int .u32 n, .int .i64 4] = some ([.by (b ++ le 4 n)], .own 0) := if_pos (by omega)
  repeat refine St h ct38 ?_
  exact AWP.ret (Fin trivial [] [0])

def F83 : Fun
  | [.by b, .int .u64 n] => if b.length ≤ 549755812000 then some ([.by (b ++ le 8 n)], .own 0) else none
  | _ => none

theorem ct83 : CT [(73, ⟨[false, false, false], treeG F73⟩)] [0, 1, 4] [] := ⟨(.cons c73.g (.nil _))⟩

theorem c83 : ACon Try.prog 83 F83 := by
  refine aconc E_ok (rs := [.tmp 4 22]) Try.func83 rfl Try.ntmps83 (by kernel_rfl) rfl (by decide) F83 (np := 2) ?_ ?_
  · intro ts h; unfold F83; split <;> first | rfl | (simp at h; done)
  intro ts H r hF hwf
  unfold F83 at hF
  split at hF <;> try (cases hF; done)
  rename_i b n
  split at hF
  case isFalse => cases hF
  rename_i hc
  have hb := hc
  cases hF
  have h : F73 [.by b, .int .u64 n, .int .i64 8] = some ([.by (b ++ le 8 n)], .own 0) := if_pos (by omega)
  repeat refine St h ct83 ?_
  exact AWP.ret (Fin trivial [] [0])

theorem put64_c {b : List UInt8} (n : Int) (h : b.length ≤ 549755812000) : F83 [.by b, .int .u64 n] = some ([.by (b ++ le 8 n)], .own 0) := if_pos h
theorem put32_c {b : List UInt8} (n : Int) (h : b.length ≤ 549755812000) : F38 [.by b, .int .u32 n] = some ([.by (b ++ le 4 n)], .own 0) := if_pos h
def F42 : Fun
  | [.by b, .int .u64 n] => if b.length ≤ 549755812000 then some ([.by (b ++ sizeB n)], .own 0) else none
  | _ => none

theorem ct42 : CT [(68, ⟨[false, false, false], treeG F68⟩), (71, ⟨[false, false, false], treeG F71⟩), (72, ⟨[false, false, false], treeG F72⟩), (73, ⟨[false, false, false], treeG F73⟩)] [0, 1, 4, 5, 12, 20] [] := ⟨(.cons c68.g (.cons c71.g (.cons c72.g (.cons c73.g (.nil _)))))⟩

theorem c42 : ACon Try.prog 42 F42 := by
  refine aconc E_ok (rs := [.tmp 4 22]) Try.func42 rfl Try.ntmps42 (by kernel_rfl) rfl (by decide) F42 (np := 2) ?_ ?_
  · intro ts h; unfold F42; split <;> first | rfl | (simp at h; done)
  intro ts H r hF hwf
  unfold F42 at hF
  split at hF <;> try (cases hF; done)
  rename_i b n
  split at hF
  case isFalse => cases hF
  rename_i hc
  have hb := hc
  cases hF
  have hn := inK_u64 (hwf (.int .u64 n) (by simp))
  have h8 : ∀ c : Int, F71 [.by b, .int .u8 c, .int .i64 1] = some ([.by (b ++ le 1 c)], .own 0) := fun c => if_pos (by omega)
  have hl : ∀ c : Int, (b ++ le 1 c).length ≤ 549755813000 := fun c => by simp [le_len]; omega
  have h16 : ∀ c d : Int, F72 [.by (b ++ le 1 c), .int .u16 d, .int .i64 2] = some ([.by (b ++ le 1 c ++ le 2 d)], .own 0) := fun c d => if_pos ⟨hl c, by omega⟩
  have h32 : ∀ c d : Int, F68 [.by (b ++ le 1 c), .int .u32 d, .int .i64 4] = some ([.by (b ++ le 1 c ++ le 4 d)], .own 0) := fun c d => if_pos ⟨hl c, by omega⟩
  have h64 : ∀ c d : Int, F73 [.by (b ++ le 1 c), .int .u64 d, .int .i64 8] = some ([.by (b ++ le 1 c ++ le 8 d)], .own 0) := fun c d => if_pos ⟨hl c, by omega⟩
  by_cases h1 : n < 253
  · have hw : IntKind.u8.wrap n = n := wrap_u8 (by omega) (by omega)
    repeat refine St (And.intro hw <| h8) ct42 ?_
    exact AWP.ret (Fin (And.intro @sizeB.eq_def <| h1) [] [0])
  by_cases h2 : n < 65536
  · have hw : IntKind.u16.wrap n = n := wrap_u16 (by omega) (by omega)
    repeat refine St (And.intro hw <| And.intro h8 <| h16) ct42 ?_
    exact AWP.ret (Fin (And.intro @sizeB.eq_def <| And.intro h1 <| And.intro h2 <| @List.append_assoc.{0}) [] [1])
  by_cases h3 : n < 4294967296
  · have hw : IntKind.u32.wrap n = n := wrap_u32 (by omega) (by omega)
    repeat refine St (And.intro hw <| And.intro h8 <| h32) ct42 ?_
    exact AWP.ret (Fin (And.intro @sizeB.eq_def <| And.intro h1 <| And.intro h2 <| And.intro h3 <| @List.append_assoc.{0}) [] [1])
  repeat refine St (And.intro h8 <| h64) ct42 ?_
  exact AWP.ret (Fin (And.intro @sizeB.eq_def <| And.intro h1 <| And.intro h2 <| And.intro h3 <| @List.append_assoc.{0}) [] [1])

theorem putsize_c {b : List UInt8} (n : Int) (h : b.length ≤ 549755812000) : F42 [.by b, .int .u64 n] = some ([.by (b ++ sizeB n)], .own 0) := if_pos h

def F84 : Fun
  | [.by b, .by x] => if b.length + x.length ≤ 549755800000 then some ([.by (b ++ sizeB x.length ++ x)], .own 0) else none
  | _ => none

theorem ct84 : CT [(42, ⟨[false, false], treeG F42⟩)] [0, 1, 4] [] := ⟨(.cons c42.g (.nil _))⟩

theorem c84 : ACon Try.prog 84 F84 := by
  refine aconc E_ok (rs := [.tmp 4 22]) Try.func84 rfl Try.ntmps84 (by kernel_rfl) rfl (by decide) F84 (np := 2) ?_ ?_
  · intro ts h; unfold F84; split <;> first | rfl | (simp at h; done)
  intro ts H r hF hwf
  unfold F84 at hF
  split at hF <;> try (cases hF; done)
  rename_i b x
  split at hF
  case isFalse => cases hF
  rename_i hc
  have hb := hc
  cases hF
  have hs := sizeB_len (x.length : Int)
  have h : F42 [.by b, .int .u64 (x.length : Int)] = some ([.by (b ++ sizeB x.length)], .own 0) := if_pos (by omega)
  have hl : (b ++ sizeB x.length).length ≤ 549755812000 := by simp; omega
  repeat refine St h ct84 ?_
  exact AWP.ret (Fin trivial [] [1])

theorem putbytes_c {b x : List UInt8} (h : b.length + x.length ≤ 549755800000) : F84 [.by b, .by x] = some ([.by (b ++ sizeB x.length ++ x)], .own 0) := if_pos h

def F99 : Fun
  | [.by b, .sq 1 xs] => match asBys xs with
    | some l => if b.length + (flat l).length ≤ 549755700000 then some ([.by (b ++ sizeB l.length ++ flat l)], .own 0) else none
    | none => none
  | _ => none

theorem ct99 : CT [(42, ⟨[false, false], treeG F42⟩), (84, ⟨[false, false], treeG F84⟩)] [0, 1, 4, 5, 7, 13, 14, 15, 16] [] := ⟨(.cons c42.g (.cons c84.g (.nil _)))⟩

theorem c99 : ACon Try.prog 99 F99 := by
  refine aconc E_ok (rs := [.tmp 4 22]) Try.func99 rfl Try.ntmps99 (by kernel_rfl) rfl (by decide) F99 (np := 2) ?_ ?_
  · intro ts h; unfold F99; split <;> first | rfl | (simp at h; done)
  intro ts H r hF hwf
  unfold F99 at hF
  split at hF <;> try (cases hF; done)
  rename_i b xs
  split at hF <;> try (cases hF; done)
  rename_i l hl
  split at hF
  case isFalse => cases hF
  rename_i hc
  have hb := hc
  cases hF
  obtain rfl := asBys_inv hl
  have hlen := len_le_flat l
  have hs := sizeB_len (l.length : Int)
  have h : F42 [.by b, .int .u64 (l.length : Int)] = some ([.by (b ++ sizeB l.length)], .own 0) := if_pos (by omega)
  repeat refine St h ct99 ?_
  refine AWP.loop (G := { k : Nat // k ≤ l.length }) (fun k => ⟨[(5, .own 0), (13, .t (.sq 1 (l.map .by))), (14, .t (.int .i64 l.length)), (15, .t (.int .i64 (k.1 : Int)))], [.by (b ++ sizeB l.length ++ flat (l.take k.1))]⟩)
    (fun k => l.length - k.1) ⟨0, by omega⟩ (Wt (And.intro @List.take_zero.{0} <| (And.intro @flat.eq_1 <| @flat.eq_2)) [5, 13, 14, 15] [0]) ?_
  intro ⟨k, hk⟩
  dsimp only
  by_cases hlt : (k : Int) < (l.length : Int)
  · have hlt' : k < l.length := by omega
    have hget := map_getD l k hlt'
    have hfl := flat_get_len l k hlt'
    have hft := flat_take l k hlt'
    have h2 : F84 [.by (b ++ sizeB l.length ++ flat (l.take k)), .by (l.getD k [])] = some ([.by (b ++ sizeB l.length ++ flat (l.take k) ++ sizeB (l.getD k []).length ++ l.getD k [])], .own 0) := if_pos (by simp only [List.length_append]; omega)
    repeat refine St (And.intro hlt' <| And.intro hget <| h2) ct99 ?_
    exact ⟨⟨k + 1, by omega⟩, (Wt (And.intro hft <| @List.append_assoc.{0}) [5, 13, 14, 15] [1]), by simp only; omega⟩
  · obtain rfl : k = l.length := by omega
    repeat refine St trivial ct99 ?_
    exact AWP.ret (Fin (@List.take_length.{0}) [] [0])

theorem putlist_c {b : List UInt8} {l : List (List UInt8)} (h : b.length + (flat l).length ≤ 549755700000) : F99 [.by b, .sq 1 (l.map .by)] = some ([.by (b ++ sizeB l.length ++ flat l)], .own 0) := by
  simp only [F99, asBys_map]; exact if_pos h

end Go.Fw

end

section
/- compact: bytes taken apart. -/
namespace Go.Fw
open Go Go.Proofs
set_option linter.unusedVariables false
set_option linter.unusedSimpArgs false

def F105 : Fun
  | [.by b, .int .i64 n] => some ([], .tup [.t (.by (spA b n)), .t (.by (spB b n)), .t (.int .i64 (spE b n))])
  | _ => none

theorem ct105 : CT [] [0, 1, 4, 5, 6, 7, 10] [(5, [⟨0, [0], [], []⟩, ⟨0, [1], [], []⟩, ⟨1, [15, 16], [], []⟩, ⟨0, [0], [], []⟩, ⟨0, [1], [], []⟩, ⟨1, [18, 19], [], []⟩, ⟨0, [17], [2], []⟩, ⟨0, [20], [2, 5], []⟩, ⟨0, [], [2, 5], []⟩])] := ⟨GClOk.nil _⟩

theorem c105 : ACon Try.prog 105 F105 := by
  refine aconc E_ok (rs := [.tmp 4 22, .tmp 5 22, .tmp 6 31]) Try.func105 rfl Try.ntmps105 (by kernel_rfl) rfl (by decide) F105 (np := 2) ?_ ?_
  · intro ts h; unfold F105; split <;> first | rfl | (simp at h; done)
  intro ts H r hF hwf
  unfold F105 at hF
  split at hF <;> try (cases hF; done)
  rename_i b n
  cases hF
  by_cases h1 : n < 0
  · repeat refine St trivial ct105 ?_
    exact AWP.ret (Fin (And.intro @spA.eq_def <| And.intro @spB.eq_def <| And.intro @spE.eq_def <| h1) [] [])
  by_cases h2 : (b.length : Int) < n
  · repeat refine St trivial ct105 ?_
    exact AWP.ret (Fin (And.intro @spA.eq_def <| And.intro @spB.eq_def <| And.intro @spE.eq_def <| And.intro h1 <| h2) [] [])
  repeat refine St trivial ct105 ?_
  exact AWP.ret (Fin (And.intro @spA.eq_def <| And.intro @spB.eq_def <| And.intro @spE.eq_def <| And.intro h1 <| h2) [] [])

def F117 : Fun
  | [.by b, .int .i64 n] => if b.length ≤ 549755813000 then some ([.by (spA b n)], .tup [.own 0, .t (.by (spB b n)), .t (.int .i64 (spE b n))]) else none
  | _ => none

theorem ct117 : CT [(57, ⟨[false], treeG F57⟩), (105, ⟨[false, false], treeG F105⟩)] [0, 1, 4, 5, 6, 7, 8, 9] [] := ⟨(.cons c57.g (.cons c105.g (.nil _)))⟩

theorem c117 : ACon Try.prog 117 F117 := by
  refine aconc E_ok (rs := [.tmp 4 22, .tmp 5 22, .tmp 6 31]) Try.func117 rfl Try.ntmps117 (by kernel_rfl) rfl (by decide) F117 (np := 2) ?_ ?_
  · intro ts h; unfold F117; split <;> first | rfl | (simp at h; done)
  intro ts H r hF hwf
  unfold F117 at hF
  split at hF <;> try (cases hF; done)
  rename_i b n
  split at hF
  case isFalse => cases hF
  rename_i hc
  have hb := hc
  cases hF
  have h1 := spA_len b n
  have h2 := spB_len b n
  have ha : F57 [.by (spA b n)] = some ([.by (spA b n)], .own 0) := if_pos (by omega)
  have hb : F57 [.by (spB b n)] = some ([.by (spB b n)], .own 0) := if_pos (by omega)
  repeat refine St (And.intro @F105.eq_def <| And.intro ha <| hb) ct117 ?_
  exact AWP.ret (Fin trivial [1] [0])

theorem take_c {b : List UInt8} (n : Int) (h : b.length ≤ 549755813000) : F117 [.by b, .int .i64 n] = some ([.by (spA b n)], .tup [.own 0, .t (.by (spB b n)), .t (.int .i64 (spE b n))]) := if_pos h

def F85 : Fun
  | [.by b, .int .i64 n] => if n ≤ 8 then some ([], .tup [.t (.int .u64 (num (spA b n))), .t (.by (spB b n)), .t (.int .i64 (spE b n))]) else none
  | _ => none

theorem ct85 : CT [(105, ⟨[false, false], treeG F105⟩)] [0, 1, 4, 5, 6, 7, 8, 9, 10, 11, 20, 21, 22] [] := ⟨(.cons c105.g (.nil _))⟩

theorem c85 : ACon Try.prog 85 F85 := by
  refine aconc E_ok (rs := [.tmp 4 57, .tmp 5 22, .tmp 6 31]) Try.func85 rfl Try.ntmps85 (by kernel_rfl) rfl (by decide) F85 (np := 2) ?_ ?_
  · intro ts h; unfold F85; split <;> first | rfl | (simp at h; done)
  intro ts H r hF hwf
  unfold F85 at hF
  split at hF <;> try (cases hF; done)
  rename_i b n
  split at hF
  case isFalse => cases hF
  rename_i hc
  have hn := hc
  cases hF
  have h8 := spA_le b n 8 hn
  generalize hx : spA b n = x at h8
  repeat refine St (And.intro @F105.eq_def <| hx) ct85 ?_
  have hz : num (x.take 0) = 0 := by simp [num]
  refine AWP.loop (G := { k : Nat // k ≤ x.length }) (fun k => ⟨[(7, .t (.by x)), (8, .t (.by (spB b n))), (9, .t (.int .i64 (spE b n))), (10, .t (.int .u64 (num (x.take k.1)))), (20, .t (.int .i64 (x.length : Int))), (21, .t (.int .i64 (k.1 : Int)))], []⟩)
    (fun k => x.length - k.1) ⟨0, by omega⟩ (Wt (And.intro hz <| (And.intro @num.eq_1 <| @num.eq_2)) [7, 8, 9, 10, 20, 21] []) ?_
  intro ⟨k, hk⟩
  dsimp only
  by_cases hlt : (k : Int) < (x.length : Int)
  · have hd := num_take x k (by omega)
    have h88 := num_lt8 (x.take (k + 1)) (by simp; omega)
    have hp := num_lt (x.take k)
    have htl : (x.take k).length = k := by simp; omega
    rw [htl] at hp
    have hc := (x.getD k 0).toNat_lt
    have e1 : IntKind.i64.wrap (8 * (k : Int)) = ((8 * k : Nat) : Int) := by rw [wrap_i64 (by omega) (by omega)]; omega
    have e2 : IntKind.u64.wrap (((x.getD k 0).toNat : Int) * 2 ^ min (8 * k) IntKind.u64.bits) = (((x.getD k 0).toNat * 256 ^ k : Nat) : Int) := by
      have := shl_step (x.getD k 0).toNat k (by omega) (by omega)
      simp only [arith, Int.toNat_natCast] at this
      rw [if_neg (by omega)] at this
      have h1 : min (8 * k) IntKind.u64.bits = min (8 * k) 64 := rfl
      simpa using this
    have e3 : abits .or .u64 (num (x.take k) : Int) (((x.getD k 0).toNat * 256 ^ k : Nat) : Int) = ((num (x.take (k + 1)) : Nat) : Int) := by
      have := or_step (num (x.take k)) (x.getD k 0).toNat k hp (by omega)
      rw [← hd] at this
      simpa only [arith, Option.some.injEq, T.int.injEq, true_and] using this
    have e0 : ¬ ((8 * k : Nat) : Int) < 0 := by omega
    have hkx : k < x.length := by omega
    have e4 : IntKind.u64.wrap ((x.getD k 0).toNat : Int) = ((x.getD k 0).toNat : Int) := wrap_u64 (by omega) (by omega)
    repeat refine St (And.intro hkx <| And.intro e0 <| And.intro e1 <| And.intro e2 <| And.intro e3 <| e4) ct85 ?_
    exact ⟨⟨k + 1, by omega⟩, (Wt trivial [7, 8, 9, 10, 20, 21] []), by simp only; omega⟩
  · obtain rfl : k = x.length := by omega
    repeat refine St trivial ct85 ?_
    exact AWP.ret (Fin (@List.take_length.{0}) [] [])

theorem read_c (l : List UInt8) (n : Int) (h : n ≤ 8) : F85 [.by l, .int .i64 n] = some ([], .tup [.t (.int .u64 (num (spA l n))), .t (.by (spB l n)), .t (.int .i64 (spE l n))]) := if_pos h

def F67 : Fun
  | [.by b] => if b.length ≤ 549755813000 then some ([], .tup [.t (.int .u32 (num (spA b 4))), .t (.by (spB b 4)), .t (.int .i64 (spE b 4))]) else none
  | _ => none

theorem ct67 : CT [(57, ⟨[false], treeG F57⟩), (85, ⟨[false, false], treeG F85⟩)] [0, 2, 3, 4, 5, 6, 7] [] := ⟨(.cons c57.g (.cons c85.g (.nil _)))⟩

theorem c67 : ACon Try.prog 67 F67 := by
  refine aconc E_ok (rs := [.tmp 2 24, .tmp 3 22, .tmp 4 31]) Try.func67 rfl Try.ntmps67 (by kernel_rfl) rfl (by decide) F67 (np := 1) ?_ ?_
  · intro ts h; unfold F67; split <;> first | rfl | (simp at h; done)
  intro ts H r hF hwf
  unfold F67 at hF
  split at hF <;> try (cases hF; done)
  rename_i b
  split at hF
  case isFalse => cases hF
  rename_i hc
  have hb := hc
  cases hF
  have hl := spB_len b 4
  have h4 := num_lt4 (spA b 4) (spA_le b 4 4 (by omega))
  have hw : IntKind.u32.wrap (num (spA b 4) : Int) = num (spA b 4) := wrap_u32 (by omega) (by omega)
  have h1 := read_c b 4 (by omega)
  have h2 : F57 [.by (spB b 4)] = some ([.by (spB b 4)], .own 0) := if_pos (by omega)
  repeat refine St (And.intro h1 <| And.intro h2 <| hw) ct67 ?_
  exact AWP.ret (Fin trivial [0] [])

def F118 : Fun
  | [.by b] => if b.length ≤ 549755813000 then some ([], .tup [.t (.int .u64 (num (spA b 8))), .t (.by (spB b 8)), .t (.int .i64 (spE b 8))]) else none
  | _ => none

theorem ct118 : CT [(57, ⟨[false], treeG F57⟩), (85, ⟨[false, false], treeG F85⟩)] [0, 2, 3, 4, 5, 6, 7] [] := ⟨(.cons c57.g (.cons c85.g (.nil _)))⟩

theorem c118 : ACon Try.prog 118 F118 := by
  refine aconc E_ok (rs := [.tmp 2 57, .tmp 3 22, .tmp 4 31]) Try.func118 rfl Try.ntmps118 (by kernel_rfl) rfl (by decide) F118 (np := 1) ?_ ?_
  · intro ts h; unfold F118; split <;> first | rfl | (simp at h; done)
  intro ts H r hF hwf
  unfold F118 at hF
  split at hF <;> try (cases hF; done)
  rename_i b
  split at hF
  case isFalse => cases hF
  rename_i hc
  have hb := hc
  cases hF
  have hl := spB_len b 8
  have h4 := num_lt8 (spA b 8) (spA_le b 8 8 (by omega))
  have hw : IntKind.u64.wrap (num (spA b 8) : Int) = num (spA b 8) := wrap_u64 (by omega) (by omega)
  have h1 := read_c b 8 (by omega)
  have h2 : F57 [.by (spB b 8)] = some ([.by (spB b 8)], .own 0) := if_pos (by omega)
  repeat refine St (And.intro h1 <| And.intro h2 <| hw) ct118 ?_
  exact AWP.ret (Fin trivial [0] [])

theorem take64_c {b : List UInt8} (h : b.length ≤ 549755813000) : F118 [.by b] = some ([], .tup [.t (.int .u64 (num (spA b 8))), .t (.by (spB b 8)), .t (.int .i64 (spE b 8))]) := if_pos h
theorem take32_c {b : List UInt8} (h : b.length ≤ 549755813000) : F67 [.by b] = some ([], .tup [.t (.int .u32 (num (spA b 4))), .t (.by (spB b 4)), .t (.int .i64 (spE b 4))]) := if_pos h
def F56 : Fun
  | [.by b] => some ([], .tup [.t (.int .u64 ((sz b).1 : Nat)), .t (.by (sz b).2.1), .t (.int .i64 (sz b).2.2)])
  | _ => none

theorem ct56 : CT [(85, ⟨[false, false], treeG F85⟩)] [0, 2, 3, 4, 5, 6, 7, 8, 9, 10, 18, 20, 23, 25, 27, 36, 40] [] := ⟨(.cons c85.g (.nil _))⟩

set_option maxHeartbeats 2000000 in
theorem c56 : ACon Try.prog 56 F56 := by
  refine aconc E_ok (rs := [.tmp 2 57, .tmp 3 22, .tmp 4 31]) Try.func56 rfl Try.ntmps56 (by kernel_rfl) rfl (by decide) F56 (np := 1) ?_ ?_
  · intro ts h; unfold F56; split <;> first | rfl | (simp at h; done)
  intro ts H r hF hwf
  unfold F56 at hF
  split at hF <;> try (cases hF; done)
  rename_i b
  cases hF
  have r1 := read_c b 1 (by omega)
  have r2 := read_c (spB b 1) 2 (by omega)
  have r4 := read_c (spB b 1) 4 (by omega)
  have r8 := read_c (spB b 1) 8 (by omega)
  have hsz := sz.eq_1 b
  generalize sz b = R at *
  generalize spB b 1 = y at *
  by_cases h1 : spE b 1 = 0
  case neg =>
    simp only [h1, ne_eq, not_false_eq_true, if_true] at hsz
    repeat refine St r1 ct56 ?_
    exact AWP.ret (Fin hsz [] [])
  simp only [h1, ne_eq, not_true_eq_false, if_false] at hsz
  rw [h1] at r1
  obtain ⟨x, hx⟩ : ∃ x : Nat, num (spA b 1) = x := ⟨_, rfl⟩
  rw [hx] at hsz r1
  by_cases h253 : x = 253
  case pos =>
    subst h253
    simp only [Nat.reduceEqDiff, if_true, if_false] at hsz
    unfold rdR at hsz
    by_cases k1 : spE y 2 = 0
    case neg =>
      simp only [k1, ne_eq, not_false_eq_true, if_true] at hsz
      repeat refine St (And.intro r1 <| r2) ct56 ?_
      exact AWP.ret (Fin hsz [] [])
    simp only [k1, ne_eq, not_true_eq_false, if_false] at hsz
    rw [k1] at r2
    split at hsz
    · repeat refine St (And.intro r1 <| r2) ct56 ?_
      exact AWP.ret (Fin hsz [] [])
    · repeat refine St (And.intro r1 <| r2) ct56 ?_
      exact AWP.ret (Fin hsz [] [])
  by_cases h254 : x = 254
  case pos =>
    subst h254
    simp only [Nat.reduceEqDiff, if_true, if_false] at hsz
    unfold rdR at hsz
    by_cases k1 : spE y 4 = 0
    case neg =>
      simp only [k1, ne_eq, not_false_eq_true, if_true] at hsz
      repeat refine St (And.intro r1 <| r4) ct56 ?_
      exact AWP.ret (Fin hsz [] [])
    simp only [k1, ne_eq, not_true_eq_false, if_false] at hsz
    rw [k1] at r4
    split at hsz
    · repeat refine St (And.intro r1 <| r4) ct56 ?_
      exact AWP.ret (Fin hsz [] [])
    · repeat refine St (And.intro r1 <| r4) ct56 ?_
      exact AWP.ret (Fin hsz [] [])
  by_cases h255 : x = 255
  case pos =>
    subst h255
    simp only [Nat.reduceEqDiff, if_true, if_false] at hsz
    unfold rdR at hsz
    by_cases k1 : spE y 8 = 0
    case neg =>
      simp only [k1, ne_eq, not_false_eq_true, if_true] at hsz
      repeat refine St (And.intro r1 <| r8) ct56 ?_
      exact AWP.ret (Fin hsz [] [])
    simp only [k1, ne_eq, not_true_eq_false, if_false] at hsz
    rw [k1] at r8
    split at hsz
    · repeat refine St (And.intro r1 <| r8) ct56 ?_
      exact AWP.ret (Fin hsz [] [])
    · repeat refine St (And.intro r1 <| r8) ct56 ?_
      exact AWP.ret (Fin hsz [] [])
  simp only [h253, h254, h255, if_false] at hsz
  repeat refine St r1 ct56 ?_
  exact AWP.ret (Fin hsz [] [])

def F30 : Fun
  | [.by b] => if b.length ≤ 549755813000 then some ([], .tup [.t (.int .u64 ((sz b).1 : Nat)), .t (.by (sz b).2.1), .t (.int .i64 (sz b).2.2)]) else none
  | _ => none

theorem ct30 : CT [(56, ⟨[false], treeG F56⟩), (57, ⟨[false], treeG F57⟩)] [0, 2, 3, 4, 5, 6, 7] [] := ⟨(.cons c56.g (.cons c57.g (.nil _)))⟩

theorem c30 : ACon Try.prog 30 F30 := by
  refine aconc E_ok (rs := [.tmp 2 57, .tmp 3 22, .tmp 4 31]) Try.func30 rfl Try.ntmps30 (by kernel_rfl) rfl (by decide) F30 (np := 1) ?_ ?_
  · intro ts h; unfold F30; split <;> first | rfl | (simp at h; done)
  intro ts H r hF hwf
  unfold F30 at hF
  split at hF <;> try (cases hF; done)
  rename_i b
  split at hF
  case isFalse => cases hF
  rename_i hc
  have hb := hc
  cases hF
  have hl := sz_len b
  have h2 : F57 [.by (sz b).2.1] = some ([.by (sz b).2.1], .own 0) := if_pos (by omega)
  repeat refine St (And.intro @F56.eq_def <| h2) ct30 ?_
  exact AWP.ret (Fin trivial [0] [])

theorem takesize_c {b : List UInt8} (h : b.length ≤ 549755813000) : F30 [.by b] = some ([], .tup [.t (.int .u64 ((sz b).1 : Nat)), .t (.by (sz b).2.1), .t (.int .i64 (sz b).2.2)]) := if_pos h

end Go.Fw

end

section
/- compact: bounded things, lists. -/
namespace Go.Fw
open Go Go.Proofs
set_option linter.unusedVariables false
set_option linter.unusedSimpArgs false

def F125 : Fun
  | [.by b, .int .i64 most] => some ([], .tup [.t (.int .i64 ((bnd b most).1 : Nat)), .t (.by (bnd b most).2.1), .t (.int .i64 (bnd b most).2.2)])
  | _ => none

theorem ct125 : CT [(56, ⟨[false], treeG F56⟩)] [0, 1, 4, 5, 6, 7, 8, 9, 16, 20] [] := ⟨(.cons c56.g (.nil _))⟩

theorem c125 : ACon Try.prog 125 F125 := by
  refine aconc E_ok (rs := [.tmp 4 3, .tmp 5 22, .tmp 6 31]) Try.func125 rfl Try.ntmps125 (by kernel_rfl) rfl (by decide) F125 (np := 2) ?_ ?_
  · intro ts h; unfold F125; split <;> first | rfl | (simp at h; done)
  intro ts H r hF hwf
  unfold F125 at hF
  split at hF <;> try (cases hF; done)
  rename_i b most
  cases hF
  have hm := inK_i64 (hwf (.int .i64 most) (by simp))
  have hs : F56 [.by b] = some ([], .tup [.t (.int .u64 ((sz b).1 : Nat)), .t (.by (sz b).2.1), .t (.int .i64 (sz b).2.2)]) := rfl
  have hb := bnd.eq_1 b most
  generalize bnd b most = R at *
  generalize sz b = Z at *
  by_cases h1 : Z.2.2 = 0
  case neg =>
    simp only [h1, ne_eq, not_false_eq_true, if_true] at hb
    repeat refine St hs ct125 ?_
    exact AWP.ret (Fin hb [] [])
  simp only [h1, ne_eq, not_true_eq_false, if_false] at hb
  rw [h1] at hs
  by_cases h2 : most < 0
  · simp only [h2, true_or, if_true] at hb
    repeat refine St (And.intro hs <| h2) ct125 ?_
    exact AWP.ret (Fin hb [] [])
  have hw : IntKind.u64.wrap most = most := wrap_u64 (by omega) (by omega)
  by_cases h3 : most < (Z.1 : Int)
  · simp only [h3, or_true, if_true] at hb
    repeat refine St (And.intro hs <| And.intro h2 <| And.intro h3 <| hw) ct125 ?_
    exact AWP.ret (Fin hb [] [])
  simp only [h2, h3, or_self, if_false] at hb
  repeat refine St (And.intro hs <| And.intro h2 <| And.intro h3 <| hw) ct125 ?_
  exact AWP.ret (Fin hb [] [])

def F124 : Fun
  | [.by b, .int .i64 most] => some ([], .tup [.t (.by (lim b most).1), .t (.by (lim b most).2.1), .t (.int .i64 (lim b most).2.2)])
  | _ => none

theorem ct124 : CT [(105, ⟨[false, false], treeG F105⟩), (125, ⟨[false, false], treeG F125⟩)] [0, 1, 4, 5, 6, 7, 8, 9, 18] [] := ⟨(.cons c105.g (.cons c125.g (.nil _)))⟩

theorem c124 : ACon Try.prog 124 F124 := by
  refine aconc E_ok (rs := [.tmp 4 22, .tmp 5 22, .tmp 6 31]) Try.func124 rfl Try.ntmps124 (by kernel_rfl) rfl (by decide) F124 (np := 2) ?_ ?_
  · intro ts h; unfold F124; split <;> first | rfl | (simp at h; done)
  intro ts H r hF hwf
  unfold F124 at hF
  split at hF <;> try (cases hF; done)
  rename_i b most
  cases hF
  by_cases h1 : (bnd b most).2.2 = 0
  · have hl : lim b most = (spA (bnd b most).2.1 (bnd b most).1, spB (bnd b most).2.1 (bnd b most).1, spE (bnd b most).2.1 (bnd b most).1) := by simp only [lim, h1, ne_eq, not_true_eq_false, if_false]
    repeat refine St (And.intro @F125.eq_def <| @F105.eq_def) ct124 ?_
    exact AWP.ret (Fin hl [] [])
  · have hl : lim b most = ([], [], (bnd b most).2.2) := by simp only [lim, h1, ne_eq, not_false_eq_true, if_true]
    repeat refine St @F125.eq_def ct124 ?_
    exact AWP.ret (Fin hl [] [])

def F119 : Fun
  | [.by b, .int .i64 most] => if b.length ≤ 549755813000 then some ([], .tup [.t (.by (lim b most).1), .t (.by (lim b most).2.1), .t (.int .i64 (lim b most).2.2)]) else none
  | _ => none

theorem ct119 : CT [(57, ⟨[false], treeG F57⟩), (124, ⟨[false, false], treeG F124⟩)] [0, 1, 4, 5, 6, 7, 8, 9] [] := ⟨(.cons c57.g (.cons c124.g (.nil _)))⟩

theorem c119 : ACon Try.prog 119 F119 := by
  refine aconc E_ok (rs := [.tmp 4 22, .tmp 5 22, .tmp 6 31]) Try.func119 rfl Try.ntmps119 (by kernel_rfl) rfl (by decide) F119 (np := 2) ?_ ?_
  · intro ts h; unfold F119; split <;> first | rfl | (simp at h; done)
  intro ts H r hF hwf
  unfold F119 at hF
  split at hF <;> try (cases hF; done)
  rename_i b most
  split at hF
  case isFalse => cases hF
  rename_i hc
  have hb := hc
  cases hF
  obtain ⟨hl1, hl2⟩ := lim_len b most
  have h1 : F57 [.by (lim b most).1] = some ([.by (lim b most).1], .own 0) := if_pos (by omega)
  have h2 : F57 [.by (lim b most).2.1] = some ([.by (lim b most).2.1], .own 0) := if_pos (by omega)
  repeat refine St (And.intro @F124.eq_def <| And.intro h1 <| h2) ct119 ?_
  exact AWP.ret (Fin trivial [0, 1] [])

theorem takebytes_c {b : List UInt8} (most : Int) (h : b.length ≤ 549755813000) : F119 [.by b, .int .i64 most] = some ([], .tup [.t (.by (lim b most).1), .t (.by (lim b most).2.1), .t (.int .i64 (lim b most).2.2)]) := if_pos h

def F120 : Fun
  | [.by b, .int .i64 many, .int .i64 most] => if b.length ≤ 549755812000 then some ([], .tup [.t (.sq 1 ((lst b many most).1.map .by)), .t (.by (lst b many most).2.1), .t (.int .i64 (lst b many most).2.2)]) else none
  | _ => none

theorem ct120 : CT [(57, ⟨[false], treeG F57⟩), (124, ⟨[false, false], treeG F124⟩), (125, ⟨[false, false], treeG F125⟩)] [0, 1, 2, 6, 7, 8, 9, 10, 11, 12, 13, 14, 15, 24, 26, 27, 28, 37] [] := ⟨(.cons c57.g (.cons c124.g (.cons c125.g (.nil _))))⟩

theorem c120 : ACon Try.prog 120 F120 := by
  refine aconc E_ok (rs := [.tmp 6 88, .tmp 7 22, .tmp 8 31]) Try.func120 rfl Try.ntmps120 (by kernel_rfl) rfl (by decide) F120 (np := 3) ?_ ?_
  · intro ts h; unfold F120; split <;> first | rfl | (simp at h; done)
  intro ts H r hF hwf
  unfold F120 at hF
  split at hF <;> try (cases hF; done)
  rename_i b many most
  split at hF
  case isFalse => cases hF
  rename_i hc
  have hb := hc
  cases hF
  have hmany := inK_i64 (hwf (.int .i64 many) (by simp))
  have hbl := bnd_len b many
  have hlt := bnd_lt b many hmany.2
  by_cases h1 : (bnd b many).2.2 = 0
  case neg =>
    have hl : lst b many most = ([], [], (bnd b many).2.2) := by simp only [lst, h1, ne_eq, not_false_eq_true, if_true]
    repeat refine St @F125.eq_def ct120 ?_
    exact AWP.ret (Fin (And.intro hl <| @List.map_nil.{0, 0}) [] [])
  have hl : lst b many most = tkF most (bnd b many).1 [] (bnd b many).2.1 := by simp only [lst, h1, ne_eq, not_true_eq_false, if_false]
  rw [hl]
  have hbd : F125 [.by b, .int .i64 many] = some ([], .tup [.t (.int .i64 ((bnd b many).1 : Nat)), .t (.by (bnd b many).2.1), .t (.int .i64 0)]) := by rw [← h1]; rfl
  generalize (bnd b many).2.1 = q at *
  generalize (bnd b many).1 = n at *
  repeat refine St hbd ct120 ?_
  refine AWP.weak (Wo 12 (.sq 1 [])) ?_
  refine AWP.loop (G := { p : Nat × List (List UInt8) × List UInt8 // p.1 ≤ n ∧ p.2.1.length = p.1 ∧ p.2.1.length + p.2.2.length ≤ q.length ∧ tkF most (n - p.1) p.2.1 p.2.2 = tkF most n [] q })
    (fun p => ⟨[(2, .t (.int .i64 most)), (10, .t (.by p.1.2.2)), (12, .own 0), (26, .t (.int .i64 n)), (27, .t (.int .i64 (p.1.1 : Int)))], [.sq 1 (p.1.2.1.map .by)]⟩)
    (fun p => n - p.1.1) ⟨(0, [], q), by simp⟩ (Wt trivial [2, 10, 12, 26, 27] [0]) ?_
  intro ⟨⟨k, acc, r⟩, hk, ha, hr, ht⟩
  dsimp only at hk ha hr ht ⊢
  by_cases hkn : (k : Int) < (n : Int)
  · have hs : n - k = (n - (k + 1)) + 1 := by omega
    rw [hs, tkF_succ] at ht
    obtain ⟨hlm1, hlm2⟩ := lim_len r most
    by_cases h3 : (lim r most).2.2 = 0
    · rw [if_neg (by simp [h3])] at ht
      have he := lim_eat h3
      have hcp : F57 [.by (lim r most).1] = some ([.by (lim r most).1], .own 0) := if_pos (by omega)
      have hal : (acc.map T.by).length ≤ 549755812000 := by simp; omega
      repeat refine St (And.intro @F124.eq_def <| And.intro hcp <| hal) ct120 ?_
      exact ⟨⟨(k + 1, acc ++ [(lim r most).1], (lim r most).2.1), by omega, by simp; omega, by simp; omega, ht⟩, (Wt @map_snoc [2, 10, 12, 26, 27] [3]), by simp only; omega⟩
    · rw [if_pos h3] at ht
      repeat refine St @F124.eq_def ct120 ?_
      exact AWP.ret (Fin (And.intro ht.symm <| @List.map_nil.{0, 0}) [] [])
  · obtain rfl : k = n := by omega
    rw [Nat.sub_self] at ht
    have hcp : F57 [.by r] = some ([.by r], .own 0) := if_pos (by omega)
    repeat refine St hcp ct120 ?_
    exact AWP.ret (Fin (And.intro ht.symm <| (And.intro @tkF.eq_1 <| @tkF.eq_2)) [0, 1] [])

theorem takelist_c {b : List UInt8} (many most : Int) (h : b.length ≤ 549755812000) : F120 [.by b, .int .i64 many, .int .i64 most] = some ([], .tup [.t (.sq 1 ((lst b many most).1.map .by)), .t (.by (lst b many most).2.1), .t (.int .i64 (lst b many most).2.2)]) := if_pos h

end Go.Fw

end

section
/- Chapter 7: turning, the numbers of the steps. -/
namespace Go.Fw
open Go Go.Proofs
set_option linter.unusedVariables false
set_option linter.unusedSimpArgs false

theorem u32_of {n : Int} (h : inK .u32 n) : n = ((UInt32.ofNat n.toNat).toNat : Int) := by
  obtain ⟨h1, h2⟩ := h
  have h2' : n ≤ 4294967295 := h2
  have h1' : 0 ≤ n := h1
  rw [UInt32.toNat_ofNat', Nat.mod_eq_of_lt (by omega)]; omega

theorem rot_s : ∀ r : Nat, r < 32 → 1 ≤ r → abits .and .u64 (IntKind.u64.wrap (-(r : Int))) 31 = ((32 - r : Nat) : Int) ∧ IntKind.u64.wrap (32 - ((32 - r : Nat) : Int)) = (r : Int) := by decide +kernel

def F123 : Fun
  | [.int .u32 n, .int .i64 k] => if -31 ≤ k ∧ k ≤ -1 then some ([], .t (u32T (tr (UInt32.ofNat n.toNat) (-k).toNat))) else none
  | _ => none

theorem ct123 : CT [] [0, 1, 4, 5] [] := ⟨GClOk.nil _⟩

theorem c123 : ACon Try.prog 123 F123 := by
  refine aconc E_ok (rs := [.tmp 4 24]) Try.func123 rfl Try.ntmps123 (by kernel_rfl) rfl (by decide) F123 (np := 2) ?_ ?_
  · intro ts h; unfold F123; split <;> first | rfl | (simp at h; done)
  intro ts H r hF hwf
  unfold F123 at hF
  split at hF <;> try (cases hF; done)
  rename_i n k
  split at hF
  case isFalse => cases hF
  rename_i hk
  have hn : inK .u32 n := by have := hwf _ (List.mem_cons_self); simpa only [T.wf] using this
  have hn' := u32_of hn
  generalize UInt32.ofNat n.toNat = x at *
  subst hn'
  obtain ⟨r, hr, hr1⟩ : ∃ r : Nat, k = -(r : Int) ∧ (-k).toNat = r := ⟨(-k).toNat, by omega, rfl⟩
  rw [hr1] at hF
  cases hF
  subst hr
  obtain ⟨h1, h2⟩ := rot_s r (by omega) (by omega)
  have h0 : ¬ ((32 - r : Nat) : Int) < 0 := by omega
  have h3 : ¬ (r : Int) < 0 := by omega
  have h4 := u32_shl x (32 - r) (by omega)
  have h5 := u32_shr x r (by omega)
  repeat refine St (And.intro h1 <| And.intro h2 <| And.intro h0 <| And.intro h3 <| And.intro h4 <| And.intro h5 <| @u32_or) ct123 ?_
  have e : tr x r = x <<< UInt32.ofNat (32 - r) ||| x >>> UInt32.ofNat r := UInt32.or_comm _ _
  exact AWP.ret (Fin (And.intro e <| @u32T.eq_def) [] [])

theorem u32_ofNat (x : UInt32) : UInt32.ofNat x.toNat = x := by simp
theorem rot_c (x : UInt32) (r : Nat) (h : r ≤ 31) (h1 : 1 ≤ r) : F123 [.int .u32 (x.toNat : Int), .int .i64 (-(r : Int))] = some ([], .t (.int .u32 ((tr x r).toNat : Int))) := by
  simp only [F123]
  rw [if_pos ⟨by omega, by omega⟩]
  simp [u32T]
theorem rotc2 (x : UInt32) : F123 [.int .u32 (x.toNat : Int), .int .i64 (-2)] = some ([], .t (.int .u32 ((tr x 2).toNat : Int))) := rot_c x 2 (by omega) (by omega)
theorem rotc6 (x : UInt32) : F123 [.int .u32 (x.toNat : Int), .int .i64 (-6)] = some ([], .t (.int .u32 ((tr x 6).toNat : Int))) := rot_c x 6 (by omega) (by omega)
theorem rotc7 (x : UInt32) : F123 [.int .u32 (x.toNat : Int), .int .i64 (-7)] = some ([], .t (.int .u32 ((tr x 7).toNat : Int))) := rot_c x 7 (by omega) (by omega)
theorem rotc11 (x : UInt32) : F123 [.int .u32 (x.toNat : Int), .int .i64 (-11)] = some ([], .t (.int .u32 ((tr x 11).toNat : Int))) := rot_c x 11 (by omega) (by omega)
theorem rotc13 (x : UInt32) : F123 [.int .u32 (x.toNat : Int), .int .i64 (-13)] = some ([], .t (.int .u32 ((tr x 13).toNat : Int))) := rot_c x 13 (by omega) (by omega)
theorem rotc17 (x : UInt32) : F123 [.int .u32 (x.toNat : Int), .int .i64 (-17)] = some ([], .t (.int .u32 ((tr x 17).toNat : Int))) := rot_c x 17 (by omega) (by omega)
theorem rotc18 (x : UInt32) : F123 [.int .u32 (x.toNat : Int), .int .i64 (-18)] = some ([], .t (.int .u32 ((tr x 18).toNat : Int))) := rot_c x 18 (by omega) (by omega)
theorem rotc19 (x : UInt32) : F123 [.int .u32 (x.toNat : Int), .int .i64 (-19)] = some ([], .t (.int .u32 ((tr x 19).toNat : Int))) := rot_c x 19 (by omega) (by omega)
theorem rotc22 (x : UInt32) : F123 [.int .u32 (x.toNat : Int), .int .i64 (-22)] = some ([], .t (.int .u32 ((tr x 22).toNat : Int))) := rot_c x 22 (by omega) (by omega)
theorem rotc25 (x : UInt32) : F123 [.int .u32 (x.toNat : Int), .int .i64 (-25)] = some ([], .t (.int .u32 ((tr x 25).toNat : Int))) := rot_c x 25 (by omega) (by omega)

theorem kT_eq : List.map u32T kS = [T.int .u32 1116352408, T.int .u32 1899447441, T.int .u32 3049323471, T.int .u32 3921009573, T.int .u32 961987163, T.int .u32 1508970993, T.int .u32 2453635748, T.int .u32 2870763221, T.int .u32 3624381080, T.int .u32 310598401, T.int .u32 607225278, T.int .u32 1426881987, T.int .u32 1925078388, T.int .u32 2162078206, T.int .u32 2614888103, T.int .u32 3248222580, T.int .u32 3835390401, T.int .u32 4022224774, T.int .u32 264347078, T.int .u32 604807628, T.int .u32 770255983, T.int .u32 1249150122, T.int .u32 1555081692, T.int .u32 1996064986, T.int .u32 2554220882, T.int .u32 2821834349, T.int .u32 2952996808, T.int .u32 3210313671, T.int .u32 3336571891, T.int .u32 3584528711, T.int .u32 113926993, T.int .u32 338241895, T.int .u32 666307205, T.int .u32 773529912, T.int .u32 1294757372, T.int .u32 1396182291, T.int .u32 1695183700, T.int .u32 1986661051, T.int .u32 2177026350, T.int .u32 2456956037, T.int .u32 2730485921, T.int .u32 2820302411, T.int .u32 3259730800, T.int .u32 3345764771, T.int .u32 3516065817, T.int .u32 3600352804, T.int .u32 4094571909, T.int .u32 275423344, T.int .u32 430227734, T.int .u32 506948616, T.int .u32 659060556, T.int .u32 883997877, T.int .u32 958139571, T.int .u32 1322822218, T.int .u32 1537002063, T.int .u32 1747873779, T.int .u32 1955562222, T.int .u32 2024104815, T.int .u32 2227730452, T.int .u32 2361852424, T.int .u32 2428436474, T.int .u32 2756734187, T.int .u32 3204031479, T.int .u32 3329325298] := rfl
theorem hT_eq : List.map u32T hS = [T.int .u32 1779033703, T.int .u32 3144134277, T.int .u32 1013904242, T.int .u32 2773480762, T.int .u32 1359893119, T.int .u32 2600822924, T.int .u32 528734635, T.int .u32 1541459225] := rfl

def F122 : Fun
  | [] => some ([], .t (.ar 64 1 (kS.map u32T)))
  | _ => none

theorem ct122 : CT [] [0] [] := ⟨GClOk.nil _⟩

theorem c122 : ACon Try.prog 122 F122 := by
  refine aconc E_ok (rs := [.cell 0 142]) Try.func122 rfl Try.ntmps122 (by kernel_rfl) rfl (by decide) F122 (np := 0) ?_ ?_
  · intro ts h; unfold F122; split <;> first | rfl | (simp at h; done)
  intro ts H r hF hwf
  unfold F122 at hF
  split at hF <;> try (cases hF; done)
  cases hF
  repeat refine St @zar_len ct122 ?_
  exact AWP.ret (Fin @kT_eq [] [])

def F113 : Fun
  | [] => some ([], .t (.ar 8 1 (hS.map u32T)))
  | _ => none

theorem ct113 : CT [] [0] [] := ⟨GClOk.nil _⟩

theorem c113 : ACon Try.prog 113 F113 := by
  refine aconc E_ok (rs := [.cell 0 134]) Try.func113 rfl Try.ntmps113 (by kernel_rfl) rfl (by decide) F113 (np := 0) ?_ ?_
  · intro ts h; unfold F113; split <;> first | rfl | (simp at h; done)
  intro ts H r hF hwf
  unfold F113 at hF
  split at hF <;> try (cases hF; done)
  cases hF
  repeat refine St trivial ct113 ?_
  exact AWP.ret (Fin @hT_eq [] [])

end Go.Fw

end

section
/- Chapter 7: a block's numbers. -/
namespace Go.Fw
open Go Go.Proofs
set_option linter.unusedVariables false
set_option linter.unusedSimpArgs false

def F121 : Fun
  | [.by b] => if b.length = 64 then some ([], .t (.ar 64 1 ((sch b 64).map u32T))) else none
  | _ => none

theorem ct121 : CT [(123, ⟨[false, false], treeG F123⟩)] [0, 2, 3, 4, 6, 7, 8, 9, 10, 11, 12, 13, 21, 22, 23, 24, 39] [(14, [⟨0, [7], [], []⟩, ⟨0, [42], [], []⟩, ⟨1, [3, 43], [], []⟩, ⟨1, [44], [2], []⟩, ⟨0, [7], [], []⟩, ⟨0, [46], [], []⟩, ⟨1, [3, 47], [], []⟩, ⟨1, [48], [6], []⟩, ⟨0, [45], [2, 3], []⟩, ⟨0, [49], [2, 3, 6, 7], []⟩]), (17, [⟨0, [7], [], []⟩, ⟨0, [7], [], []⟩, ⟨0, [67], [], []⟩, ⟨1, [3, 68], [], []⟩, ⟨1, [69], [3], []⟩, ⟨0, [10], [], []⟩, ⟨0, [70, 71], [3, 4], []⟩, ⟨0, [7], [], []⟩, ⟨0, [73], [], []⟩, ⟨1, [3, 74], [], []⟩, ⟨1, [75], [9], []⟩, ⟨0, [72, 76], [3, 4, 9, 10], []⟩, ⟨0, [11], [], []⟩, ⟨0, [77, 78], [3, 4, 9, 10], []⟩, ⟨1, [3, 66], [3, 4, 9, 10], []⟩, ⟨2, [79, 80], [3, 4, 9, 10, 14], []⟩])] := ⟨(.cons c123.g (.nil _))⟩

/-- The array so far: so many numbers, then noughts. -/
def arS (l : List UInt32) (n : Nat) : List T := (l ++ List.replicate (n - l.length) 0).map u32T
theorem arS_len {l : List UInt32} {n : Nat} (h : l.length ≤ n) : (arS l n).length = n := by simp [arS]; omega
theorem arS_get {l : List UInt32} {n i : Nat} (h : i < l.length) : (arS l n).getD i default = .int .u32 ((l.getD i 0).toNat : Int) := by
  simp [arS, List.getD_eq_getElem?_getD, List.getElem?_append_left, h, u32T]
theorem rep_pad {l : List UInt32} {n : Nat} (h : l.length < n) : l ++ List.replicate (n - l.length) 0 = l ++ 0 :: List.replicate (n - (l.length + 1)) 0 := by
  have e : n - l.length = (n - (l.length + 1)) + 1 := by omega
  rw [e, List.replicate_succ]
theorem arS_set {l : List UInt32} {n : Nat} {x y : UInt32} (h : l.length < n) : (arS (l ++ [y]) n).set l.length (.int .u32 (x.toNat : Int)) = arS (l ++ [x]) n := by
  have e : T.int .u32 (x.toNat : Int) = u32T x := rfl
  rw [e]
  simp only [arS, ← List.map_set]
  simp
theorem arS_zero {l : List UInt32} {n : Nat} (h : l.length < n) : arS l n = arS (l ++ [0]) n := by
  unfold arS
  rw [rep_pad h]
  simp
theorem arS_nil (n : Nat) : arS [] n = zar n (.int .u32 0) := by simp [arS, zar, u32T]
theorem arS_full {l : List UInt32} {n : Nat} (h : l.length = n) : arS l n = l.map u32T := by simp [arS, h]

theorem arS_size (l : List UInt32) (n i : Nat) (h : i < (arS l n).length) : ((arS l n).getD i default).size = 1 := by
  unfold arS at *
  rw [List.length_map] at h
  rw [u32T_getD h]; rfl

theorem sl8 (x : UInt32) : IntKind.u32.wrap ((x.toNat : Int) * 2 ^ (min 8 IntKind.u32.bits)) = ((x <<< 8).toNat : Int) := u32_shl x 8 (by omega)
theorem sr3 (x : UInt32) : Int.fdiv (x.toNat : Int) (2 ^ (min 3 IntKind.u32.bits)) = ((x >>> 3).toNat : Int) := u32_shr x 3 (by omega)
theorem sr10 (x : UInt32) : Int.fdiv (x.toNat : Int) (2 ^ (min 10 IntKind.u32.bits)) = ((x >>> 10).toNat : Int) := u32_shr x 10 (by omega)

def wacc (b : List UInt8) (t : Nat) : Nat → UInt32
  | 0 => 0
  | j + 1 => wacc b t j <<< 8 ||| (b.getD (4 * t + j) 0).toUInt32
theorem wacc4 (b : List UInt8) (t : Nat) : wacc b t 4 = word b t := by
  simp only [wacc, word, Nat.add_zero]
  congr 6
  simp

theorem fsg0 (x : UInt32) : tr x 7 ^^^ tr x 18 ^^^ x >>> 3 = sg0 x := rfl
theorem fsg1 (x : UInt32) : tr x 17 ^^^ tr x 19 ^^^ x >>> 10 = sg1 x := rfl

set_option maxHeartbeats 1000000 in
theorem c121 : ACon Try.prog 121 F121 := by
  refine aconc E_ok (rs := [.cell 2 142]) Try.func121 rfl Try.ntmps121 (by kernel_rfl) rfl (by decide) F121 (np := 1) ?_ ?_
  · intro ts h; unfold F121; split <;> first | rfl | (simp at h; done)
  intro ts H r hF hwf
  unfold F121 at hF
  split at hF <;> try (cases hF; done)
  rename_i b
  split at hF
  case isFalse => cases hF
  rename_i hb
  cases hF
  repeat refine St trivial ct121 ?_
  refine AWP.loop (G := { t : Nat // t ≤ 16 }) (fun t => ⟨[(0, .t (.by b)), (2, .ptr 0 0 []), (3, .ptr 1 0 []), (12, .t (.int .i64 (t.1 : Int)))], [.bx (.t (.ar 64 1 (zar 64 (.int .u32 0)))), .bx (.t (.ar 64 1 (arS (sch b t.1) 64)))]⟩) (fun t => 16 - t.1) ⟨0, by omega⟩ ((Wt (And.intro (And.intro @sch.eq_1 <| @sch.eq_2) <| @arS_nil) [0, 2, 3, 12] [0, 1])) ?_
  · intro ⟨t, ht⟩
    dsimp only
    have hsl := sch_len b t
    by_cases hlt : (t : Int) < 16
    case neg =>
      obtain rfl : t = 16 := by omega
      repeat refine St hlt ct121 ?_
      refine AWP.loop (G := { t : Nat // 16 ≤ t ∧ t ≤ 64 }) (fun t => ⟨[(0, .t (.by b)), (2, .ptr 0 0 []), (3, .ptr 1 0 []), (7, .t (.int .i64 (t.1 : Int)))], [.bx (.t (.ar 64 1 (zar 64 (.int .u32 0)))), .bx (.t (.ar 64 1 (arS (sch b t.1) 64)))]⟩) (fun t => 64 - t.1) ⟨16, by omega⟩ ((Wt trivial [0, 2, 3, 7] [0, 1])) ?_
      intro ⟨t, ht1, ht2⟩
      dsimp only
      have hsl := sch_len b t
      by_cases hlt2 : (t : Int) < 64
      case neg =>
        obtain rfl : t = 64 := by omega
        have hf := arS_full hsl
        have harl : (List.map u32T (sch b 64)).length = 64 := by simp [hsl]
        repeat refine St (And.intro hlt2 <| And.intro hf <| And.intro harl <| And.intro @T.size.eq_def <| @zar_len) ct121 ?_
        exact AWP.ret (Fin trivial [] [])
      have ht64 : t < 64 := by omega
      have hm15 : IntKind.i64.wrap ((t : Int) - 15) = ((t - 15 : Nat) : Int) := by rw [wrap_i64 (by omega) (by omega)]; omega
      have hm2 : IntKind.i64.wrap ((t : Int) - 2) = ((t - 2 : Nat) : Int) := by rw [wrap_i64 (by omega) (by omega)]; omega
      have hm16 : IntKind.i64.wrap ((t : Int) - 16) = ((t - 16 : Nat) : Int) := by rw [wrap_i64 (by omega) (by omega)]; omega
      have hm7 : IntKind.i64.wrap ((t : Int) - 7) = ((t - 7 : Nat) : Int) := by rw [wrap_i64 (by omega) (by omega)]; omega
      have hk1 : IntKind.i64.wrap ((t : Int) + 1) = ((t + 1 : Nat) : Int) := by rw [wrap_i64 (by omega) (by omega)]; omega
      have harl : (arS (sch b t) 64).length = 64 := arS_len (by omega)
      have g15 := arS_get (n := 64) (l := sch b t) (i := t - 15) (by omega)
      have g2 := arS_get (n := 64) (l := sch b t) (i := t - 2) (by omega)
      have g16 := arS_get (n := 64) (l := sch b t) (i := t - 16) (by omega)
      have g7 := arS_get (n := 64) (l := sch b t) (i := t - 7) (by omega)
      have l15 : t - 15 < 64 := by omega
      have l2 : t - 2 < 64 := by omega
      have l16 : t - 16 < 64 := by omega
      have l7 : t - 7 < 64 := by omega
      have i15 : ((t - 15 : Nat) : Int) < 64 := by omega
      have i2 : ((t - 2 : Nat) : Int) < 64 := by omega
      have i16 : ((t - 16 : Nat) : Int) < 64 := by omega
      have i7 : ((t - 7 : Nat) : Int) < 64 := by omega
      have hars : ∀ y : UInt32, (arS (sch b t) 64).set t (.int .u32 (y.toNat : Int)) = arS (sch b t ++ [y]) 64 := fun y => by
        have := arS_set (l := sch b t) (n := 64) (x := y) (y := 0) (by omega)
        rw [← arS_zero (by omega), hsl] at this
        exact this
      have gsz := arS_size (sch b t) 64 t (by omega)
      have hnx : sch b t ++ [(sch b t).getD (t - 16) 0 + sg0 ((sch b t).getD (t - 15) 0) + (sch b t).getD (t - 7) 0 + sg1 ((sch b t).getD (t - 2) 0)] = sch b (t + 1) := by simp only [sch, next]; rw [if_neg (by omega)]
      repeat refine St (And.intro hlt2 <| And.intro hm15 <| And.intro hm2 <| And.intro hm16 <| And.intro hm7 <| And.intro harl <| And.intro g15 <| And.intro g2 <| And.intro g16 <| And.intro g7 <| And.intro l15 <| And.intro l2 <| And.intro l16 <| And.intro l7 <| And.intro i15 <| And.intro i2 <| And.intro i16 <| And.intro i7 <| And.intro ht64 <| And.intro @rotc7 <| And.intro @rotc18 <| And.intro @rotc17 <| And.intro @rotc19 <| And.intro @u32_xor <| And.intro @u32_add <| And.intro @sr3 <| And.intro @sr10 <| And.intro @fsg0 <| And.intro @fsg1 <| And.intro hars <| And.intro hk1 <| gsz) ct121 ?_
      exact ⟨⟨t + 1, by omega, by omega⟩, (Wt hnx [0, 2, 3, 7] [0, 1]), by simp only; omega⟩
    have hm1 : IntKind.i64.wrap (4 * (t : Int)) = ((4 * t : Nat) : Int) := by rw [wrap_i64 (by omega) (by omega)]; omega
    have hm2 : IntKind.i64.wrap (((4 * t : Nat) : Int) + 4) = ((4 * t + 4 : Nat) : Int) := by rw [wrap_i64 (by omega) (by omega)]; omega
    repeat refine St (And.intro hlt <| And.intro hm1 <| And.intro hm2 <| hb) ct121 ?_
    have hdl : (List.drop (4 * t) (List.take (4 * t + 4) b)).length = 4 := by simp; omega
    generalize hR : List.drop (4 * t) (List.take (4 * t + 4) b) = R at hdl
    have ht64 : t < 64 := by omega
    have harl : ∀ z, (arS (sch b t ++ [z]) 64).length = 64 := fun z => arS_len (by simp [hsl]; omega)
    have harg : ∀ z, (arS (sch b t ++ [z]) 64).getD t default = .int .u32 (z.toNat : Int) := fun z => by
      rw [arS_get (by simp [hsl])]
      simp [List.getD_eq_getElem?_getD, hsl]
    have hars : ∀ z y : UInt32, (arS (sch b t ++ [z]) 64).set t (.int .u32 (y.toNat : Int)) = arS (sch b t ++ [y]) 64 := fun z y => by
      have := arS_set (l := sch b t) (n := 64) (x := y) (y := z) (by omega)
      rwa [hsl] at this
    have hsn : sch b t ++ [word b t] = sch b (t + 1) := by simp only [sch, next]; rw [if_pos (by omega)]
    have hk2 : IntKind.i64.wrap ((t : Int) + 1) = ((t + 1 : Nat) : Int) := by rw [wrap_i64 (by omega) (by omega)]; omega
    refine AWP.loop (G := { j : Nat // j ≤ 4 }) (fun j => ⟨[(0, .t (.by b)), (2, .ptr 0 0 []), (3, .ptr 1 0 []), (4, .t (.int .i64 (t : Int))), (12, .t (.int .i64 (t : Int))), (21, .t (.by R)), (22, .t (.int .i64 4)), (23, .t (.int .i64 (j.1 : Int)))], [.bx (.t (.ar 64 1 (zar 64 (.int .u32 0)))), .bx (.t (.ar 64 1 (arS (sch b t ++ [wacc b t j.1]) 64)))]⟩) (fun j => 4 - j.1) ⟨0, by omega⟩ (Wt (And.intro (arS_zero (show (sch b t).length < 64 by omega)) <| And.intro (And.intro @wacc.eq_1 <| @wacc.eq_2) <| hdl) [0, 2, 3, 4, 12, 21, 22, 23] [0, 1]) ?_
    intro ⟨j, hj⟩
    dsimp only
    by_cases hlt4 : (j : Int) < 4
    · have hRg : R.getD j 0 = b.getD (4 * t + j) 0 := by
        rw [← hR]; simp only [List.getD_eq_getElem?_getD, List.getElem?_drop, List.getElem?_take]
        rw [if_pos (by omega)]
      have hj4 : j < 4 := by omega
      have hk1 : IntKind.i64.wrap ((j : Int) + 1) = ((j + 1 : Nat) : Int) := by rw [wrap_i64 (by omega) (by omega)]; omega
      repeat refine St (And.intro hlt4 <| And.intro hRg <| And.intro hj4 <| And.intro hdl <| And.intro harl <| And.intro harg <| And.intro hars <| And.intro ht64 <| And.intro @sl8 <| And.intro @u32_of_u8 <| And.intro @u32_or <| And.intro hk1 <| @u8.eq_def) ct121 ?_
      exact ⟨⟨j + 1, by omega⟩, (Wt (And.intro @wacc.eq_1 <| @wacc.eq_2) [0, 2, 3, 4, 12, 21, 22, 23] [0, 1]), by simp only; omega⟩
    · obtain rfl : j = 4 := by omega
      repeat refine St (And.intro hlt4 <| hk2) ct121 ?_
      exact ⟨⟨t + 1, by omega⟩, (Wt (And.intro @wacc4 <| hsn) [0, 2, 3, 12] [0, 1]), by simp only; omega⟩

end Go.Fw

end

section
/- Chapter 7: a block taken. -/
namespace Go.Fw
open Go Go.Proofs
set_option linter.unusedVariables false
set_option linter.unusedSimpArgs false

theorem u32T_inj {a b : UInt32} (h : u32T a = u32T b) : a = b := by
  simp only [u32T, T.int.injEq, true_and] at h
  exact UInt32.toNat_inj.1 (by omega)
noncomputable def asS8 (xs : List T) : Option S8 := inv (fun s : S8 => s.l.map u32T) xs
theorem asS8_map (s : S8) : asS8 (s.l.map u32T) = some s := inv_of (f := fun s : S8 => s.l.map u32T) (fun a b h => by
  simp only [S8.l, List.map_cons, List.map_nil, List.cons.injEq, and_true] at h
  obtain ⟨h1, h2, h3, h4, h5, h6, h7, h8⟩ := h
  cases a; cases b
  simp only [S8.mk.injEq]
  exact ⟨u32T_inj h1, u32T_inj h2, u32T_inj h3, u32T_inj h4, u32T_inj h5, u32T_inj h6, u32T_inj h7, u32T_inj h8⟩) s
theorem asS8_inv {xs : List T} {s : S8} (h : asS8 xs = some s) : xs = s.l.map u32T := inv_inv (f := fun s : S8 => s.l.map u32T) h

/-- A variable of eight numbers, or a hash that begins with them. -/
noncomputable def G114 : GFun
  | [.bx (.t (.ar 8 1 xs))], [.ptr 0 0 [], .t (.by b)] => match asS8 xs with
    | some s => if b.length = 64 then some ([.bx (.t (.ar 8 1 ((blkS s b).l.map u32T)))], .tup []) else none
    | none => none
  | [.bx (.t (.st [.ar 8 1 xs, .by r, .int .u64 n]))], [.ptr 0 0 [0], .t (.by b)] => match asS8 xs with
    | some s => if b.length = 64 then some ([.bx (.t (.st [.ar 8 1 ((blkS s b).l.map u32T), .by r, .int .u64 n]))], .tup []) else none
    | none => none
  | _, _ => none

theorem ct114 : CT [(121, ⟨[false], treeG F121⟩), (122, ⟨[], treeG F122⟩), (123, ⟨[false, false], treeG F123⟩)] [0, 1, 4, 5, 6, 7, 8, 9, 10, 11, 12, 19, 20, 101, 102] [(6, (List.cons (⟨1, [6], [], []⟩ : Info) <| List.cons (⟨1, [24], [0], []⟩ : Info) <| List.cons (⟨0, [8], [], []⟩ : Info) <| List.cons (⟨1, [26], [], []⟩ : Info) <| List.cons (⟨0, [8], [], []⟩ : Info) <| List.cons (⟨1, [28], [3], []⟩ : Info) <| List.cons (⟨0, [27, 29], [3, 5], []⟩ : Info) <| List.cons (⟨0, [8], [], []⟩ : Info) <| List.cons (⟨1, [31], [3, 5], []⟩ : Info) <| List.cons (⟨0, [30, 32], [3, 5, 8], []⟩ : Info) <| List.cons (⟨0, [25, 33], [0, 1, 3, 5, 8], []⟩ : Info) <| List.cons (⟨0, [8], [], []⟩ : Info) <| List.cons (⟨1, [6], [], []⟩ : Info) <| List.cons (⟨1, [36], [12], []⟩ : Info) <| List.cons (⟨0, [35, 37], [12, 13], []⟩ : Info) <| List.cons (⟨0, [8], [], []⟩ : Info) <| List.cons (⟨0, [39], [], []⟩ : Info) <| List.cons (⟨1, [6], [], []⟩ : Info) <| List.cons (⟨1, [41], [17], []⟩ : Info) <| List.cons (⟨0, [40, 42], [17, 18], []⟩ : Info) <| List.cons (⟨0, [38, 43], [12, 13, 17, 18], []⟩ : Info) <| List.cons (⟨0, [34, 44], [0, 1, 3, 5, 8, 12, 13, 17, 18], []⟩ : Info) <| List.cons (⟨0, [7], [], []⟩ : Info) <| List.cons (⟨1, [5, 46], [], []⟩ : Info) <| List.cons (⟨1, [47], [23], []⟩ : Info) <| List.cons (⟨0, [45, 48], [0, 1, 3, 5, 8, 12, 13, 17, 18, 23, 24], []⟩ : Info) <| List.cons (⟨0, [7], [], []⟩ : Info) <| List.cons (⟨1, [4, 50], [], []⟩ : Info) <| List.cons (⟨1, [51], [27], []⟩ : Info) <| List.cons (⟨0, [49, 52], [0, 1, 3, 5, 8, 12, 13, 17, 18, 23, 24, 27, 28], []⟩ : Info) <| List.cons (⟨0, [53], [0, 1, 3, 5, 8, 12, 13, 17, 18, 23, 24, 27, 28], []⟩ : Info) <| [])), (8, [⟨0, [10], [], []⟩, ⟨1, [56], [], []⟩, ⟨0, [10], [], []⟩, ⟨1, [58], [1], []⟩, ⟨0, [57, 59], [1, 3], []⟩, ⟨0, [10], [], []⟩, ⟨1, [61], [1, 3], []⟩, ⟨0, [60, 62], [1, 3, 6], []⟩, ⟨0, [10], [], []⟩, ⟨1, [6], [], []⟩, ⟨1, [65], [9], []⟩, ⟨0, [64, 66], [9, 10], []⟩, ⟨0, [10], [], []⟩, ⟨1, [6], [], []⟩, ⟨1, [69], [13], []⟩, ⟨0, [68, 70], [13, 14], []⟩, ⟨0, [67, 71], [9, 10, 13, 14], []⟩, ⟨1, [6], [], []⟩, ⟨1, [73], [17], []⟩, ⟨1, [6], [], []⟩, ⟨1, [75], [19], []⟩, ⟨0, [74, 76], [17, 18, 19, 20], []⟩, ⟨0, [72, 77], [9, 10, 13, 14, 17, 18, 19, 20], []⟩, ⟨0, [63, 78], [1, 3, 6, 9, 10, 13, 14, 17, 18, 19, 20], []⟩, ⟨0, [79], [1, 3, 6, 9, 10, 13, 14, 17, 18, 19, 20], []⟩]), (14, [⟨0, [0], [], []⟩, ⟨0, [12], [], []⟩, ⟨0, [104], [], []⟩, ⟨1, [105, 106], [], []⟩, ⟨1, [107], [3], []⟩, ⟨0, [12], [], []⟩, ⟨1, [6, 109], [], []⟩, ⟨1, [110], [6], []⟩, ⟨0, [108, 111], [3, 4, 6, 7], []⟩, ⟨0, [104], [], []⟩, ⟨1, [105, 113], [3, 4, 6, 7], []⟩, ⟨2, [112, 114], [3, 4, 6, 7, 10], []⟩])] := ⟨(.cons c121.g (.cons c122.g (.cons c123.g (.nil _))))⟩

def a8 (v : S8) : List T := [.int .u32 (v.a.toNat : Int), .int .u32 (v.b.toNat : Int), .int .u32 (v.c.toNat : Int), .int .u32 (v.d.toNat : Int), .int .u32 (v.e.toNat : Int), .int .u32 (v.f.toNat : Int), .int .u32 (v.g.toNat : Int), .int .u32 (v.h.toNat : Int)]
theorem a8_eq (v : S8) : v.l.map u32T = a8 v := rfl

theorem kS_len : kS.length = 64 := rfl

/-- The first so many numbers added. -/
def mixS (s v : S8) (i : Nat) : List T := ((s.add v).l.take i ++ s.l.drop i).map u32T
theorem mixS_len (s v : S8) : ∀ i, i ≤ 8 → (mixS s v i).length = 8
  | 0, _ => rfl | 1, _ => rfl | 2, _ => rfl | 3, _ => rfl | 4, _ => rfl | 5, _ => rfl | 6, _ => rfl | 7, _ => rfl | 8, _ => rfl
  | i + 9, h => by omega
theorem mixS_get (s v : S8) : ∀ i, i < 8 → (mixS s v i).getD i default = .int .u32 ((s.l.getD i 0).toNat : Int)
  | 0, _ => rfl | 1, _ => rfl | 2, _ => rfl | 3, _ => rfl | 4, _ => rfl | 5, _ => rfl | 6, _ => rfl | 7, _ => rfl
  | i + 8, h => by omega
theorem a8_get (v : S8) : ∀ i, i < 8 → (List.map u32T v.l).getD i default = .int .u32 ((v.l.getD i 0).toNat : Int)
  | 0, _ => rfl | 1, _ => rfl | 2, _ => rfl | 3, _ => rfl | 4, _ => rfl | 5, _ => rfl | 6, _ => rfl | 7, _ => rfl
  | i + 8, h => by omega
theorem mixS_set (s v : S8) : ∀ i, i < 8 → (mixS s v i).set i (.int .u32 ((s.l.getD i 0 + v.l.getD i 0).toNat : Int)) = mixS s v (i + 1)
  | 0, _ => rfl | 1, _ => rfl | 2, _ => rfl | 3, _ => rfl | 4, _ => rfl | 5, _ => rfl | 6, _ => rfl | 7, _ => rfl
  | i + 8, h => by omega
theorem mixS_0 (s v : S8) : mixS s v 0 = s.l.map u32T := rfl
theorem mixS_8 (s v : S8) : mixS s v 8 = (s.add v).l.map u32T := rfl

set_option maxHeartbeats 4000000 in
theorem g114 : GCon Try.prog 114 G114 := by
  refine gconc E_ok (rs := []) Try.func114 rfl Try.ntmps114 (by kernel_rfl) rfl (by decide) G114 (np := 2) ?_ ?_
  · intro HB xs h; unfold G114; split <;> first | rfl | (simp at h; done)
  intro HB xs H r hG hwf hex
  unfold G114 at hG
  split at hG <;> try (cases hG; done)
  · rename_i xs b
    split at hG
    case h_2 => cases hG
    rename_i s hs
    split at hG
    case isFalse => cases hG
    rename_i hb
    cases hG
    obtain rfl := asS8_inv hs
    have hsp : F121 [.by b] = some ([], .t (.ar 64 1 ((sch b 64).map u32T))) := if_pos hb
    repeat refine St (And.intro (And.intro @gentry.eq_1 <| @gentry.eq_2) <| And.intro hsp <| @F122.eq_def) ct114 ?_
    refine AWP.loop (G := { t : Nat // t ≤ 64 }) (fun t => ⟨[(0, .ptr 0 0 []), (4, .ptr 1 0 []), (5, .ptr 2 0 []), (6, .ptr 3 0 []), (19, .t (.int .i64 (t.1 : Int)))], [.bx (.t (.ar 8 1 (s.l.map u32T))), .bx (.t (.ar 64 1 ((sch b 64).map u32T))), .bx (.t (.ar 64 1 (kS.map u32T))), .bx (.t (.ar 8 1 ((rnds b s t.1).l.map u32T)))]⟩) (fun t => 64 - t.1) ⟨0, by omega⟩ ((Wt (And.intro @rnds.eq_1 <| @rnds.eq_2) [0, 4, 5, 6, 19] [0, 1, 2, 3])) ?_
    intro ⟨t, ht⟩
    dsimp only
    by_cases hlt : (t : Int) < 64
    case neg =>
      obtain rfl : t = 64 := by omega
      repeat refine St hlt ct114 ?_
      refine AWP.loop (G := { i : Nat // i ≤ 8 }) (fun i => ⟨[(0, .ptr 0 0 []), (6, .ptr 1 0 []), (101, .t (.int .i64 (i.1 : Int)))], [.bx (.t (.ar 8 1 (mixS s (rnds b s 64) i.1))), .bx (.t (.ar 8 1 ((rnds b s 64).l.map u32T)))]⟩) (fun i => 8 - i.1) ⟨0, by omega⟩ ((Wt @mixS_0 [0, 6, 101] [0, 3])) ?_
      intro ⟨i, hi⟩
      dsimp only
      generalize hv : rnds b s 64 = v
      by_cases hl8 : (i : Int) < 8
      case neg =>
        obtain rfl : i = 8 := by omega
        have hfin : blkS s b = s.add v := by rw [← hv]; rfl
        repeat refine St hl8 ct114 ?_
        exact Fin (And.intro @mixS_8 <| hfin) [] [0]
      have hi8 : i < 8 := by omega
      have hml := mixS_len s v i (by omega)
      have hvl : (List.map u32T v.l).length = 8 := rfl
      have g1 := mixS_get s v i hi8
      have g2 := a8_get v i hi8
      have g3 := mixS_set s v i hi8
      have hk1 : IntKind.i64.wrap ((i : Int) + 1) = ((i + 1 : Nat) : Int) := by rw [wrap_i64 (by omega) (by omega)]; omega
      repeat refine St (And.intro hl8 <| And.intro hi8 <| And.intro hml <| And.intro hvl <| And.intro g1 <| And.intro g2 <| And.intro g3 <| And.intro @u32_add <| And.intro hk1 <| @T.size.eq_def) ct114 ?_
      exact ⟨⟨i + 1, by omega⟩, (Wt trivial [0, 6, 101] [0, 1]), by simp only; omega⟩
    have ht64 : t < 64 := by omega
    have hk1 : IntKind.i64.wrap ((t : Int) + 1) = ((t + 1 : Nat) : Int) := by rw [wrap_i64 (by omega) (by omega)]; omega
    have hkl : (List.map u32T kS).length = 64 := by simp [kS_len]
    have hwl : (List.map u32T (sch b 64)).length = 64 := by simp [sch_len]
    have hkg : (List.map u32T kS).getD t default = .int .u32 ((kS.getD t 0).toNat : Int) := u32T_getD (by rw [kS_len]; exact ht64)
    have hwg : (List.map u32T (sch b 64)).getD t default = .int .u32 (((sch b 64).getD t 0).toNat : Int) := u32T_getD (by rw [sch_len]; exact ht64)
    have hnx : rnds b s (t + 1) = rnd (rnds b s t) (kS.getD t 0) ((sch b 64).getD t 0) := rfl
    generalize rnds b s t = v at *
    generalize kS.getD t 0 = k at *
    generalize (sch b 64).getD t 0 = w at *
    repeat refine St (And.intro hlt <| And.intro (a8_eq v) <| And.intro @a8.eq_def <| And.intro hkl <| And.intro hwl <| And.intro hkg <| And.intro hwg <| And.intro ht64 <| And.intro hk1 <| And.intro @rotc2 <| And.intro @rotc6 <| And.intro @rotc11 <| And.intro @rotc13 <| And.intro @rotc22 <| And.intro @rotc25 <| And.intro @u32_xor <| And.intro @u32_and <| And.intro @u32_add <| And.intro @u32_not <| @T.size.eq_def) ct114 ?_
    exact ⟨⟨t + 1, by omega⟩, (Wt (And.intro hnx <| And.intro @rnd.eq_def <| And.intro @t1S.eq_def <| And.intro @t2S.eq_def <| And.intro @S8.l.eq_def <| @u32T.eq_def) [0, 4, 5, 6, 19] [0, 1, 2, 3]), by simp only; omega⟩
  · rename_i xs r n b
    split at hG
    case h_2 => cases hG
    rename_i s hs
    split at hG
    case isFalse => cases hG
    rename_i hb
    cases hG
    obtain rfl := asS8_inv hs
    have hsp : F121 [.by b] = some ([], .t (.ar 64 1 ((sch b 64).map u32T))) := if_pos hb
    repeat refine St (And.intro (And.intro @gentry.eq_1 <| @gentry.eq_2) <| And.intro hsp <| @F122.eq_def) ct114 ?_
    refine AWP.loop (G := { t : Nat // t ≤ 64 }) (fun t => ⟨[(0, .ptr 0 0 [0]), (4, .ptr 1 0 []), (5, .ptr 2 0 []), (6, .ptr 3 0 []), (19, .t (.int .i64 (t.1 : Int)))], [.bx (.t (.st [.ar 8 1 (s.l.map u32T), .by r, .int .u64 n])), .bx (.t (.ar 64 1 ((sch b 64).map u32T))), .bx (.t (.ar 64 1 (kS.map u32T))), .bx (.t (.ar 8 1 ((rnds b s t.1).l.map u32T)))]⟩) (fun t => 64 - t.1) ⟨0, by omega⟩ ((Wt (And.intro @rnds.eq_1 <| @rnds.eq_2) [0, 4, 5, 6, 19] [0, 1, 2, 3])) ?_
    intro ⟨t, ht⟩
    dsimp only
    by_cases hlt : (t : Int) < 64
    case neg =>
      obtain rfl : t = 64 := by omega
      repeat refine St hlt ct114 ?_
      refine AWP.loop (G := { i : Nat // i ≤ 8 }) (fun i => ⟨[(0, .ptr 0 0 [0]), (6, .ptr 1 0 []), (101, .t (.int .i64 (i.1 : Int)))], [.bx (.t (.st [.ar 8 1 (mixS s (rnds b s 64) i.1), .by r, .int .u64 n])), .bx (.t (.ar 8 1 ((rnds b s 64).l.map u32T)))]⟩) (fun i => 8 - i.1) ⟨0, by omega⟩ ((Wt @mixS_0 [0, 6, 101] [0, 3])) ?_
      intro ⟨i, hi⟩
      dsimp only
      generalize hv : rnds b s 64 = v
      by_cases hl8 : (i : Int) < 8
      case neg =>
        obtain rfl : i = 8 := by omega
        have hfin : blkS s b = s.add v := by rw [← hv]; rfl
        repeat refine St hl8 ct114 ?_
        exact Fin (And.intro @mixS_8 <| hfin) [] [0]
      have hi8 : i < 8 := by omega
      have hml := mixS_len s v i (by omega)
      have hvl : (List.map u32T v.l).length = 8 := rfl
      have g1 := mixS_get s v i hi8
      have g2 := a8_get v i hi8
      have g3 := mixS_set s v i hi8
      have hk1 : IntKind.i64.wrap ((i : Int) + 1) = ((i + 1 : Nat) : Int) := by rw [wrap_i64 (by omega) (by omega)]; omega
      repeat refine St (And.intro hl8 <| And.intro hi8 <| And.intro hml <| And.intro hvl <| And.intro g1 <| And.intro g2 <| And.intro g3 <| And.intro @u32_add <| And.intro hk1 <| @T.size.eq_def) ct114 ?_
      exact ⟨⟨i + 1, by omega⟩, (Wt trivial [0, 6, 101] [0, 1]), by simp only; omega⟩
    have ht64 : t < 64 := by omega
    have hk1 : IntKind.i64.wrap ((t : Int) + 1) = ((t + 1 : Nat) : Int) := by rw [wrap_i64 (by omega) (by omega)]; omega
    have hkl : (List.map u32T kS).length = 64 := by simp [kS_len]
    have hwl : (List.map u32T (sch b 64)).length = 64 := by simp [sch_len]
    have hkg : (List.map u32T kS).getD t default = .int .u32 ((kS.getD t 0).toNat : Int) := u32T_getD (by rw [kS_len]; exact ht64)
    have hwg : (List.map u32T (sch b 64)).getD t default = .int .u32 (((sch b 64).getD t 0).toNat : Int) := u32T_getD (by rw [sch_len]; exact ht64)
    have hnx : rnds b s (t + 1) = rnd (rnds b s t) (kS.getD t 0) ((sch b 64).getD t 0) := rfl
    generalize rnds b s t = v at *
    generalize kS.getD t 0 = k at *
    generalize (sch b 64).getD t 0 = w at *
    repeat refine St (And.intro hlt <| And.intro (a8_eq v) <| And.intro @a8.eq_def <| And.intro hkl <| And.intro hwl <| And.intro hkg <| And.intro hwg <| And.intro ht64 <| And.intro hk1 <| And.intro @rotc2 <| And.intro @rotc6 <| And.intro @rotc11 <| And.intro @rotc13 <| And.intro @rotc22 <| And.intro @rotc25 <| And.intro @u32_xor <| And.intro @u32_and <| And.intro @u32_add <| And.intro @u32_not <| @T.size.eq_def) ct114 ?_
    exact ⟨⟨t + 1, by omega⟩, (Wt (And.intro hnx <| And.intro @rnd.eq_def <| And.intro @t1S.eq_def <| And.intro @t2S.eq_def <| And.intro @S8.l.eq_def <| @u32T.eq_def) [0, 4, 5, 6, 19] [0, 1, 2, 3]), by simp only; omega⟩

end Go.Fw

end

section
/- Chapter 7: New, Write, Len. -/
namespace Go.Fw
open Go Go.Proofs
set_option linter.unusedVariables false
set_option linter.unusedSimpArgs false

/-- A hash that goes on. -/
abbrev hB (s : S8) (r : List UInt8) (n : Nat) : Blk := .bx (.t (.st [.ar 8 1 (s.l.map u32T), .by r, .int .u64 (n : Int)]))

def F91 : Fun
  | [] => some ([.bx (.t (.st [.ar 8 1 (hS.map u32T), .by [], .int .u64 0]))], .ptr 0 0 [])
  | _ => none

theorem ct91 : CT [(113, ⟨[], treeG F113⟩)] [0] [] := ⟨(.cons c113.g (.nil _))⟩

theorem c91 : ACon Try.prog 91 F91 := by
  refine aconc E_ok (rs := [.tmp 0 118]) Try.func91 rfl Try.ntmps91 (by kernel_rfl) rfl (by decide) F91 (np := 0) ?_ ?_
  · intro ts h; unfold F91; split <;> first | rfl | (simp at h; done)
  intro ts H r hF hwf
  unfold F91 at hF
  split at hF <;> try (cases hF; done)
  cases hF
  repeat refine St @F113.eq_def ct91 ?_
  refine AWP.weak (Wn 0 [1] 8 (.by [])) ?_
  exact AWP.ret (Fin trivial [] [0])

/-- The eight numbers behind so many blocks of some bytes. -/
def eatS (s : S8) (l : List UInt8) : Nat → S8
  | 0 => s
  | k + 1 => blkS (eatS s l k) ((l.drop (64 * k)).take 64)

theorem take_c1 (s : S8) {b : List UInt8} (h : b.length = 64) : G114 [.bx (.t (.ar 8 1 (s.l.map u32T)))] [.ptr 0 0 [], .t (.by b)] = some ([.bx (.t (.ar 8 1 ((blkS s b).l.map u32T)))], .tup []) := by
  simp only [G114, asS8_map]; rw [if_pos h]
theorem take_c2 (s : S8) (r : List UInt8) (n : Int) {b : List UInt8} (h : b.length = 64) : G114 [.bx (.t (.st [.ar 8 1 (s.l.map u32T), .by r, .int .u64 n]))] [.ptr 0 0 [0], .t (.by b)] = some ([.bx (.t (.st [.ar 8 1 ((blkS s b).l.map u32T), .by r, .int .u64 n]))], .tup []) := by
  simp only [G114, asS8_map]; rw [if_pos h]

noncomputable def G92 : GFun
  | [], [.t .nilp, .t (.by b)] => some ([], .tup [])
  | [.bx (.t (.st [.ar 8 1 xs, .by r, .int .u64 n]))], [.ptr 0 0 [], .t (.by b)] => match asS8 xs with
    | some s => if 0 ≤ n ∧ n ≤ 1000000000000 ∧ r.length ≤ 64 ∧ b.length ≤ 1000000000 then
        some ([.bx (.t (.st [.ar 8 1 ((eatS s (r ++ b) ((r ++ b).length / 64)).l.map u32T), .by ((r ++ b).drop (64 * ((r ++ b).length / 64))), .int .u64 (n + b.length)]))], .tup []) else none
    | none => none
  | _, _ => none

theorem ct92 : CT [(114, ⟨[true, false], G114⟩)] [0, 1, 5, 41] [(2, [⟨0, [0], [], []⟩, ⟨0, [0], [], []⟩, ⟨0, [17], [], []⟩, ⟨0, [18], [], []⟩, ⟨1, [19], [], []⟩, ⟨0, [0], [], []⟩, ⟨0, [21], [], []⟩, ⟨0, [22], [], []⟩, ⟨1, [23], [], []⟩, ⟨1, [24], [8], []⟩, ⟨0, [0], [], []⟩, ⟨0, [26], [], []⟩, ⟨0, [27], [], []⟩, ⟨1, [28], [], []⟩, ⟨1, [29], [13], []⟩, ⟨1, [20, 25, 30], [4, 8, 9, 13, 14], []⟩, ⟨0, [1], [], []⟩, ⟨2, [31, 32], [4, 8, 9, 13, 14, 15], []⟩, ⟨0, [16], [4, 8, 9, 13, 14, 15, 17], []⟩, ⟨0, [34], [4, 8, 9, 13, 14, 15, 17], []⟩, ⟨2, [33, 35], [4, 8, 9, 13, 14, 15, 17], []⟩]), (4, [⟨0, [0], [], []⟩, ⟨0, [42], [], []⟩, ⟨0, [43], [], []⟩, ⟨0, [0], [], []⟩, ⟨0, [45], [], []⟩, ⟨0, [46], [], []⟩, ⟨1, [47], [], []⟩, ⟨1, [48], [6], []⟩, ⟨2, [44, 49], [6, 7], []⟩])] := ⟨(.cons g114 (.nil _))⟩


set_option maxHeartbeats 1000000 in
theorem g92 : GCon Try.prog 92 G92 := by
  refine gconc E_ok (rs := []) Try.func92 rfl Try.ntmps92 (by kernel_rfl) rfl (by decide) G92 (np := 2) ?_ ?_
  · intro HB xs h; unfold G92; split <;> first | rfl | (simp at h; done)
  intro HB xs H r hG hwf hex
  unfold G92 at hG
  split at hG <;> try (cases hG; done)
  · cases hG
    repeat refine St (And.intro @gentry.eq_1 <| @gentry.eq_2) ct92 ?_
    exact AWP.ret (Fin trivial [] [])
  · rename_i xs r n b
    split at hG
    case h_2 => cases hG
    rename_i s hs
    split at hG
    case isFalse => cases hG
    rename_i hc
    obtain ⟨hn0, hn1, hr, hb⟩ := hc
    cases hG
    obtain rfl := asS8_inv hs
    have hw1 : IntKind.u64.wrap (b.length : Int) = (b.length : Int) := wrap_u64 (by omega) (by omega)
    have hw2 : IntKind.u64.wrap (n + (b.length : Int)) = n + (b.length : Int) := wrap_u64 (by omega) (by omega)
    have hr1 : r.length ≤ r.length := Nat.le_refl _
    repeat refine St (And.intro (And.intro @gentry.eq_1 <| @gentry.eq_2) <| And.intro hw1 <| And.intro hw2 <| And.intro hr <| hb) ct92 ?_
    obtain ⟨N, hN⟩ : ∃ N, n + (b.length : Int) = N := ⟨_, rfl⟩
    rw [hN]
    have hrl : (r ++ b).length ≤ 2000000000 := by simp; omega
    obtain ⟨l, hl⟩ : ∃ l, r ++ b = l := ⟨_, rfl⟩
    rw [hl] at hrl ⊢
    refine AWP.loop (G := { k : Nat // 64 * k ≤ l.length }) (fun k => ⟨[(0, .ptr 0 0 [])], [.bx (.t (.st [.ar 8 1 ((eatS s l k.1).l.map u32T), .by (l.drop (64 * k.1)), .int .u64 N]))]⟩) (fun k => l.length - 64 * k.1) ⟨0, by omega⟩ ((Wt (And.intro (And.intro @eatS.eq_1 <| @eatS.eq_2) <| @Nat.mul_zero) [0] [0])) ?_
    intro ⟨k, hk⟩
    dsimp only
    have hdl : (l.drop (64 * k)).length = l.length - 64 * k := by simp
    have hnx : eatS s l (k + 1) = blkS (eatS s l k) ((l.drop (64 * k)).take 64) := rfl
    obtain ⟨v, hv⟩ : ∃ v, eatS s l k = v := ⟨_, rfl⟩
    rw [hv] at hnx ⊢
    have hdd : (l.drop (64 * k)).drop 64 = l.drop (64 * (k + 1)) := by rw [List.drop_drop]; congr 1
    obtain ⟨d, hd⟩ : ∃ d, l.drop (64 * k) = d := ⟨_, rfl⟩
    rw [hd] at hdd hdl hnx ⊢
    by_cases h64 : 64 ≤ (d.length : Int)
    · have h64' : 64 ≤ d.length := by omega
      have htl : (d.take 64).length = 64 := by simp; omega
      have htk := take_c2 v d N htl
      repeat refine St (And.intro h64 <| And.intro h64' <| And.intro hdd <| htk) ct92 ?_
      exact ⟨⟨k + 1, by omega⟩, (Wt hnx [0] [0]), by simp only; omega⟩
    · obtain rfl : k = l.length / 64 := by omega
      repeat refine St h64 ct92 ?_
      exact Fin (And.intro hv <| hd) [] [0]

end Go.Fw

end

section
/- Chapter 7: the hash's end. -/
namespace Go.Fw
open Go Go.Proofs
set_option linter.unusedVariables false
set_option linter.unusedSimpArgs false

/-- How many noughts are put behind so many bytes and one. -/
def padK (m : Nat) : Nat := (119 - m % 64) % 64
def beB (N j : Nat) : UInt8 := UInt8.ofNat (N / 2 ^ (56 - 8 * j))
def be8 (N j : Nat) : List UInt8 := (List.range j).map (beB N)
theorem be8_snoc (N j : Nat) : be8 N j ++ [beB N j] = be8 N (j + 1) := by simp [be8, List.range_succ]
theorem be8_len (N j : Nat) : (be8 N j).length = j := by simp [be8]
def padS (r : List UInt8) (n : Nat) : List UInt8 := r ++ (128 :: repl (padK r.length) 0) ++ be8 (n * 8) 8
theorem padS_len (r : List UInt8) (n : Nat) : (padS r n).length % 64 = 0 := by
  simp only [padS, List.length_append, List.length_cons, repl_len, be8_len, padK]; omega

def outB (s : S8) (p : Nat) : UInt8 := ((s.l.getD (p / 4) 0) >>> UInt32.ofNat (24 - 8 * (p % 4))).toUInt8
def outM (s : S8) (p : Nat) : List UInt8 := (List.range 32).map fun j => if j < p then outB s j else 0
def outS (s : S8) : List UInt8 := (List.range 32).map (outB s)
theorem outM_0 (s : S8) : outM s 0 = zby 32 := rfl
theorem outM_32 (s : S8) : outM s 32 = outS s := by
  simp only [outM, outS]
  apply List.map_congr_left
  intro j hj
  rw [if_pos (by simpa using hj)]
theorem outM_len (s : S8) (p : Nat) : (outM s p).length = 32 := by simp [outM]
theorem outM_set (s : S8) {p : Nat} (h : p < 32) : (outM s p).set p (outB s p) = outM s (p + 1) := by
  apply List.ext_getElem
  · simp [outM]
  · intro j h1 h2
    simp only [List.length_set, outM_len] at h1
    rw [List.getElem_set]
    simp only [outM, List.getElem_map, List.getElem_range]
    by_cases e : p = j
    · subst e; simp
    · simp only [e, if_false]
      by_cases h3 : j < p
      · rw [if_pos h3, if_pos (by omega)]
      · rw [if_neg h3, if_neg (by omega)]

/-- The hash of what was taken, and of what is left. -/
def finS (s : S8) (r : List UInt8) (n : Nat) : List UInt8 := outS (eatS s (padS r n) ((padS r n).length / 64))

noncomputable def G93r : GFun
  | [.bx (.t (.st [.ar 8 1 xs, .by r, .int .u64 n]))], [.ptr 0 0 []] => match asS8 xs with
    | some s => if 0 ≤ n ∧ n ≤ 1000000000000 ∧ r.length ≤ 64 then some ([.bx (.t (.st [.ar 8 1 xs, .by r, .int .u64 n]))], .t (.ba 32 (finS s r n.toNat))) else none
    | none => none
  | _, _ => none

theorem ct93 : CT [(91, ⟨[], treeG F91⟩), (114, ⟨[true, false], G114⟩)] [0, 2, 3, 4, 5, 6, 7, 8, 9, 10, 12, 27, 37, 53, 59, 60, 61, 64, 65] [] := ⟨(.cons c91.g (.cons g114 (.nil _)))⟩

theorem beB_eq (n j : Nat) (h : n ≤ 1000000000000) (hj : j < 8) : UInt8.ofNat (IntKind.u8.wrap (Int.fdiv ((n * 8 : Nat) : Int) (2 ^ (min (56 - 8 * j) IntKind.u64.bits)))).toNat = beB (n * 8) j := by
  have e : min (56 - 8 * j) IntKind.u64.bits = 56 - 8 * j := by rw [bits_u64]; omega
  rw [e, Int.fdiv_eq_ediv_of_nonneg _ (by exact_mod_cast Nat.zero_le _)]
  have e2 : (2 : Int) ^ (56 - 8 * j) = ((2 ^ (56 - 8 * j) : Nat) : Int) := by rw [Int.natCast_pow]; rfl
  rw [e2, ← Int.natCast_ediv, wrapu8]
  unfold beB
  generalize n * 8 / 2 ^ (56 - 8 * j) = m
  have : ((m : Int) % 256).toNat = m % 256 := by omega
  rw [this]
  apply UInt8.toNat_inj.1
  simp

set_option maxHeartbeats 2000000 in
theorem g93r : GCon Try.prog 93 G93r := by
  refine gconc E_ok (rs := [.cell 2 25]) Try.func93 rfl Try.ntmps93 (by kernel_rfl) rfl (by decide) G93r (np := 1) ?_ ?_
  · intro HB xs h; unfold G93r; split <;> first | rfl | (simp at h; done)
  intro HB xs H r hG hwf hex
  unfold G93r at hG
  split at hG <;> try (cases hG; done)
  rename_i xs r n
  split at hG
  case h_2 => cases hG
  rename_i s hs
  split at hG
  case isFalse => cases hG
  rename_i hc
  obtain ⟨hn0, hn1, hr⟩ := hc
  cases hG
  obtain rfl := asS8_inv hs
  obtain ⟨N, rfl⟩ : ∃ N : Nat, n = (N : Int) := ⟨n.toNat, by omega⟩
  simp only [Int.toNat_natCast]
  have e128 : ∀ l : List UInt8, (l ++ [128]).length = l.length + 1 := fun l => by simp
  repeat refine St (And.intro (And.intro @gentry.eq_1 <| @gentry.eq_2) <| And.intro hr <| e128) ct93 ?_
  have hp64 : (r ++ UInt8.ofNat 128 :: repl (padK r.length) 0).length % 64 = 56 := by simp only [List.length_append, List.length_cons, repl_len, padK]; omega
  refine AWP.loop (G := { k : Nat // k ≤ padK r.length }) (fun k => ⟨[(0, .ptr 0 0 []), (2, .ptr 1 0 []), (3, .own 2)], [hB s r N, .bx (.t (.ba 32 (zby 32))), .by (r ++ (UInt8.ofNat 128 :: repl k.1 0))]⟩) (fun k => padK r.length - k.1) ⟨0, by omega⟩ ((Wt @repl_0 [0, 2, 3] [0, 1, 5])) ?_
  intro ⟨k, hk⟩
  dsimp only
  obtain ⟨L, hL⟩ : ∃ L, r ++ (UInt8.ofNat 128 :: repl k (0 : UInt8)) = L := ⟨_, rfl⟩
  have hLl : L.length = r.length + 1 + k := by rw [← hL]; simp only [List.length_append, List.length_cons, repl_len]; omega
  have hnx : L ++ [UInt8.ofNat 0] = r ++ (UInt8.ofNat 128 :: repl (k + 1) 0) := by rw [← hL, ← repl_snoc]; simp
  rw [hL]
  have hrem : IntKind.i64.wrap (Int.tmod (L.length : Int) 64) = ((L.length % 64 : Nat) : Int) := by
    have : Int.tmod (L.length : Int) 64 = ((L.length % 64 : Nat) : Int) := by rw [Int.tmod_eq_emod_of_nonneg (by omega)]; omega
    rw [this, wrap_i64 (by omega) (by omega)]
  have hkK : padK r.length = (119 - r.length % 64) % 64 := rfl
  have hLs : L.length ≤ 200 := by omega
  by_cases hd : L.length % 64 = 56
  · have hkk : k = padK r.length := by omega
    have hd' : (((L.length % 64 : Nat) : Int) != 56) = false := by simp; omega
    rw [← hkk] at hp64
    have hpad : padS r N = L ++ be8 (N * 8) 8 := by rw [← hL, hkk]; rfl
    have hmul : IntKind.u64.wrap ((N : Int) * 8) = ((N * 8 : Nat) : Int) := by rw [wrap_u64 (by omega) (by omega)]; omega
    repeat refine St (And.intro hrem <| And.intro hd' <| hmul) ct93 ?_
    have hLs' : L.length ≤ 200 := by omega
    refine AWP.loop (G := { x : Nat × Int // x.1 ≤ 8 ∧ x.2 = 56 - 8 * (x.1 : Int) }) (fun x => ⟨[(0, .ptr 0 0 []), (2, .ptr 1 0 []), (3, .own 2), (4, .t (.int .u64 ((N * 8 : Nat) : Int))), (5, .t (.int .i64 x.1.2))], [hB s r N, .bx (.t (.ba 32 (zby 32))), .by (L ++ be8 (N * 8) x.1.1)]⟩) (fun x => 8 - x.1.1) ⟨(0, 56), by omega, rfl⟩ ((Wt (show be8 (N * 8) 0 = [] from rfl) [0, 2, 3, 4, 5] [0, 1, 2])) ?_
    intro ⟨⟨j, q⟩, hj, hq⟩
    dsimp only at hj hq ⊢
    have hbl := be8_len (N * 8) j
    by_cases hq0 : 0 ≤ q
    · have hj8 : j < 8 := by omega
      have hqn : q = ((56 - 8 * j : Nat) : Int) := by omega
      have hbyte := beB_eq N j (by omega) hj8
      have hqt : q.toNat = 56 - 8 * j := by omega
      have hq0' : ¬ q < 0 := by omega
      have hk8 : IntKind.i64.wrap (q - 8) = q - 8 := wrap_i64 (by omega) (by omega)
      have hal : (L ++ be8 (N * 8) j).length ≤ 300 := by simp [hbl]; omega
      have hsn : (L ++ be8 (N * 8) j) ++ [beB (N * 8) j] = L ++ be8 (N * 8) (j + 1) := by rw [List.append_assoc, be8_snoc]
      obtain ⟨M, hM⟩ : ∃ M, L ++ be8 (N * 8) j = M := ⟨_, rfl⟩
      rw [hM] at hal hsn ⊢
      repeat refine St (And.intro hq0 <| And.intro hq0' <| And.intro hqt <| And.intro hbyte <| And.intro hk8 <| hal) ct93 ?_
      exact ⟨⟨(j + 1, q - 8), by omega, by simp only; omega⟩, (Wt hsn [0, 2, 3, 4, 5] [0, 1, 4]), by simp only; omega⟩
    · obtain rfl : j = 8 := by omega
      rw [← hpad]
      have hpl := padS_len r N
      have hfin : finS s r N = outS (eatS s (padS r N) ((padS r N).length / 64)) := rfl
      have hps : (padS r N).length ≤ 300 := by rw [hpad]; simp [hbl]; omega
      obtain ⟨P, hP⟩ : ∃ P, padS r N = P := ⟨_, rfl⟩
      rw [hP] at hpl hfin hps ⊢
      repeat refine St (And.intro hq0 <| @T.size.eq_def) ct93 ?_
      refine AWP.weak (Weak.freeze 2) ?_
      refine AWP.weak (Weak.thawS (y := .by P) 3 rfl) ?_
      refine AWP.loop (G := { k : Nat // 64 * k ≤ P.length }) (fun k => ⟨[(2, .ptr 1 0 []), (3, .t (.by (P.drop (64 * k.1)))), (6, .ptr 2 0 [])], [hB s r N, .bx (.t (.ba 32 (zby 32))), .bx (.t (.ar 8 1 ((eatS s P k.1).l.map u32T)))]⟩) (fun k => P.length - 64 * k.1) ⟨0, by omega⟩ ((Wt (And.intro @freezeOne.eq_def <| And.intro (And.intro @eatS.eq_1 <| @eatS.eq_2) <| @Nat.mul_zero) [2, 3, 6] [0, 1, 3])) ?_
      intro ⟨k, hk⟩
      dsimp only
      have hdl : (P.drop (64 * k)).length = P.length - 64 * k := by simp
      have hnx : eatS s P (k + 1) = blkS (eatS s P k) ((P.drop (64 * k)).take 64) := rfl
      have hdd : (P.drop (64 * k)).drop 64 = P.drop (64 * (k + 1)) := by rw [List.drop_drop]; congr 1
      obtain ⟨v, hv⟩ : ∃ v, eatS s P k = v := ⟨_, rfl⟩
      obtain ⟨d, hd⟩ : ∃ d, P.drop (64 * k) = d := ⟨_, rfl⟩
      rw [hv, hd] at hnx
      rw [hd] at hdl hdd
      rw [hv, hd]
      by_cases h64 : 0 < (d.length : Int)
      · have h64' : 64 ≤ d.length := by omega
        have h64i : 64 ≤ (d.length : Int) := by omega
        have htl : (d.take 64).length = 64 := by simp; omega
        have htk := take_c1 v htl
        repeat refine St (And.intro h64 <| And.intro h64' <| And.intro h64i <| And.intro hdd <| htk) ct93 ?_
        exact ⟨⟨k + 1, by omega⟩, (Wt hnx [2, 3, 6] [0, 1, 2]), by simp only; omega⟩
      · have hkk : k = P.length / 64 := by omega
        rw [← hkk, hv] at hfin
        repeat refine St h64 ct93 ?_
        refine AWP.loop (G := { i : Nat // i ≤ 8 }) (fun i => ⟨[(2, .ptr 1 0 []), (7, .ptr 2 0 []), (59, .t (.ar 8 1 (v.l.map u32T))), (60, .t (.int .i64 (i.1 : Int)))], [hB s r N, .bx (.t (.ba 32 (zby 32))), .bx (.t (.ba 32 (outM v (4 * i.1))))]⟩) (fun i => 8 - i.1) ⟨0, by omega⟩ ((Wt (And.intro @Nat.mul_zero <| @outM_0) [2, 7, 59, 60] [0, 1, 3])) ?_
        intro ⟨i, hi⟩
        dsimp only
        by_cases hi8 : (i : Int) < 8
        case neg =>
          obtain rfl : i = 8 := by omega
          have ho := outM_32 v
          have hol := outM_len v 32
          repeat refine St (And.intro hi8 <| And.intro @T.size.eq_def <| And.intro (show 4 * 8 = 32 from rfl) <| ho) ct93 ?_
          exact AWP.ret (Fin hfin [] [0])
        have hi8' : i < 8 := by omega
        have hvl : (List.map u32T v.l).length = 8 := rfl
        have hvg := a8_get v i hi8'
        have hki : IntKind.i64.wrap ((i : Int) + 1) = ((i + 1 : Nat) : Int) := by rw [wrap_i64 (by omega) (by omega)]; omega
        repeat refine St (And.intro hi8 <| And.intro hi8' <| And.intro hvl <| hvg) ct93 ?_
        refine AWP.loop (G := { j : Nat // j ≤ 4 }) (fun j => ⟨[(2, .ptr 1 0 []), (7, .ptr 2 0 []), (8, .t (.int .i64 (i : Int))), (9, .t (.int .u32 ((v.l.getD i 0).toNat : Int))), (59, .t (.ar 8 1 (v.l.map u32T))), (60, .t (.int .i64 (i : Int))), (64, .t (.int .i64 (j.1 : Int)))], [hB s r N, .bx (.t (.ba 32 (zby 32))), .bx (.t (.ba 32 (outM v (4 * i + j.1))))]⟩) (fun j => 4 - j.1) ⟨0, by omega⟩ ((Wt trivial [2, 7, 8, 9, 59, 60, 64] [0, 1, 2])) ?_
        intro ⟨j, hj⟩
        dsimp only
        by_cases hj4 : (j : Int) < 4
        · have hj4' : j < 4 := by omega
          have hm4 : IntKind.i64.wrap (4 * (i : Int)) = ((4 * i : Nat) : Int) := by rw [wrap_i64 (by omega) (by omega)]; omega
          have hm4j : IntKind.i64.wrap (((4 * i : Nat) : Int) + (j : Int)) = ((4 * i + j : Nat) : Int) := by rw [wrap_i64 (by omega) (by omega)]; omega
          have hm8 : IntKind.i64.wrap (8 * (j : Int)) = ((8 * j : Nat) : Int) := by rw [wrap_i64 (by omega) (by omega)]; omega
          have hm24 : IntKind.i64.wrap (24 - ((8 * j : Nat) : Int)) = ((24 - 8 * j : Nat) : Int) := by rw [wrap_i64 (by omega) (by omega)]; omega
          have hnn : ¬ ((24 - 8 * j : Nat) : Int) < 0 := by omega
          have hsh := u32_shr (v.l.getD i 0) (24 - 8 * j) (by omega)
          have hob : ((v.l.getD i 0) >>> UInt32.ofNat (24 - 8 * j)).toUInt8 = outB v (4 * i + j) := by
            unfold outB
            rw [show (4 * i + j) / 4 = i by omega, show (4 * i + j) % 4 = j by omega]
          have hp32 : 4 * i + j < 32 := by omega
          have hp32i : ((4 * i + j : Nat) : Int) < 32 := by omega
          have hset := outM_set v hp32
          have hol := outM_len v (4 * i + j)
          have hkj : IntKind.i64.wrap ((j : Int) + 1) = ((j + 1 : Nat) : Int) := by rw [wrap_i64 (by omega) (by omega)]; omega
          have hof : ∀ c : UInt8, UInt8.ofNat c.toNat = c := fun c => by simp
          obtain ⟨p, hp⟩ : ∃ p, 4 * i + j = p := ⟨_, rfl⟩
          have hpn : p + 1 = 4 * i + (j + 1) := by omega
          rw [hp] at hm4j hob hp32 hp32i hset hol ⊢
          repeat refine St (And.intro hj4 <| And.intro hj4' <| And.intro hm4 <| And.intro hm4j <| And.intro hm8 <| And.intro hm24 <| And.intro hnn <| And.intro hsh <| And.intro @u8_of_u32 <| And.intro hob <| And.intro hp32 <| And.intro hp32i <| And.intro hof <| And.intro hset <| And.intro hol <| And.intro hkj <| @T.size.eq_def) ct93 ?_
          exact ⟨⟨j + 1, by omega⟩, (Wt hpn [2, 7, 8, 9, 59, 60, 64] [0, 1, 2]), by simp only; omega⟩
        · obtain rfl : j = 4 := by omega
          have hpn : 4 * i + 4 = 4 * (i + 1) := by omega
          repeat refine St (And.intro hj4 <| hki) ct93 ?_
          exact ⟨⟨i + 1, by omega⟩, (Wt hpn [2, 7, 59, 60] [0, 1, 2]), by simp only; omega⟩
  · have hd' : (((L.length % 64 : Nat) : Int) != 56) = true := by simp; omega
    repeat refine St (And.intro hrem <| And.intro hd' <| hLs) ct93 ?_
    exact ⟨⟨k + 1, by omega⟩, (Wt hnx [0, 2, 3] [0, 1, 4]), by simp only; omega⟩

end Go.Fw

end

section
/- Chapter 7: the hash of a whole message. -/
namespace Go.Fw
open Go Go.Proofs
set_option linter.unusedVariables false
set_option linter.unusedSimpArgs false

theorem eatS_app (s : S8) (l m : List UInt8) : ∀ k, 64 * k ≤ l.length → eatS s (l ++ m) k = eatS s l k
  | 0, _ => rfl
  | k + 1, h => by
    simp only [eatS]
    rw [eatS_app s l m k (by omega), List.drop_append_of_le_length (by omega), List.take_append_of_le_length (by simp; omega)]
theorem eatS_add (s : S8) (l : List UInt8) (k : Nat) : ∀ j, eatS (eatS s l k) (l.drop (64 * k)) j = eatS s l (k + j)
  | 0 => rfl
  | j + 1 => by
    rw [show k + (j + 1) = (k + j) + 1 by omega]
    simp only [eatS]
    rw [eatS_add s l k j, List.drop_drop]
    congr 3; omega

/-- A hash behind some bytes. -/
def restS (l : List UInt8) : List UInt8 := l.drop (64 * (l.length / 64))
def eatenS (l : List UInt8) : S8 := eatS h0S l (l.length / 64)
abbrev msgB (l : List UInt8) : Blk := hB (eatenS l) (restS l) l.length
def shaL (l : List UInt8) : List UInt8 := finS h0S l l.length

theorem restS_len (l : List UInt8) : (restS l).length ≤ 64 := by simp [restS]; omega
theorem rest_app (l b : List UInt8) : restS l ++ b = (l ++ b).drop (64 * (l.length / 64)) := by
  unfold restS; rw [List.drop_append_of_le_length (by omega)]

theorem write_c (l b : List UInt8) (h : l.length ≤ 1000000000000) (hb : b.length ≤ 1000000000) :
    G92 [.bx (.t (.st [.ar 8 1 ((eatenS l).l.map u32T), .by (restS l), .int .u64 (l.length : Int)]))] [.ptr 0 0 [], .t (.by b)] = some ([msgB (l ++ b)], .tup []) := by
  simp only [G92, asS8_map]
  rw [if_pos ⟨by omega, by omega, restS_len l, hb⟩]
  have hq : (l ++ b).length / 64 = l.length / 64 + (restS l ++ b).length / 64 := by simp [restS]; omega
  have h1 : eatS (eatenS l) (restS l ++ b) ((restS l ++ b).length / 64) = eatenS (l ++ b) := by
    unfold eatenS
    rw [hq, ← eatS_add, rest_app l b, eatS_app h0S l b _ (by omega)]
  have h2 : (restS l ++ b).drop (64 * ((restS l ++ b).length / 64)) = restS (l ++ b) := by
    show _ = (l ++ b).drop (64 * ((l ++ b).length / 64))
    rw [hq, rest_app l b, List.drop_drop]; congr 1; omega
  rw [h1, h2]
  simp only [msgB, hB, List.length_append, Int.natCast_add]

theorem fin_c (l : List UInt8) : finS (eatenS l) (restS l) l.length = shaL l := by
  have hk : padK (restS l).length = padK l.length := by simp [restS, padK]; omega
  have hp : padS (restS l) l.length = (padS l l.length).drop (64 * (l.length / 64)) := by
    simp only [padS, hk]
    rw [List.append_assoc, rest_app, List.append_assoc]
  have hl : (padS l l.length).length / 64 = l.length / 64 + (padS (restS l) l.length).length / 64 := by
    rw [hp]
    have : l.length ≤ (padS l l.length).length := by simp only [padS, List.length_append]; omega
    simp only [List.length_drop]; omega
  have he : eatenS l = eatS h0S (padS l l.length) (l.length / 64) := by
    simp only [eatenS, padS]
    rw [List.append_assoc, eatS_app h0S l _ _ (by omega)]
  simp only [shaL, finS]
  rw [hl, ← eatS_add, ← he, ← hp]

noncomputable def G93 : GFun
  | [], [.t .nilp] => some ([], .t (.ba 32 (shaL [])))
  | [.bx (.t (.st [.ar 8 1 xs, .by r, .int .u64 n]))], [.ptr 0 0 []] => G93r [.bx (.t (.st [.ar 8 1 xs, .by r, .int .u64 n]))] [.ptr 0 0 []]
  | _, _ => none

theorem sum_c (l : List UInt8) (h : l.length ≤ 1000000000000) :
    G93r [.bx (.t (.st [.ar 8 1 ((eatenS l).l.map u32T), .by (restS l), .int .u64 (l.length : Int)]))] [.ptr 0 0 []] = some ([msgB l], .t (.ba 32 (shaL l))) := by
  simp only [G93r, asS8_map]
  rw [if_pos ⟨by omega, by omega, restS_len l⟩, Int.toNat_natCast, fin_c]
theorem sum_0 : G93r [.bx (.t (.st [.ar 8 1 (hS.map u32T), .by [], .int .u64 0]))] [.ptr 0 0 []] = some ([.bx (.t (.st [.ar 8 1 (hS.map u32T), .by [], .int .u64 0]))], .t (.ba 32 (shaL []))) := sum_c [] (by simp)

theorem ct93b : CT [(91, ⟨[], treeG F91⟩), (93, ⟨[true], G93r⟩), (114, ⟨[true, false], G114⟩)] [0, 2, 3, 4, 5, 6, 7, 8, 9, 10, 12, 27, 37, 53, 59, 60, 61, 64, 65] [] := ⟨(.cons c91.g (.cons g93r (.cons g114 (.nil _))))⟩

noncomputable def G93n : GFun
  | [], [.t .nilp] => some ([], .t (.ba 32 (shaL [])))
  | _, _ => none

theorem g93n : GCon Try.prog 93 G93n := by
  refine gconc E_ok (rs := [.cell 2 25]) Try.func93 rfl Try.ntmps93 (by kernel_rfl) rfl (by decide) G93n (np := 1) ?_ ?_
  · intro HB xs h; unfold G93n; split <;> first | rfl | (simp at h; done)
  intro HB xs H r hG hwf hex
  unfold G93n at hG
  split at hG <;> try (cases hG; done)
  
  cases hG
  repeat refine St (And.intro @F91.eq_def <| And.intro (And.intro @gentry.eq_1 <| @gentry.eq_2) <| @sum_0) ct93b ?_
  exact AWP.ret (Fin trivial [] [])


theorem g93 : GCon Try.prog 93 G93 := by
  refine ⟨g93r.1, fun HB xs H' r hG => ?_⟩
  unfold G93 at hG
  split at hG
  · exact g93n.2 [] [.t .nilp] H' r hG
  · exact g93r.2 _ _ H' r hG
  · cases hG

end Go.Fw

end

section
/- Chapter 7: Sum, Double, Tagged. -/
namespace Go.Fw
open Go Go.Proofs
set_option linter.unusedVariables false
set_option linter.unusedSimpArgs false

theorem shaL_len (l : List UInt8) : (shaL l).length = 32 := by simp [shaL, finS, outS]

noncomputable def F69 : Fun
  | [.by b] => if b.length ≤ 1000000000 then some ([], .t (.ba 32 (shaL b))) else none
  | _ => none

theorem ct69 : CT [(91, ⟨[], treeG F91⟩), (92, ⟨[true, false], G92⟩), (93, ⟨[true], G93⟩)] [0, 2, 3] [] := ⟨(.cons c91.g (.cons g92 (.cons g93 (.nil _))))⟩

theorem msg_0 : msgB [] = .bx (.t (.st [.ar 8 1 (hS.map u32T), .by [], .int .u64 0])) := rfl

theorem c69 : ACon Try.prog 69 F69 := by
  refine aconc E_ok (rs := [.cell 2 25]) Try.func69 rfl Try.ntmps69 (by kernel_rfl) rfl (by decide) F69 (np := 1) ?_ ?_
  · intro ts h; unfold F69; split <;> first | rfl | (simp at h; done)
  intro ts H r hF hwf
  unfold F69 at hF
  split at hF <;> try (cases hF; done)
  rename_i b
  split at hF
  case isFalse => cases hF
  rename_i hb
  cases hF
  have hw : G92 [.bx (.t (.st [.ar 8 1 (hS.map u32T), .by [], .int .u64 0]))] [.ptr 0 0 [], .t (.by b)] = some ([msgB b], .tup []) := write_c [] b (by simp) hb
  have hs : G93 [msgB b] [.ptr 0 0 []] = some ([msgB b], .t (.ba 32 (shaL b))) := sum_c b (by omega)
  repeat refine St (And.intro @F91.eq_def <| hw) ct69 ?_
  repeat refine St hs ct69 ?_
  exact AWP.ret (Fin trivial [] [])

theorem shasum_c {b : List UInt8} (h : b.length ≤ 1000000000) : F69 [.by b] = some ([], .t (.ba 32 (shaL b))) := if_pos h

noncomputable def F40 : Fun
  | [.by b] => if b.length ≤ 1000000000 then some ([], .t (.ba 32 (shaL (shaL b)))) else none
  | _ => none

theorem ct40 : CT [(69, ⟨[false], treeG F69⟩)] [0, 2, 3] [] := ⟨(.cons c69.g (.nil _))⟩

theorem c40 : ACon Try.prog 40 F40 := by
  refine aconc E_ok (rs := [.cell 2 25]) Try.func40 rfl Try.ntmps40 (by kernel_rfl) rfl (by decide) F40 (np := 1) ?_ ?_
  · intro ts h; unfold F40; split <;> first | rfl | (simp at h; done)
  intro ts H r hF hwf
  unfold F40 at hF
  split at hF <;> try (cases hF; done)
  rename_i b
  split at hF
  case isFalse => cases hF
  rename_i hb
  cases hF
  have h1 := shasum_c hb
  have hl := shaL_len b
  have h2 : F69 [.by (shaL b)] = some ([], .t (.ba 32 (shaL (shaL b)))) := shasum_c (by omega)
  generalize shaL (shaL b) = y at *
  obtain ⟨x, hx⟩ : ∃ x, shaL b = x := ⟨_, rfl⟩
  rw [hx] at h1 hl h2
  have ht : x.take 32 = x := List.take_of_length_le (by omega)
  repeat refine St (And.intro h1 <| And.intro hl <| And.intro h2 <| ht) ct40 ?_
  exact AWP.ret (Fin trivial [] [])

/-- The hash of bytes behind a tag. -/
def tagL (tag b : List UInt8) : List UInt8 := shaL (shaL tag ++ shaL tag ++ b)

theorem write_c' {l b : List UInt8} (h : l.length ≤ 1000000000000) (hb : b.length ≤ 1000000000) :
    G92 [msgB l] [.ptr 0 0 [], .t (.by b)] = some ([msgB (l ++ b)], .tup []) := write_c l b h hb

end Go.Fw

end

section
/- tx: the forms. -/
namespace Go.Fw
open Go Go.Proofs
set_option linter.unusedVariables false
set_option linter.unusedSimpArgs false

theorem take32 (h : H32) : h.1.take 32 = h.1 := List.take_of_length_le (by rw [h.2]; omega)
theorem put32_t (b : List UInt8) (n : UInt32) (h : b.length ≤ 549755812000) : F38 [.by b, .int .u32 (n.toNat : Int)] = some ([.by (b ++ le 4 (n.toNat : Int))], .own 0) := put32_c _ h
theorem put64_t (b : List UInt8) (n : UInt64) (h : b.length ≤ 549755812000) : F83 [.by b, .int .u64 (n.toNat : Int)] = some ([.by (b ++ le 8 (n.toNat : Int))], .own 0) := put64_c _ h
theorem putsize_t (b : List UInt8) (n : Int) (h : b.length ≤ 549755812000) : F42 [.by b, .int .u64 n] = some ([.by (b ++ sizeB n)], .own 0) := if_pos h
theorem putbytes_t (b x : List UInt8) (h : b.length + x.length ≤ 549755800000) : F84 [.by b, .by x] = some ([.by (b ++ sizeB x.length ++ x)], .own 0) := if_pos h

noncomputable def F55 : Fun
  | [y] => match inv txT y with
    | some t => @ite _ (countsB t = true) (Classical.propDecidable _) (some ([.by (bareB t)], .own 0)) none
    | none => none
  | _ => none

theorem ct55 : CT [(38, ⟨[false, false], treeG F38⟩), (42, ⟨[false, false], treeG F42⟩), (83, ⟨[false, false], treeG F83⟩), (84, ⟨[false, false], treeG F84⟩)] [0, 1, 2, 3, 5, 7, 18, 19, 20, 21, 46, 47, 48, 49] [] := ⟨(.cons c38.g (.cons c42.g (.cons c83.g (.cons c84.g (.nil _)))))⟩

theorem scr_cat (l : List TOut) (k : Nat) (h : ∀ x ∈ l, x.scr.length ≤ 1000) (hl : l.length ≤ 20) : (cat tOutB (l.take k)).length ≤ 20340 := by
  have h1 := cat_take_le tOutB l k
  have h2 := cat_len tOutB 1017 l (fun x hx => by
    have b1 := h x hx
    have b2 := sizeB_len (x.scr.length : Int)
    simp only [tOutB, List.length_append, le_len]; omega)
  omega

set_option maxHeartbeats 2000000 in
theorem c55 : ACon Try.prog 55 F55 := by
  refine aconc E_ok (rs := [.tmp 2 22]) Try.func55 rfl Try.ntmps55 (by kernel_rfl) rfl (by decide) F55 (np := 1) ?_ ?_
  · intro ts h; unfold F55; split <;> first | rfl | (simp at h; done)
  intro ts H r hF hwf
  unfold F55 at hF
  split at hF <;> try (cases hF; done)
  split at hF <;> try (cases hF; done)
  rename_i t ht
  split at hF
  case isFalse => cases hF
  rename_i hc
  have hc := hc
  cases hF
  obtain rfl := inv_inv ht
  obtain ⟨c1, c2, c3, c4⟩ := countsB_ok hc
  obtain ⟨v, is, os, k⟩ := t
  dsimp only at c1 c2 c3 c4
  have hp := put32_t [] v (by simp)
  have hs := putsize_t (le 4 (v.toNat : Int)) is.length (by simp [le_len])
  simp only [List.nil_append] at hp
  have hw : IntKind.u64.wrap (is.length : Int) = (is.length : Int) := wrap_u64 (by omega) (by omega)
  have hw2 : IntKind.u64.wrap (os.length : Int) = (os.length : Int) := wrap_u64 (by omega) (by omega)
  have hsl := sizeB_len (is.length : Int)
  have hsl2 := sizeB_len (os.length : Int)
  repeat refine St (And.intro @txT.eq_def <| And.intro hp <| And.intro hs <| hw) ct55 ?_
  refine AWP.loop (G := { i : Nat // i ≤ is.length }) (fun i => ⟨[(1, .ptr 0 0 []), (3, .own 1), (18, .t (.sq 35 (is.map inT))), (19, .t (.int .i64 (is.length : Int))), (20, .t (.int .i64 (i.1 : Int)))], [.bx (.t (txT ⟨v, is, os, k⟩)), .by (le 4 (v.toNat : Int) ++ sizeB is.length ++ cat tInB (is.take i.1))]⟩) (fun i => is.length - i.1) ⟨0, by omega⟩ (Wt (And.intro @txT.eq_def <| And.intro @cat_nil <| @List.take_zero.{0}) [1, 3, 18, 19, 20] [0, 2]) ?_
  intro ⟨i, hi⟩
  dsimp only
  have hcl := cat_in_len (is.take i)
  have hil : (is.take i).length = i := by simp; omega
  have h4 := le_len 4 (v.toNat : Int)
  by_cases hlt : (i : Int) < (is.length : Int)
  · have hlt' : i < is.length := by omega
    have hget := in_getD is i hlt'
    have hcat := cat_take tInB dIn is i hlt'
    generalize is.getD i dIn = x at *
    have hbl : (le 4 (v.toNat : Int) ++ sizeB is.length ++ cat tInB (is.take i)).length ≤ 2000 := by simp only [List.length_append]; omega
    have p1 := put32_t (le 4 (v.toNat : Int) ++ sizeB is.length ++ cat tInB (is.take i) ++ x.prev.1) x.idx (by rw [List.length_append, x.prev.2]; omega)
    have p2 := put32_t (le 4 (v.toNat : Int) ++ sizeB is.length ++ cat tInB (is.take i) ++ x.prev.1 ++ le 4 (x.idx.toNat : Int)) x.seq (by rw [List.length_append, List.length_append, x.prev.2, le_len]; omega)
    have h32 := x.prev.2
    have htk := take32 x.prev
    have hin : tInB x = x.prev.1 ++ le 4 (x.idx.toNat : Int) ++ le 4 (x.seq.toNat : Int) := rfl
    repeat refine St (And.intro hlt <| And.intro hlt' <| And.intro hget <| And.intro @inT.eq_def <| And.intro @refT.eq_def <| And.intro @txT.eq_def <| And.intro h32 <| And.intro htk <| And.intro hbl <| And.intro p1 <| p2) ct55 ?_
    exact ⟨⟨i + 1, by omega⟩, (Wt (And.intro @txT.eq_def <| And.intro hcat <| And.intro hin <| @List.append_assoc.{0}) [1, 3, 18, 19, 20] [0, 5]), by simp only; omega⟩
  obtain rfl : i = is.length := by omega
  rw [List.take_length]
  rw [List.take_length] at hcl
  obtain ⟨A, hA⟩ : ∃ A, le 4 (v.toNat : Int) ++ sizeB is.length ++ cat tInB is = A := ⟨_, rfl⟩
  have hAl : A.length ≤ 2000 := by rw [← hA]; simp only [List.length_append]; omega
  rw [hA]
  have hps := putsize_t A os.length (by omega)
  repeat refine St (And.intro hlt <| And.intro @txT.eq_def <| And.intro hps <| hw2) ct55 ?_
  refine AWP.loop (G := { i : Nat // i ≤ os.length }) (fun i => ⟨[(1, .ptr 0 0 []), (3, .own 1), (46, .t (.sq 2 (os.map outT))), (47, .t (.int .i64 (os.length : Int))), (48, .t (.int .i64 (i.1 : Int)))], [.bx (.t (txT ⟨v, is, os, k⟩)), .by (A ++ sizeB os.length ++ cat tOutB (os.take i.1))]⟩) (fun i => os.length - i.1) ⟨0, by omega⟩ (Wt (And.intro @txT.eq_def <| And.intro @cat_nil <| @List.take_zero.{0}) [1, 3, 46, 47, 48] [0, 2]) ?_
  intro ⟨i, hi⟩
  dsimp only
  have hcl2 := scr_cat os i c3 c2
  by_cases hlt : (i : Int) < (os.length : Int)
  · have hlt' : i < os.length := by omega
    have hget := out_getD os i hlt'
    have hcat := cat_take tOutB dOut os i hlt'
    have hscr : (os.getD i dOut).scr.length ≤ 1000 := c3 _ (by simp [hlt'])
    generalize os.getD i dOut = x at *
    have p1 := put64_t (A ++ sizeB os.length ++ cat tOutB (os.take i)) x.val (by simp only [List.length_append]; omega)
    have p2 := putbytes_t (A ++ sizeB os.length ++ cat tOutB (os.take i) ++ le 8 (x.val.toNat : Int)) x.scr (by simp only [List.length_append, le_len]; omega)
    have hin : tOutB x = le 8 (x.val.toNat : Int) ++ (sizeB x.scr.length ++ x.scr) := rfl
    repeat refine St (And.intro hlt <| And.intro hlt' <| And.intro hget <| And.intro @outT.eq_def <| And.intro @txT.eq_def <| And.intro p1 <| p2) ct55 ?_
    exact ⟨⟨i + 1, by omega⟩, (Wt (And.intro @txT.eq_def <| And.intro hcat <| And.intro hin <| @List.append_assoc.{0}) [1, 3, 46, 47, 48] [0, 4]), by simp only; omega⟩
  obtain rfl : i = os.length := by omega
  rw [List.take_length]
  rw [List.take_length] at hcl2
  have p1 := put32_t (A ++ sizeB os.length ++ cat tOutB os) k (by simp only [List.length_append]; omega)
  have hb : bareB ⟨v, is, os, k⟩ = A ++ sizeB os.length ++ cat tOutB os ++ le 4 (k.toNat : Int) := by unfold bareB; rw [← hA]
  repeat refine St (And.intro hlt <| And.intro @txT.eq_def <| p1) ct55 ?_
  exact AWP.ret (Fin hb [] [2])

end Go.Fw

end

section
/- tx: the whole form, whether it fits, names, weights. -/
namespace Go.Fw
open Go Go.Proofs
set_option linter.unusedVariables false
set_option linter.unusedSimpArgs false

noncomputable def F75 : Fun
  | [y] => match inv txT y with
    | some t => @ite _ (countsB t = true) (Classical.propDecidable _) (some ([.by (wholeB t)], .own 0)) none
    | none => none
  | _ => none

theorem ct75 : CT [(55, ⟨[false], treeG F55⟩), (99, ⟨[false, false], treeG F99⟩)] [0, 1, 2, 3, 5, 9, 10, 11, 12] [] := ⟨(.cons c55.g (.cons c99.g (.nil _)))⟩

theorem bare_c {t : TTx} (h : countsB t = true) : F55 [txT t] = some ([.by (bareB t)], .own 0) := by
  simp only [F55, inv_of txT_inj]; exact if_pos h

set_option maxHeartbeats 1000000 in
theorem c75 : ACon Try.prog 75 F75 := by
  refine aconc E_ok (rs := [.tmp 2 22]) Try.func75 rfl Try.ntmps75 (by kernel_rfl) rfl (by decide) F75 (np := 1) ?_ ?_
  · intro ts h; unfold F75; split <;> first | rfl | (simp at h; done)
  intro ts H r hF hwf
  unfold F75 at hF
  split at hF <;> try (cases hF; done)
  split at hF <;> try (cases hF; done)
  rename_i t ht
  split at hF
  case isFalse => cases hF
  rename_i hc
  have hc := hc
  cases hF
  obtain rfl := inv_inv ht
  have hb := bare_c hc
  obtain ⟨hbl, hwl⟩ := counts_len hc
  have hcw : ∀ i, (cat witB (t.ins.take i)).length ≤ (wholeB t).length := fun i => by
    have := cat_take_le witB t.ins i
    unfold wholeB; rw [List.length_append]; omega
  have hwh : wholeB t = bareB t ++ cat witB t.ins := rfl
  obtain ⟨c1, c2, c3, c4⟩ := countsB_ok hc
  generalize bareB t = B at *
  generalize wholeB t = W0 at *
  obtain ⟨v, is, os, k⟩ := t
  dsimp only at c1 c2 c3 c4 hcw hwh
  have hyu : txT ⟨v, is, os, k⟩ = .st [.int .u32 (v.toNat : Int), .sq 35 (is.map inT), .sq 2 (os.map outT), .int .u32 (k.toNat : Int)] := rfl
  rw [hyu] at hb
  rw [hyu]
  repeat refine St hb ct75 ?_
  refine AWP.loop (G := { i : Nat // i ≤ is.length }) (fun i => ⟨[(3, .own 0), (9, .t (.sq 35 (is.map inT))), (10, .t (.int .i64 (is.length : Int))), (11, .t (.int .i64 (i.1 : Int)))], [.by (B ++ cat witB (is.take i.1))]⟩) (fun i => is.length - i.1) ⟨0, by omega⟩ (Wt (And.intro @cat_nil <| @List.take_zero.{0}) [3, 9, 10, 11] [1]) ?_
  intro ⟨i, hi⟩
  dsimp only
  have hci := hcw i
  by_cases hlt : (i : Int) < (is.length : Int)
  · have hlt' : i < is.length := by omega
    have hget := in_getD is i hlt'
    have hcat := cat_take witB dIn is i hlt'
    have hwx := c4 (is.getD i dIn) (by simp [hlt'])
    generalize is.getD i dIn = x at *
    have hfx := flat_le 1000 x.wit hwx.2
    have hfx2 : (flat x.wit).length ≤ 30 * 1009 := Nat.le_trans hfx (Nat.mul_le_mul_right _ hwx.1)
    have p1 := putlist_c (b := B ++ cat witB (is.take i)) (l := x.wit) (by simp only [List.length_append]; omega)
    have hin : witB x = sizeB x.wit.length ++ flat x.wit := rfl
    repeat refine St (And.intro hlt <| And.intro hlt' <| And.intro hget <| And.intro @inT.eq_def <| And.intro @refT.eq_def <| p1) ct75 ?_
    exact ⟨⟨i + 1, by omega⟩, (Wt (And.intro hcat <| And.intro hin <| @List.append_assoc.{0}) [3, 9, 10, 11] [2]), by simp only; omega⟩
  obtain rfl : i = is.length := by omega
  rw [List.take_length]
  repeat refine St hlt ct75 ?_
  exact AWP.ret (Fin hwh [] [0])

theorem whole_c {t : TTx} (h : countsB t = true) : F75 [txT t] = some ([.by (wholeB t)], .own 0) := by
  simp only [F75, inv_of txT_inj]; exact if_pos h

def F97 : Fun
  | [.by b] => some ([], .t (.bool (longB b)))
  | _ => none

theorem ct97 : CT [] [0, 2] [] := ⟨GClOk.nil _⟩

theorem c97 : ACon Try.prog 97 F97 := by
  refine aconc E_ok (rs := [.tmp 2 4]) Try.func97 rfl Try.ntmps97 (by kernel_rfl) rfl (by decide) F97 (np := 1) ?_ ?_
  · intro ts h; unfold F97; split <;> first | rfl | (simp at h; done)
  intro ts H r hF hwf
  unfold F97 at hF
  split at hF <;> try (cases hF; done)
  rename_i b
  cases hF
  have h : longB b = decide (1000 < (b.length : Int)) := rfl
  repeat refine St trivial ct97 ?_
  exact AWP.ret (Fin h [] [])

theorem long_c (b : List UInt8) : F97 [.by b] = some ([], .t (.bool (longB b))) := rfl

def F116 : Fun
  | [.sq 1 xs, .fn f] => match asBys xs with
    | some l => if f = 97 then some ([], .t (.int .i64 (fstI longB l 0))) else none
    | none => none
  | _ => none

theorem ct116 : CT [(97, ⟨[false], treeG F97⟩)] [0, 1, 4, 5, 7, 8, 9, 16] [] := ⟨(.cons c97.g (.nil _))⟩

theorem c116 : ACon Try.prog 116 F116 := by
  refine aconc E_ok (rs := [.tmp 4 3]) Try.func116 rfl Try.ntmps116 (by kernel_rfl) rfl (by decide) F116 (np := 2) ?_ ?_
  · intro ts h; unfold F116; split <;> first | rfl | (simp at h; done)
  intro ts H r hF hwf
  unfold F116 at hF
  split at hF <;> try (cases hF; done)
  split at hF <;> try (cases hF; done)
  rename_i l hl
  split at hF
  case isFalse => cases hF
  rename_i hc
  have hf := hc
  cases hF
  obtain rfl := asBys_inv hl
  subst hf
  obtain ⟨R, hR⟩ : ∃ R, fstI longB l 0 = R := ⟨_, rfl⟩
  rw [hR]
  have hg : l.length ≤ maxLen := wf_rows (hwf (.sq 1 (l.map .by)) (by simp))
  unfold maxLen at hg
  repeat refine St trivial ct116 ?_
  refine AWP.loop (G := { i : Nat // i ≤ l.length ∧ fstI longB (l.drop i) i = R }) (fun i => ⟨[(0, .t (.sq 1 (l.map .by))), (1, .t (.fn 97)), (7, .t (.int .i64 (l.length : Int))), (8, .t (.int .i64 (i.1 : Int)))], []⟩) (fun i => l.length - i.1) ⟨0, by omega, by simpa using hR⟩ (Wt trivial [0, 1, 7, 8] []) ?_
  intro ⟨i, hi, hRi⟩
  dsimp only
  by_cases hlt : (i : Int) < (l.length : Int)
  · have hlt' : i < l.length := by omega
    have hget := map_getD l i hlt'
    have hl1 := long_c (l.getD i [])
    by_cases hb : longB (l.getD i []) = true
    · rw [fstI_yes longB [] l i hlt' hb] at hRi
      rw [hb] at hl1
      repeat refine St (And.intro hlt <| And.intro hlt' <| And.intro hget <| hl1) ct116 ?_
      exact AWP.ret (Fin hRi [] [])
    · have hb' : longB (l.getD i []) = false := by simpa using hb
      rw [fstI_no longB [] l i hlt' hb'] at hRi
      rw [hb'] at hl1
      repeat refine St (And.intro hlt <| And.intro hlt' <| And.intro hget <| hl1) ct116 ?_
      exact ⟨⟨i + 1, by omega, hRi⟩, (Wt trivial [0, 1, 7, 8] []), by simp only; omega⟩
  obtain rfl : i = l.length := by omega
  rw [fstI_end] at hRi
  repeat refine St hlt ct116 ?_
  exact AWP.ret (Fin hRi [] [])

def F98 : Fun
  | [.sq 1 xs, .fn f] => match asBys xs with
    | some l => if f = 97 then some ([], .t (.bool (l.any longB))) else none
    | none => none
  | _ => none

theorem ct98 : CT [(116, ⟨[false, false], treeG F116⟩)] [0, 1, 4] [] := ⟨(.cons c116.g (.nil _))⟩

theorem c98 : ACon Try.prog 98 F98 := by
  refine aconc E_ok (rs := [.tmp 4 4]) Try.func98 rfl Try.ntmps98 (by kernel_rfl) rfl (by decide) F98 (np := 2) ?_ ?_
  · intro ts h; unfold F98; split <;> first | rfl | (simp at h; done)
  intro ts H r hF hwf
  unfold F98 at hF
  split at hF <;> try (cases hF; done)
  split at hF <;> try (cases hF; done)
  rename_i l hl
  split at hF
  case isFalse => cases hF
  rename_i hc
  have hf := hc
  cases hF
  obtain rfl := asBys_inv hl
  subst hf
  have h1 : F116 [.sq 1 (l.map .by), .fn 97] = some ([], .t (.int .i64 (fstI longB l 0))) := by
    simp only [F116, asBys_map]; first | exact if_pos rfl | exact if_pos trivial
  have h2 := fstI_any longB l 0
  repeat refine St h1 ct98 ?_
  exact AWP.ret (Fin h2 [] [])

theorem contains_c (l : List (List UInt8)) : F98 [.sq 1 (l.map .by), .fn 97] = some ([], .t (.bool (l.any longB))) := by
  simp only [F98, asBys_map]; first | exact if_pos rfl | exact if_pos trivial

noncomputable def F74 : Fun
  | [y] => match inv txT y with
    | some t => some ([], .t (.bool (countsB t)))
    | none => none
  | _ => none

theorem ct74 : CT [(97, ⟨[false], treeG F97⟩), (98, ⟨[false, false], treeG F98⟩)] [0, 1, 2, 4, 6, 16, 18, 19, 20, 21, 26, 29, 30, 31, 32, 43] [] := ⟨(.cons c97.g (.cons c98.g (.nil _)))⟩

set_option maxHeartbeats 1000000 in
theorem c74 : ACon Try.prog 74 F74 := by
  refine aconc E_ok (rs := [.tmp 2 4]) Try.func74 rfl Try.ntmps74 (by kernel_rfl) rfl (by decide) F74 (np := 1) ?_ ?_
  · intro ts h; unfold F74; split <;> first | rfl | (simp at h; done)
  intro ts H r hF hwf
  unfold F74 at hF
  split at hF <;> try (cases hF; done)
  split at hF <;> try (cases hF; done)
  rename_i t ht
  cases hF
  obtain rfl := inv_inv ht
  have hcb := countsB_eq t
  obtain ⟨c, hc⟩ : ∃ c, countsB t = c := ⟨_, rfl⟩
  rw [hc] at hcb
  rw [hc]
  obtain ⟨v, is, os, k⟩ := t
  dsimp only at hcb
  have hyu : txT ⟨v, is, os, k⟩ = .st [.int .u32 (v.toNat : Int), .sq 35 (is.map inT), .sq 2 (os.map outT), .int .u32 (k.toNat : Int)] := rfl
  rw [hyu]
  by_cases h1 : 20 < (is.length : Int)
  · have e : c = false := by rw [hcb]; have : ¬ is.length ≤ 20 := by omega
                             simp [this]
    subst e
    repeat refine St h1 ct74 ?_
    exact AWP.ret (Fin trivial [] [])
  by_cases h2 : 20 < (os.length : Int)
  · have e : c = false := by rw [hcb]; have : ¬ os.length ≤ 20 := by omega
                             simp [this]
    subst e
    repeat refine St (And.intro h1 <| h2) ct74 ?_
    exact AWP.ret (Fin trivial [] [])
  have hcb' : c = (os.all scrOk && is.all witOk) := by
    rw [hcb]
    have e1 : is.length ≤ 20 := by omega
    have e2 : os.length ≤ 20 := by omega
    simp [e1, e2]
  repeat refine St (And.intro h1 <| h2) ct74 ?_
  refine AWP.loop (G := { i : Nat // i ≤ os.length ∧ (os.take i).all scrOk = true }) (fun i => ⟨[(1, .ptr 0 0 []), (18, .t (.sq 2 (os.map outT))), (19, .t (.int .i64 (os.length : Int))), (20, .t (.int .i64 (i.1 : Int)))], [.bx (.t (.st [.int .u32 (v.toNat : Int), .sq 35 (is.map inT), .sq 2 (os.map outT), .int .u32 (k.toNat : Int)]))]⟩) (fun i => os.length - i.1) ⟨0, by omega, rfl⟩ (Wt trivial [1, 18, 19, 20] [0]) ?_
  intro ⟨i, hi, ha⟩
  dsimp only
  by_cases hlt : (i : Int) < (os.length : Int)
  · have hlt' : i < os.length := by omega
    have hget := out_getD os i hlt'
    have hal := all_take scrOk dOut os i hlt'
    have hbad := all_getD scrOk dOut os i hlt'
    have hx := scrOk_long (os.getD i dOut)
    generalize os.getD i dOut = x at *
    have hl1 := long_c x.scr
    by_cases hb : longB x.scr = true
    · rw [hb] at hl1 hx
      have e : c = false := by rw [hcb', hbad hx]; rfl
      subst e
      repeat refine St (And.intro hlt <| And.intro hlt' <| And.intro hget <| And.intro @outT.eq_def <| hl1) ct74 ?_
      exact AWP.ret (Fin trivial [] [])
    · have hb' : longB x.scr = false := by simpa using hb
      rw [hb'] at hl1 hx
      rw [ha, hx] at hal
      repeat refine St (And.intro hlt <| And.intro hlt' <| And.intro hget <| And.intro @outT.eq_def <| hl1) ct74 ?_
      exact ⟨⟨i + 1, by omega, by rw [hal]; rfl⟩, (Wt trivial [1, 18, 19, 20] [0]), by simp only; omega⟩
  obtain rfl : i = os.length := by omega
  rw [List.take_length] at ha
  rw [ha, Bool.true_and] at hcb'
  repeat refine St hlt ct74 ?_
  refine AWP.loop (G := { i : Nat // i ≤ is.length ∧ (is.take i).all witOk = true }) (fun i => ⟨[(29, .t (.sq 35 (is.map inT))), (30, .t (.int .i64 (is.length : Int))), (31, .t (.int .i64 (i.1 : Int)))], []⟩) (fun i => is.length - i.1) ⟨0, by omega, rfl⟩ (Wt trivial [29, 30, 31] []) ?_
  intro ⟨i, hi, hai⟩
  dsimp only
  by_cases hlti : (i : Int) < (is.length : Int)
  · have hlt' : i < is.length := by omega
    have hget := in_getD is i hlt'
    have hal := all_take witOk dIn is i hlt'
    have hbad := all_getD witOk dIn is i hlt'
    have hx := witOk_long (is.getD i dIn)
    generalize is.getD i dIn = x at *
    have hl1 := contains_c x.wit
    by_cases h30 : 30 < (x.wit.length : Int)
    · have e : c = false := by rw [hcb', hbad (by rw [hx]; simp [h30])]
      subst e
      repeat refine St (And.intro hlti <| And.intro hlt' <| And.intro hget <| And.intro @inT.eq_def <| And.intro @refT.eq_def <| h30) ct74 ?_
      exact AWP.ret (Fin trivial [] [])
    have h30' : decide (30 < (x.wit.length : Int)) = false := decide_eq_false h30
    by_cases hb : x.wit.any longB = true
    · rw [hb] at hl1 hx
      have e : c = false := by rw [hcb', hbad (by rw [hx]; simp)]
      subst e
      repeat refine St (And.intro hlti <| And.intro hlt' <| And.intro hget <| And.intro @inT.eq_def <| And.intro @refT.eq_def <| And.intro h30 <| hl1) ct74 ?_
      exact AWP.ret (Fin trivial [] [])
    · have hb' : x.wit.any longB = false := by simpa using hb
      rw [hb'] at hl1 hx
      rw [hai, hx, h30'] at hal
      repeat refine St (And.intro hlti <| And.intro hlt' <| And.intro hget <| And.intro @inT.eq_def <| And.intro @refT.eq_def <| And.intro h30 <| hl1) ct74 ?_
      exact ⟨⟨i + 1, by omega, by rw [hal]; rfl⟩, (Wt trivial [29, 30, 31] []), by simp only; omega⟩
  obtain rfl : i = is.length := by omega
  rw [List.take_length] at hai
  rw [hai] at hcb'
  subst hcb'
  repeat refine St hlti ct74 ?_
  exact AWP.ret (Fin trivial [] [])

theorem counts_c (t : TTx) : F74 [txT t] = some ([], .t (.bool (countsB t))) := by
  simp only [F74, inv_of txT_inj]

noncomputable def F43 : Fun
  | [y] => match inv txT y with
    | some t => some ([], .t (.int .i64 (chkE t)))
    | none => none
  | _ => none

theorem ct43 : CT [(74, ⟨[false], treeG F74⟩), (75, ⟨[false], treeG F75⟩)] [0, 1, 2, 11] [] := ⟨(.cons c74.g (.cons c75.g (.nil _)))⟩

theorem chk_cases (t : TTx) : (countsB t = false ∧ chkE t = 4) ∨ (countsB t = true ∧ 12000 < (wholeB t).length ∧ chkE t = 4) ∨ (countsB t = true ∧ (wholeB t).length ≤ 12000 ∧ chkE t = 0) := by
  unfold chkE fitsB
  cases countsB t
  · exact .inl ⟨rfl, rfl⟩
  · rcases Nat.lt_or_ge 12000 (wholeB t).length with h | h
    · refine .inr (.inl ⟨rfl, h, ?_⟩)
      have : ¬ (wholeB t).length ≤ 12000 := by omega
      simp [this]
    · refine .inr (.inr ⟨rfl, h, ?_⟩)
      have : (wholeB t).length ≤ 12000 := by omega
      simp [this]

theorem txT_st (t : TTx) : txT t = .st [.int .u32 (t.ver.toNat : Int), .sq 35 (t.ins.map inT), .sq 2 (t.outs.map outT), .int .u32 (t.lock.toNat : Int)] := rfl
theorem c43 : ACon Try.prog 43 F43 := by
  refine aconc E_ok (rs := [.tmp 2 31]) Try.func43 rfl Try.ntmps43 (by kernel_rfl) rfl (by decide) F43 (np := 1) ?_ ?_
  · intro ts h; unfold F43; split <;> first | rfl | (simp at h; done)
  intro ts H r hF hwf
  unfold F43 at hF
  split at hF <;> try (cases hF; done)
  split at hF <;> try (cases hF; done)
  rename_i t ht
  cases hF
  obtain rfl := inv_inv ht
  have h1 := counts_c t
  rcases chk_cases t with ⟨e1, e2⟩ | ⟨e1, e2, e3⟩ | ⟨e1, e2, e3⟩
  · rw [e1] at h1
    rw [txT_st] at h1 ⊢
    repeat refine St h1 ct43 ?_
    exact AWP.ret (Fin e2 [] [])
  · have h2 := whole_c e1
    rw [e1] at h1
    rw [txT_st] at h1 h2 ⊢
    generalize wholeB t = w0 at *
    have h3 : 12000 < (w0.length : Int) := by omega
    repeat refine St (And.intro h1 <| And.intro h2 <| h3) ct43 ?_
    exact AWP.ret (Fin e3 [] [])
  · have h2 := whole_c e1
    rw [e1] at h1
    rw [txT_st] at h1 h2 ⊢
    generalize wholeB t = w0 at *
    have h3 : ¬ 12000 < (w0.length : Int) := by omega
    repeat refine St (And.intro h1 <| And.intro h2 <| h3) ct43 ?_
    exact AWP.ret (Fin e3 [] [])

theorem check_c (t : TTx) : F43 [txT t] = some ([], .t (.int .i64 (chkE t))) := by
  simp only [F43, inv_of txT_inj]

theorem chk_two (t : TTx) : (chkE t = 0 ∧ countsB t = true ∧ (wholeB t).length ≤ 12000) ∨ (chkE t = 4 ∧ fitsB t = false) := by
  rcases chk_cases t with ⟨e1, e2⟩ | ⟨e1, e2, e3⟩ | ⟨e1, e2, e3⟩
  · exact .inr ⟨e2, by simp [fitsB, e1]⟩
  · exact .inr ⟨e3, by have : ¬ (wholeB t).length ≤ 12000 := by omega
                       simp [fitsB, this]⟩
  · exact .inl ⟨e3, e1, e2⟩

/-- What a form is where it fits. -/
def barO (t : TTx) : List UInt8 := if fitsB t = true then bareB t else []
def whoO (t : TTx) : List UInt8 := if fitsB t = true then wholeB t else []
theorem fit_of {t : TTx} (h1 : countsB t = true) (h2 : (wholeB t).length ≤ 12000) : fitsB t = true := by simp [fitsB, h1, h2]

noncomputable def F44 : Fun
  | [y] => match inv txT y with
    | some t => some ([], .t (.by (whoO t)))
    | none => none
  | _ => none

theorem ct44 : CT [(43, ⟨[false], treeG F43⟩), (75, ⟨[false], treeG F75⟩)] [0, 1, 2, 5] [] := ⟨(.cons c43.g (.cons c75.g (.nil _)))⟩

theorem c44 : ACon Try.prog 44 F44 := by
  refine aconc E_ok (rs := [.tmp 2 22]) Try.func44 rfl Try.ntmps44 (by kernel_rfl) rfl (by decide) F44 (np := 1) ?_ ?_
  · intro ts h; unfold F44; split <;> first | rfl | (simp at h; done)
  intro ts H r hF hwf
  unfold F44 at hF
  split at hF <;> try (cases hF; done)
  split at hF <;> try (cases hF; done)
  rename_i t ht
  cases hF
  obtain rfl := inv_inv ht
  have h1 := check_c t
  rcases chk_two t with ⟨e1, e2, e3⟩ | ⟨e1, e2⟩
  · have h2 := whole_c e2
    have e4 : whoO t = wholeB t := if_pos (fit_of e2 e3)
    rw [e1] at h1
    rw [e4]
    rw [txT_st] at h1 h2 ⊢
    generalize wholeB t = w0 at *
    repeat refine St (And.intro h1 <| h2) ct44 ?_
    exact AWP.ret (Fin trivial [1] [])
  · have e4 : whoO t = [] := if_neg (by simp [e2])
    rw [e1] at h1
    rw [e4]
    rw [txT_st] at h1 ⊢
    repeat refine St h1 ct44 ?_
    exact AWP.ret (Fin trivial [] [])

theorem dbl_c {b : List UInt8} (h : b.length ≤ 1000000000) : F40 [.by b] = some ([], .t (.ba 32 (shaL (shaL b)))) := if_pos h
/-- The names of forms. -/
noncomputable def namO (t : TTx) : List UInt8 := if fitsB t = true then shaL (shaL (bareB t)) else zby 32
noncomputable def seaO (t : TTx) : List UInt8 := if fitsB t = true then shaL (shaL (wholeB t)) else zby 32
theorem namO_len (t : TTx) : (namO t).length = 32 := by unfold namO; split; exact shaL_len _; rfl
theorem seaO_len (t : TTx) : (seaO t).length = 32 := by unfold seaO; split; exact shaL_len _; rfl

noncomputable def F29 : Fun
  | [y] => match inv txT y with
    | some t => some ([], .t (.ba 32 (namO t)))
    | none => none
  | _ => none

theorem ct29 : CT [(40, ⟨[false], treeG F40⟩), (43, ⟨[false], treeG F43⟩), (55, ⟨[false], treeG F55⟩)] [0, 1, 2, 5] [] := ⟨(.cons c40.g (.cons c43.g (.cons c55.g (.nil _))))⟩

theorem c29 : ACon Try.prog 29 F29 := by
  refine aconc E_ok (rs := [.cell 2 25]) Try.func29 rfl Try.ntmps29 (by kernel_rfl) rfl (by decide) F29 (np := 1) ?_ ?_
  · intro ts h; unfold F29; split <;> first | rfl | (simp at h; done)
  intro ts H r hF hwf
  unfold F29 at hF
  split at hF <;> try (cases hF; done)
  split at hF <;> try (cases hF; done)
  rename_i t ht
  cases hF
  obtain rfl := inv_inv ht
  have h1 := check_c t
  rcases chk_two t with ⟨e1, e2, e3⟩ | ⟨e1, e2⟩
  · have h2 := bare_c e2
    have hl := counts_len e2
    have e4 : namO t = shaL (shaL (bareB t)) := if_pos (fit_of e2 e3)
    have h3 := dbl_c (b := bareB t) (by omega)
    rw [e1] at h1
    rw [e4]
    rw [txT_st] at h1 h2 ⊢
    generalize shaL (shaL (bareB t)) = x at *
    generalize bareB t = w0 at *
    repeat refine St (And.intro h1 <| And.intro h2 <| h3) ct29 ?_
    exact AWP.ret (Fin trivial [] [])
  · have e4 : namO t = zby 32 := if_neg (by simp [e2])
    rw [e1] at h1
    rw [e4]
    rw [txT_st] at h1 ⊢
    repeat refine St h1 ct29 ?_
    exact AWP.ret (Fin trivial [] [])

def weiO (t : TTx) : Int := if fitsB t = true then 3 * ((bareB t).length : Int) + ((wholeB t).length : Int) else 0
noncomputable def F51 : Fun
  | [y] => match inv txT y with
    | some t => some ([], .t (.int .i64 (weiO t)))
    | none => none
  | _ => none

theorem ct51 : CT [(43, ⟨[false], treeG F43⟩), (55, ⟨[false], treeG F55⟩), (75, ⟨[false], treeG F75⟩)] [0, 1, 2, 5] [(3, [⟨1, [1], [], []⟩, ⟨1, [6], [0], []⟩, ⟨1, [7], [0, 1], []⟩, ⟨0, [8], [0, 1, 2], []⟩, ⟨1, [1], [], []⟩, ⟨1, [10], [0, 1, 4], []⟩, ⟨1, [11], [0, 1, 4, 5], []⟩, ⟨0, [9, 12], [0, 1, 2, 4, 5, 6], []⟩, ⟨0, [13], [0, 1, 2, 4, 5, 6], []⟩])] := ⟨(.cons c43.g (.cons c55.g (.cons c75.g (.nil _))))⟩

theorem c51 : ACon Try.prog 51 F51 := by
  refine aconc E_ok (rs := [.tmp 2 3]) Try.func51 rfl Try.ntmps51 (by kernel_rfl) rfl (by decide) F51 (np := 1) ?_ ?_
  · intro ts h; unfold F51; split <;> first | rfl | (simp at h; done)
  intro ts H r hF hwf
  unfold F51 at hF
  split at hF <;> try (cases hF; done)
  split at hF <;> try (cases hF; done)
  rename_i t ht
  cases hF
  obtain rfl := inv_inv ht
  have h1 := check_c t
  rcases chk_two t with ⟨e1, e2, e3⟩ | ⟨e1, e2⟩
  · have h2 := whole_c e2
    have h3 := bare_c e2
    obtain ⟨hl1, hl2⟩ := counts_len e2
    have e4 : weiO t = 3 * ((bareB t).length : Int) + ((wholeB t).length : Int) := if_pos (fit_of e2 e3)
    rw [e1] at h1
    rw [e4]
    rw [txT_st] at h1 h2 h3 ⊢
    generalize wholeB t = w0 at *
    generalize bareB t = w1 at *
    have q1 : IntKind.i64.wrap (3 * (w1.length : Int)) = 3 * (w1.length : Int) := wrap_i64 (by omega) (by omega)
    have q2 : IntKind.i64.wrap (3 * (w1.length : Int) + (w0.length : Int)) = 3 * (w1.length : Int) + (w0.length : Int) := wrap_i64 (by omega) (by omega)
    repeat refine St (And.intro h1 <| And.intro h2 <| And.intro h3 <| And.intro q1 <| q2) ct51 ?_
    exact AWP.ret (Fin trivial [] [])
  · have e4 : weiO t = 0 := if_neg (by simp [e2])
    rw [e1] at h1
    rw [e4]
    rw [txT_st] at h1 ⊢
    repeat refine St h1 ct51 ?_
    exact AWP.ret (Fin trivial [] [])

end Go.Fw

end

section
/- tx: the reader. -/
namespace Go.Fw
open Go Go.Proofs
set_option linter.unusedVariables false
set_option linter.unusedSimpArgs false

/-- A reader: what is left, the first error. -/
abbrev rB (s : RSt) : Blk := .bx (.t (.st [.by s.b, .int .i64 s.e]))

def G87 : GFun
  | [.bx (.t (.st [.by b, .int .i64 e]))], [.ptr 0 0 [], .t (.int .i64 x)] => some ([.bx (.t (.st [.by b, .int .i64 (if e = 0 then x else e)]))], .t (.bool (decide ((if e = 0 then x else e) = 0))))
  | _, _ => none

theorem ct87 : CT [] [0, 1, 4, 9] [] := ⟨GClOk.nil _⟩

theorem g87 : GCon Try.prog 87 G87 := by
  refine gconc E_ok (rs := [.tmp 4 4]) Try.func87 rfl Try.ntmps87 (by kernel_rfl) rfl (by decide) G87 (np := 2) ?_ ?_
  · intro HB xs h; unfold G87; split <;> first | rfl | (simp at h; done)
  intro HB xs H r hG hwf hex
  unfold G87 at hG
  split at hG <;> try (cases hG; done)
  rename_i b e x
  cases hG
  by_cases he : e = 0
  · subst he
    have h1 : (if (0 : Int) = 0 then x else 0) = x := if_pos rfl
    rw [h1]
    by_cases hx : x = 0
    · subst hx
      repeat refine St (And.intro @gentry.eq_1 <| @gentry.eq_2) ct87 ?_
      exact AWP.ret (Fin trivial [] [0])
    · have h2 : (x == 0) = false := by simpa using hx
      have h3 : decide (x = 0) = false := by simpa using hx
      rw [h3]
      repeat refine St (And.intro (And.intro @gentry.eq_1 <| @gentry.eq_2) <| h2) ct87 ?_
      exact AWP.ret (Fin trivial [] [0])
  · have h1 : (if e = 0 then x else e) = e := if_neg he
    have h2 : (e == 0) = false := by simpa using he
    have h3 : decide (e = 0) = false := by simpa using he
    rw [h1, h3]
    repeat refine St (And.intro (And.intro @gentry.eq_1 <| @gentry.eq_2) <| h2) ct87 ?_
    exact AWP.ret (Fin trivial [] [0])

theorem fine_0 (b : List UInt8) (x : Int) : G87 [.bx (.t (.st [.by b, .int .i64 0]))] [.ptr 0 0 [], .t (.int .i64 x)] = some ([.bx (.t (.st [.by b, .int .i64 x]))], .t (.bool (decide (x = 0)))) := rfl
theorem fine_1 (b : List UInt8) {e : Int} (x : Int) (h : e ≠ 0) : G87 [.bx (.t (.st [.by b, .int .i64 e]))] [.ptr 0 0 [], .t (.int .i64 x)] = some ([.bx (.t (.st [.by b, .int .i64 e]))], .t (.bool false)) := by
  have h1 : (if e = 0 then x else e) = e := if_neg h
  have h3 : decide (e = 0) = false := by simpa using h
  simp only [G87, h1, h3]

theorem take32_r (b : List UInt8) (h : b.length ≤ 549755812000) : F67 [.by b] = some ([], .tup [.t (.int .u32 ((t32 b).1.toNat : Int)), .t (.by (t32 b).2.1), .t (.int .i64 (t32 b).2.2)]) := by
  rw [take32_c (by omega)]
  show _ = some (_, AV.tup [.t (.int .u32 ((UInt32.ofNat (num (spA b 4))).toNat : Int)), _, _])
  rw [u32_num _ (spA_le b 4 4 (by omega))]; rfl
theorem take64_r (b : List UInt8) (h : b.length ≤ 549755812000) : F118 [.by b] = some ([], .tup [.t (.int .u64 ((t64 b).1.toNat : Int)), .t (.by (t64 b).2.1), .t (.int .i64 (t64 b).2.2)]) := by
  rw [take64_c (by omega)]
  show _ = some (_, AV.tup [.t (.int .u64 ((UInt64.ofNat (num (spA b 8))).toNat : Int)), _, _])
  rw [u64_num _ (spA_le b 8 8 (by omega))]; rfl
theorem takescr_r (b : List UInt8) (h : b.length ≤ 549755812000) : F119 [.by b, .int .i64 1000] = some ([], .tup [.t (.by (tScr b).1), .t (.by (tScr b).2.1), .t (.int .i64 (tScr b).2.2)]) := takebytes_c 1000 (by omega)
theorem takewit_r (b : List UInt8) (h : b.length ≤ 549755812000) : F120 [.by b, .int .i64 30, .int .i64 1000] = some ([], .tup [.t (.sq 1 ((tWit b).1.map .by)), .t (.by (tWit b).2.1), .t (.int .i64 (tWit b).2.2)]) := takelist_c 30 1000 (by omega)

theorem rd_1 {α : Type} (t : List UInt8 → α × List UInt8 × Int) (d : α) {b : List UInt8} {e : Int} (h : e ≠ 0) : rd t d ⟨b, e⟩ = (d, ⟨b, e⟩) := if_pos h
theorem rd_2 {α : Type} (t : List UInt8 → α × List UInt8 × Int) (d : α) {b : List UInt8} (h : (t b).2.2 ≠ 0) : rd t d ⟨b, 0⟩ = (d, ⟨b, (t b).2.2⟩) := by
  unfold rd; rw [if_neg (by simp)]; exact if_pos h
theorem rd_3 {α : Type} (t : List UInt8 → α × List UInt8 × Int) (d : α) {b : List UInt8} (h : (t b).2.2 = 0) : rd t d ⟨b, 0⟩ = ((t b).1, ⟨(t b).2.1, 0⟩) := by
  unfold rd; rw [if_neg (by simp)]; exact if_neg (by simpa using h)

def G106 : GFun
  | [.bx (.t (.st [.by b, .int .i64 e]))], [.ptr 0 0 []] => if b.length ≤ 549755812000 then (let R := rd t32 0 ⟨b, e⟩; some ([rB R.2], .t (.int .u32 (R.1.toNat : Int)))) else none
  | _, _ => none

theorem ct106 : CT [(67, ⟨[false], treeG F67⟩), (87, ⟨[true, false], G87⟩)] [0, 2, 3, 4, 5, 18] [] := ⟨(.cons c67.g (.cons g87 (.nil _)))⟩

theorem g106 : GCon Try.prog 106 G106 := by
  refine gconc E_ok (rs := [.tmp 2 24]) Try.func106 rfl Try.ntmps106 (by kernel_rfl) rfl (by decide) G106 (np := 1) ?_ ?_
  · intro HB xs h; unfold G106; split <;> first | rfl | (simp at h; done)
  intro HB xs H r hG hwf hex
  unfold G106 at hG
  split at hG <;> try (cases hG; done)
  rename_i b e
  split at hG
  case isFalse => cases hG
  rename_i hc
  have hb := hc
  cases hG
  have h1 := take32_r b hb
  by_cases he : e = 0
  · subst he
    have h2 := fine_0 b (t32 b).2.2
    by_cases hx : (t32 b).2.2 = 0
    · rw [rd_3 _ _ hx]
      rw [hx] at h1 h2
      generalize t32 b = R at *
      repeat refine St (And.intro (And.intro @gentry.eq_1 <| @gentry.eq_2) <| And.intro h1 <| h2) ct106 ?_
      exact AWP.ret (Fin trivial [] [0])
    · rw [rd_2 _ _ hx]
      have h3 : decide ((t32 b).2.2 = 0) = false := by simpa using hx
      rw [h3] at h2
      generalize t32 b = R at *
      repeat refine St (And.intro (And.intro @gentry.eq_1 <| @gentry.eq_2) <| And.intro h1 <| h2) ct106 ?_
      exact AWP.ret (Fin @UInt32.toNat_zero [] [0])
  · have h2 := fine_1 b (t32 b).2.2 he
    rw [rd_1 _ _ he]
    generalize t32 b = R at *
    repeat refine St (And.intro (And.intro @gentry.eq_1 <| @gentry.eq_2) <| And.intro h1 <| h2) ct106 ?_
    exact AWP.ret (Fin @UInt32.toNat_zero [] [0])

def G109 : GFun
  | [.bx (.t (.st [.by b, .int .i64 e]))], [.ptr 0 0 []] => if b.length ≤ 549755812000 then (let R := rd t64 0 ⟨b, e⟩; some ([rB R.2], .t (.int .u64 (R.1.toNat : Int)))) else none
  | _, _ => none

theorem ct109 : CT [(87, ⟨[true, false], G87⟩), (118, ⟨[false], treeG F118⟩)] [0, 2, 3, 4, 5, 18] [] := ⟨(.cons g87 (.cons c118.g (.nil _)))⟩

theorem g109 : GCon Try.prog 109 G109 := by
  refine gconc E_ok (rs := [.tmp 2 57]) Try.func109 rfl Try.ntmps109 (by kernel_rfl) rfl (by decide) G109 (np := 1) ?_ ?_
  · intro HB xs h; unfold G109; split <;> first | rfl | (simp at h; done)
  intro HB xs H r hG hwf hex
  unfold G109 at hG
  split at hG <;> try (cases hG; done)
  rename_i b e
  split at hG
  case isFalse => cases hG
  rename_i hc
  have hb := hc
  cases hG
  have h1 := take64_r b hb
  by_cases he : e = 0
  · subst he
    have h2 := fine_0 b (t64 b).2.2
    by_cases hx : (t64 b).2.2 = 0
    · rw [rd_3 _ _ hx]
      rw [hx] at h1 h2
      generalize t64 b = R at *
      repeat refine St (And.intro (And.intro @gentry.eq_1 <| @gentry.eq_2) <| And.intro h1 <| h2) ct109 ?_
      exact AWP.ret (Fin trivial [] [0])
    · rw [rd_2 _ _ hx]
      have h3 : decide ((t64 b).2.2 = 0) = false := by simpa using hx
      rw [h3] at h2
      generalize t64 b = R at *
      repeat refine St (And.intro (And.intro @gentry.eq_1 <| @gentry.eq_2) <| And.intro h1 <| h2) ct109 ?_
      exact AWP.ret (Fin @UInt64.toNat_zero [] [0])
  · have h2 := fine_1 b (t64 b).2.2 he
    rw [rd_1 _ _ he]
    generalize t64 b = R at *
    repeat refine St (And.intro (And.intro @gentry.eq_1 <| @gentry.eq_2) <| And.intro h1 <| h2) ct109 ?_
    exact AWP.ret (Fin @UInt64.toNat_zero [] [0])

def G110 : GFun
  | [.bx (.t (.st [.by b, .int .i64 e]))], [.ptr 0 0 []] => if b.length ≤ 549755812000 then (let R := rd tScr [] ⟨b, e⟩; some ([rB R.2], .t (.by R.1))) else none
  | _, _ => none

theorem ct110 : CT [(87, ⟨[true, false], G87⟩), (119, ⟨[false, false], treeG F119⟩)] [0, 2, 3, 4, 5, 18] [] := ⟨(.cons g87 (.cons c119.g (.nil _)))⟩

theorem g110 : GCon Try.prog 110 G110 := by
  refine gconc E_ok (rs := [.tmp 2 22]) Try.func110 rfl Try.ntmps110 (by kernel_rfl) rfl (by decide) G110 (np := 1) ?_ ?_
  · intro HB xs h; unfold G110; split <;> first | rfl | (simp at h; done)
  intro HB xs H r hG hwf hex
  unfold G110 at hG
  split at hG <;> try (cases hG; done)
  rename_i b e
  split at hG
  case isFalse => cases hG
  rename_i hc
  have hb := hc
  cases hG
  have h1 := takescr_r b hb
  by_cases he : e = 0
  · subst he
    have h2 := fine_0 b (tScr b).2.2
    by_cases hx : (tScr b).2.2 = 0
    · rw [rd_3 _ _ hx]
      rw [hx] at h1 h2
      generalize tScr b = R at *
      repeat refine St (And.intro (And.intro @gentry.eq_1 <| @gentry.eq_2) <| And.intro h1 <| h2) ct110 ?_
      exact AWP.ret (Fin trivial [] [0])
    · rw [rd_2 _ _ hx]
      have h3 : decide ((tScr b).2.2 = 0) = false := by simpa using hx
      rw [h3] at h2
      generalize tScr b = R at *
      repeat refine St (And.intro (And.intro @gentry.eq_1 <| @gentry.eq_2) <| And.intro h1 <| h2) ct110 ?_
      exact AWP.ret (Fin trivial [] [0])
  · have h2 := fine_1 b (tScr b).2.2 he
    rw [rd_1 _ _ he]
    generalize tScr b = R at *
    repeat refine St (And.intro (And.intro @gentry.eq_1 <| @gentry.eq_2) <| And.intro h1 <| h2) ct110 ?_
    exact AWP.ret (Fin trivial [] [0])

def G111 : GFun
  | [.bx (.t (.st [.by b, .int .i64 e]))], [.ptr 0 0 []] => if b.length ≤ 549755812000 then (let R := rd tWit [] ⟨b, e⟩; some ([rB R.2], .t (.sq 1 (R.1.map .by)))) else none
  | _, _ => none

theorem ct111 : CT [(87, ⟨[true, false], G87⟩), (120, ⟨[false, false, false], treeG F120⟩)] [0, 2, 3, 4, 5, 18] [] := ⟨(.cons g87 (.cons c120.g (.nil _)))⟩

theorem g111 : GCon Try.prog 111 G111 := by
  refine gconc E_ok (rs := [.tmp 2 88]) Try.func111 rfl Try.ntmps111 (by kernel_rfl) rfl (by decide) G111 (np := 1) ?_ ?_
  · intro HB xs h; unfold G111; split <;> first | rfl | (simp at h; done)
  intro HB xs H r hG hwf hex
  unfold G111 at hG
  split at hG <;> try (cases hG; done)
  rename_i b e
  split at hG
  case isFalse => cases hG
  rename_i hc
  have hb := hc
  cases hG
  have h1 := takewit_r b hb
  by_cases he : e = 0
  · subst he
    have h2 := fine_0 b (tWit b).2.2
    by_cases hx : (tWit b).2.2 = 0
    · rw [rd_3 _ _ hx]
      rw [hx] at h1 h2
      generalize tWit b = R at *
      repeat refine St (And.intro (And.intro @gentry.eq_1 <| @gentry.eq_2) <| And.intro h1 <| h2) ct111 ?_
      exact AWP.ret (Fin trivial [] [0])
    · rw [rd_2 _ _ hx]
      have h3 : decide ((tWit b).2.2 = 0) = false := by simpa using hx
      rw [h3] at h2
      generalize tWit b = R at *
      repeat refine St (And.intro (And.intro @gentry.eq_1 <| @gentry.eq_2) <| And.intro h1 <| h2) ct111 ?_
      exact AWP.ret (Fin (@List.map_nil.{0, 0}) [] [0])
  · have h2 := fine_1 b (tWit b).2.2 he
    rw [rd_1 _ _ he]
    generalize tWit b = R at *
    repeat refine St (And.intro (And.intro @gentry.eq_1 <| @gentry.eq_2) <| And.intro h1 <| h2) ct111 ?_
    exact AWP.ret (Fin (@List.map_nil.{0, 0}) [] [0])


end Go.Fw

end

section
/- tx: the reader of a transaction. -/
namespace Go.Fw
open Go Go.Proofs
set_option linter.unusedVariables false
set_option linter.unusedSimpArgs false

def G107 : GFun
  | [.bx (.t (.st [.by b, .int .i64 e]))], [.ptr 0 0 [], .t (.int .i64 20)] => if b.length ≤ 549755812000 then (let R := rdCnt true 20 ⟨b, e⟩; some ([rB R.2], .t (.int .i64 (R.1 : Int)))) else none
  | _, _ => none

theorem ct107 : CT [(30, ⟨[false], treeG F30⟩), (87, ⟨[true, false], G87⟩)] [0, 1, 4, 5, 6, 7, 24, 28] [] := ⟨(.cons c30.g (.cons g87 (.nil _)))⟩

theorem g107 : GCon Try.prog 107 G107 := by
  refine gconc E_ok (rs := [.tmp 4 3]) Try.func107 rfl Try.ntmps107 (by kernel_rfl) rfl (by decide) G107 (np := 2) ?_ ?_
  · intro HB xs h; unfold G107; split <;> first | rfl | (simp at h; done)
  intro HB xs H r hG hwf hex
  unfold G107 at hG
  split at hG <;> try (cases hG; done)
  rename_i b e
  split at hG
  case isFalse => cases hG
  rename_i hc
  have hb := hc
  cases hG
  have h1 := takesize_c (b := b) (by omega)
  have hrd : rdCnt true 20 ⟨b, e⟩ = rd (tCnt 20) 0 ⟨b, e⟩ := rfl
  rw [hrd]
  have hsl := sz_lt b
  have hcases : ((sz b).2.2 ≠ 0 ∧ tCnt 20 b = (0, [], (sz b).2.2)) ∨ ((sz b).2.2 = 0 ∧ 20 < (sz b).1 ∧ tCnt 20 b = (0, [], 4)) ∨ ((sz b).2.2 = 0 ∧ (sz b).1 ≤ 20 ∧ tCnt 20 b = ((sz b).1, (sz b).2.1, 0)) := by
    unfold tCnt bnd
    by_cases k1 : (sz b).2.2 = 0
    · by_cases k2 : 20 < (sz b).1
      · exact .inr (.inl ⟨k1, k2, by rw [if_neg (by simpa using k1), if_pos (.inr (by omega))]⟩)
      · exact .inr (.inr ⟨k1, by omega, by rw [if_neg (by simpa using k1), if_neg (by omega)]⟩)
    · exact .inl ⟨k1, by rw [if_pos k1]⟩
  generalize sz b = Z at *
  obtain ⟨n, rest, f⟩ := Z
  dsimp only at h1 hcases hsl
  rcases hcases with ⟨k1, k2⟩ | ⟨k1, k2, k3⟩ | ⟨k1, k2, k3⟩
  · have k1' : (f == 0) = false := by simpa using k1
    have hd : decide (f = 0) = false := by simpa using k1
    by_cases he : e = 0
    · subst he
      have h2 := fine_0 b f
      rw [hd] at h2
      rw [rd_2 _ _ (by rw [k2]; exact k1), k2]
      repeat refine St (And.intro (And.intro @gentry.eq_1 <| @gentry.eq_2) <| And.intro h1 <| And.intro h2 <| k1') ct107 ?_
      exact AWP.ret (Fin trivial [] [0])
    · have h2 := fine_1 b f he
      rw [rd_1 _ _ he]
      repeat refine St (And.intro (And.intro @gentry.eq_1 <| @gentry.eq_2) <| And.intro h1 <| And.intro h2 <| k1') ct107 ?_
      exact AWP.ret (Fin trivial [] [0])
  · subst k1
    have k2' : 20 < (n : Int) := by omega
    by_cases he : e = 0
    · subst he
      have h2 := fine_0 b 4
      rw [show decide ((4 : Int) = 0) = false from rfl] at h2
      rw [rd_2 _ _ (by rw [k3]; decide), k3]
      repeat refine St (And.intro (And.intro @gentry.eq_1 <| @gentry.eq_2) <| And.intro h1 <| And.intro h2 <| k2') ct107 ?_
      exact AWP.ret (Fin trivial [] [0])
    · have h2 := fine_1 b 4 he
      rw [rd_1 _ _ he]
      repeat refine St (And.intro (And.intro @gentry.eq_1 <| @gentry.eq_2) <| And.intro h1 <| And.intro h2 <| k2') ct107 ?_
      exact AWP.ret (Fin trivial [] [0])
  · subst k1
    have k2' : ¬ 20 < (n : Int) := by omega
    have hw : IntKind.i64.wrap (n : Int) = (n : Int) := wrap_i64 (by omega) (by omega)
    by_cases he : e = 0
    · subst he
      have h2 := fine_0 b 0
      rw [show decide ((0 : Int) = 0) = true from rfl] at h2
      rw [rd_3 _ _ (by rw [k3]), k3]
      repeat refine St (And.intro (And.intro @gentry.eq_1 <| @gentry.eq_2) <| And.intro h1 <| And.intro h2 <| And.intro k2' <| hw) ct107 ?_
      exact AWP.ret (Fin trivial [] [0])
    · have h2 := fine_1 b 0 he
      rw [rd_1 _ _ he]
      repeat refine St (And.intro (And.intro @gentry.eq_1 <| @gentry.eq_2) <| And.intro h1 <| And.intro h2 <| k2') ct107 ?_
      exact AWP.ret (Fin trivial [] [0])

theorem taka_r (b : List UInt8) (h : b.length ≤ 549755812000) : F117 [.by b, .int .i64 32] = some ([.by (spA b 32)], .tup [.own 0, .t (.by (spB b 32)), .t (.int .i64 (spE b 32))]) := take_c 32 (by omega)

def G108 : GFun
  | [.bx (.t (.st [.by b, .int .i64 e]))], [.ptr 0 0 []] => if b.length ≤ 549755812000 then (let R := rd tH zH ⟨b, e⟩; some ([rB R.2], .t (.ba 32 R.1.1))) else none
  | _, _ => none

theorem ct108 : CT [(87, ⟨[true, false], G87⟩), (117, ⟨[false, false], treeG F117⟩)] [0, 2, 3, 4, 5, 18] [] := ⟨(.cons g87 (.cons c117.g (.nil _)))⟩

theorem zH_1 : zH.1 = zby 32 := rfl

theorem g108 : GCon Try.prog 108 G108 := by
  refine gconc E_ok (rs := [.cell 2 25]) Try.func108 rfl Try.ntmps108 (by kernel_rfl) rfl (by decide) G108 (np := 1) ?_ ?_
  · intro HB xs h; unfold G108; split <;> first | rfl | (simp at h; done)
  intro HB xs H r hG hwf hex
  unfold G108 at hG
  split at hG <;> try (cases hG; done)
  rename_i b e
  split at hG
  case isFalse => cases hG
  rename_i hc
  have hb := hc
  cases hG
  have h1 := taka_r b hb
  have htH : tH b = (hOf (spA b 32), spB b 32, spE b 32) := rfl
  by_cases he : e = 0
  · subst he
    have h2 := fine_0 b (spE b 32)
    by_cases hx : spE b 32 = 0
    · rw [rd_3 _ _ (by rw [htH]; exact hx), htH]
      obtain ⟨q1, q2, q3⟩ := sp_ok hx
      have hl : (spA b 32).length = 32 := by omega
      have ho : (hOf (spA b 32)).1 = spA b 32 := by unfold hOf; rw [dif_pos hl]
      have ht : (spA b 32).take 32 = spA b 32 := List.take_of_length_le (by omega)
      dsimp only
      rw [ho]
      rw [hx] at h1 h2
      generalize spA b 32 = x at *
      generalize spB b 32 = y at *
      repeat refine St (And.intro (And.intro @gentry.eq_1 <| @gentry.eq_2) <| And.intro h1 <| And.intro h2 <| And.intro hl <| ht) ct108 ?_
      exact AWP.ret (Fin trivial [] [0])
    · rw [rd_2 _ _ (by rw [htH]; exact hx), htH]
      have h3 : decide (spE b 32 = 0) = false := by simpa using hx
      rw [h3] at h2
      generalize spA b 32 = x at *
      generalize spB b 32 = y at *
      generalize spE b 32 = z at *
      repeat refine St (And.intro (And.intro @gentry.eq_1 <| @gentry.eq_2) <| And.intro h1 <| h2) ct108 ?_
      exact AWP.ret (Fin @zH_1 [] [0])
  · have h2 := fine_1 b (spE b 32) he
    rw [rd_1 _ _ he]
    generalize spA b 32 = x at *
    generalize spB b 32 = y at *
    generalize spE b 32 = z at *
    repeat refine St (And.intro (And.intro @gentry.eq_1 <| @gentry.eq_2) <| And.intro h1 <| h2) ct108 ?_
    exact AWP.ret (Fin @zH_1 [] [0])

theorem n32_r (s : RSt) (h : s.b.length ≤ 549755812000) : G106 [rB s] [.ptr 0 0 []] = some ([rB (rdX true t32 0 s).2], .t (.int .u32 ((rdX true t32 0 s).1.toNat : Int))) := by
  simp only [G106]; exact if_pos h
theorem n64_r (s : RSt) (h : s.b.length ≤ 549755812000) : G109 [rB s] [.ptr 0 0 []] = some ([rB (rdX true t64 0 s).2], .t (.int .u64 ((rdX true t64 0 s).1.toNat : Int))) := by
  simp only [G109]; exact if_pos h
theorem hash_r (s : RSt) (h : s.b.length ≤ 549755812000) : G108 [rB s] [.ptr 0 0 []] = some ([rB (rdX true tH zH s).2], .t (.ba 32 (rdX true tH zH s).1.1)) := by
  simp only [G108]; exact if_pos h
theorem script_r (s : RSt) (h : s.b.length ≤ 549755812000) : G110 [rB s] [.ptr 0 0 []] = some ([rB (rdX true tScr [] s).2], .t (.by (rdX true tScr [] s).1)) := by
  simp only [G110]; exact if_pos h
theorem wit_r (s : RSt) (h : s.b.length ≤ 549755812000) : G111 [rB s] [.ptr 0 0 []] = some ([rB (rdWit true s).2], .t (.sq 1 ((rdWit true s).1.map .by))) := by
  simp only [G111]; exact if_pos h
theorem count_r (s : RSt) (h : s.b.length ≤ 549755812000) : G107 [rB s] [.ptr 0 0 [], .t (.int .i64 20)] = some ([rB (rdCnt true 20 s).2], .t (.int .i64 ((rdCnt true 20 s).1 : Int))) := by
  simp only [G107]; exact if_pos h

end Go.Fw

end

section
/- tx: a transaction, taken. -/
namespace Go.Fw
open Go Go.Proofs
set_option linter.unusedVariables false
set_option linter.unusedSimpArgs false

noncomputable def G86 : GFun
  | [.bx (.t (.st [.by b, .int .i64 e]))], [.ptr 0 0 []] => if b.length ≤ 549755800000 then (let R := rdTx true ⟨b, e⟩; some ([rB R.2], .t (txT R.1))) else none
  | _, _ => none

theorem ct86 : CT [(106, ⟨[true], G106⟩), (107, ⟨[true, false], G107⟩), (108, ⟨[true], G108⟩), (109, ⟨[true], G109⟩), (110, ⟨[true], G110⟩), (111, ⟨[true], G111⟩)] [0, 2, 3, 4, 5, 6, 11, 12, 13, 31, 32, 33, 52, 53, 54] [(18, [⟨0, [3], [], []⟩, ⟨0, [56], [], [2]⟩, ⟨0, [6], [], []⟩, ⟨0, [0], [], []⟩, ⟨2, [59], [], [2]⟩, ⟨1, [57, 58], [4], []⟩, ⟨0, [61], [4, 5], []⟩, ⟨2, [60, 62], [4, 5], [2]⟩])] := ⟨(.cons g106 (.cons g107 (.cons g108 (.cons g109 (.cons g110 (.cons g111 (.nil _)))))))⟩

set_option maxHeartbeats 4000000 in
theorem g86 : GCon Try.prog 86 G86 := by
  refine gconc E_ok (rs := [.cell 2 55]) Try.func86 rfl Try.ntmps86 (by kernel_rfl) rfl (by decide) G86 (np := 1) ?_ ?_
  · intro HB xs h; unfold G86; split <;> first | rfl | (simp at h; done)
  intro HB xs H r hG hwf hex
  unfold G86 at hG
  split at hG <;> try (cases hG; done)
  rename_i b e
  split at hG
  case isFalse => cases hG
  rename_i hc
  have hb := hc
  cases hG
  have l1 := rdX_len (P := true) (d := 0) (s := ⟨b, e⟩) t32_len
  obtain ⟨v, s1, e1⟩ : ∃ v s1, rdX true t32 0 ⟨b, e⟩ = (v, s1) := ⟨_, _, rfl⟩
  rw [e1] at l1
  replace l1 : s1.b.length ≤ 549755800000 := Nat.le_trans l1 hb
  have l2 := cnt_len (P := true) (m := 20) (s := s1)
  have hn := cnt_most true 20 s1
  obtain ⟨n, s2, e2⟩ : ∃ v s1', rdCnt true 20 s1 = (v, s1') := ⟨_, _, rfl⟩
  rw [e2] at l2 hn
  replace l2 : s2.b.length ≤ 549755800000 := Nat.le_trans l2 l1
  dsimp only at hn
  have hlen : ∀ {α : Type} (f : RSt → α × RSt) (hf : ∀ s, (f s).2.b.length ≤ s.b.length) (s : RSt), s.b.length ≤ 549755800000 → ∀ i, (rdN f i s).2.b.length ≤ 549755800000 := fun f hf s hs i => by
    induction i with
    | zero => exact hs
    | succ i ih => rw [rdN_snoc]; exact Nat.le_trans (hf _) ih
  have hfin : ∀ s, (rdIn true s).2.b.length ≤ s.b.length := fun s => Nat.le_trans (rdX_len t32_len) (Nat.le_trans (rdX_len t32_len) (rdX_len tH_len))
  have hfout : ∀ s, (rdOut true s).2.b.length ≤ s.b.length := fun s => Nat.le_trans (rdX_len tScr_len) (rdX_len t64_len)
  have hfwit : ∀ s, (rdWit true s).2.b.length ≤ s.b.length := fun s => rdX_len tWit_len
  have lis := hlen (rdIn true) hfin s2 l2
  obtain ⟨is, s3, e3⟩ : ∃ is s3, rdN (rdIn true) n s2 = (is, s3) := ⟨_, _, rfl⟩
  have l3 : s3.b.length ≤ 549755800000 := by have := lis n; rw [e3] at this; exact this
  have l4 := cnt_len (P := true) (m := 20) (s := s3)
  have hm := cnt_most true 20 s3
  obtain ⟨m, s4, e4⟩ : ∃ v s1', rdCnt true 20 s3 = (v, s1') := ⟨_, _, rfl⟩
  rw [e4] at l4 hm
  replace l4 : s4.b.length ≤ 549755800000 := Nat.le_trans l4 l3
  dsimp only at hm
  have los := hlen (rdOut true) hfout s4 l4
  obtain ⟨os, s5, e5⟩ : ∃ is s3, rdN (rdOut true) m s4 = (is, s3) := ⟨_, _, rfl⟩
  have l5 : s5.b.length ≤ 549755800000 := by have := los m; rw [e5] at this; exact this
  have l6 := rdX_len (P := true) (d := 0) (s := s5) t32_len
  obtain ⟨k, s6, e6⟩ : ∃ v s1, rdX true t32 0 s5 = (v, s1) := ⟨_, _, rfl⟩
  rw [e6] at l6
  replace l6 : s6.b.length ≤ 549755800000 := Nat.le_trans l6 l5
  have lws := hlen (rdWit true) hfwit s6 l6
  have hil : is.length = n := by have := rdN_len (rdIn true) n s2; rw [e3] at this; exact this
  have hol : os.length = m := by have := rdN_len (rdOut true) m s4; rw [e5] at this; exact this
  have hall : rdTx true ⟨b, e⟩ = (⟨v, wits is (rdN (rdWit true) is.length s6).1, os, k⟩, (rdN (rdWit true) is.length s6).2) := by
    unfold rdTx; simp only [e1, e2, e3, e4, e5, e6]
  rw [hall]
  have q1 := n32_r ⟨b, e⟩ (Nat.le_trans hb (by omega))
  rw [e1] at q1
  have q2 := count_r s1 (by omega)
  rw [e2] at q2
  dsimp only at q1 q2
  repeat refine St (And.intro (And.intro @gentry.eq_1 <| @gentry.eq_2) <| And.intro q1 <| q2) ct86 ?_
  refine AWP.weak (Weak.ownBx (v' := _) 2 [1] 1 (.sq 35 []) rfl (by simp only [W, eqq, ↓reduceIte, Nat.reduceEqDiff, Nat.reduceLT, Nat.reduceLeDiff, Nat.reduceAdd, Nat.reduceMul, Nat.reduceSub, Nat.reduceBEq, Int.reduceLE, Int.reduceLT, Int.reduceNeg, Int.reduceToNat, Int.reduceEq, Int.reduceBEq, Int.reduceBNe, Nat.reduceBNe, bne_self_eq_false, reduceCtorEq, gt_iff_lt, ge_iff_le]) (by simp only [W, eqq, ↓reduceIte, Nat.reduceEqDiff, Nat.reduceLT, Nat.reduceLeDiff, Nat.reduceAdd, Nat.reduceMul, Nat.reduceSub, Nat.reduceBEq, Int.reduceLE, Int.reduceLT, Int.reduceNeg, Int.reduceToNat, Int.reduceEq, Int.reduceBEq, Int.reduceBNe, Nat.reduceBNe, bne_self_eq_false, reduceCtorEq, gt_iff_lt, ge_iff_le]) (by simp only [W, eqq, ↓reduceIte, Nat.reduceEqDiff, Nat.reduceLT, Nat.reduceLeDiff, Nat.reduceAdd, Nat.reduceMul, Nat.reduceSub, Nat.reduceBEq, Int.reduceLE, Int.reduceLT, Int.reduceNeg, Int.reduceToNat, Int.reduceEq, Int.reduceBEq, Int.reduceBNe, Nat.reduceBNe, bne_self_eq_false, reduceCtorEq, gt_iff_lt, ge_iff_le]; rfl) (.inr ⟨_, by decide, rfl⟩)) ?_
  refine AWP.loop (G := { i : Nat // i ≤ n }) (fun i => ⟨[(0, .ptr 0 0 []), (2, .ptr 1 0 []), (3, .ptr 2 0 []), (11, .t (.int .i64 (n : Int))), (12, .t (.int .i64 (i.1 : Int)))], [rB (rdN (rdIn true) i.1 s2).2, .bx (.t (.st [.int .u32 0, .nil, .nil, .int .u32 0])), .bx (.st [.t (.int .u32 (v.toNat : Int)), .own 3, .t .nil, .t (.int .u32 0)]), .sq 35 ((rdN (rdIn true) i.1 s2).1.map inT)]⟩) (fun i => n - i.1) ⟨0, by omega⟩ (Wt (And.intro (And.intro @rdN.eq_1 <| @rdN.eq_2) <| @List.map_nil.{0, 0}) [0, 2, 3, 11, 12] [0, 1, 2, 3]) ?_
  intro ⟨i, hi⟩
  dsimp only
  have hsn := rdN_snoc (rdIn true) i s2
  have hln := rdN_len (rdIn true) i s2
  have hli := lis i
  have h3i : i = n → rdN (rdIn true) i s2 = (is, s3) := fun h => h ▸ e3
  generalize rdN (rdIn true) i s2 = R at *
  obtain ⟨acc, s⟩ := R
  dsimp only at hsn hln hli h3i ⊢
  by_cases hlt : (i : Int) < (n : Int)
  · have p1 := hash_r s (by omega)
    have l1' := rdX_len (P := true) (d := zH) (s := s) tH_len
    have hf : rdIn true s = (⟨(rdX true tH zH s).1, (rdX true t32 0 (rdX true tH zH s).2).1, (rdX true t32 0 (rdX true t32 0 (rdX true tH zH s).2).2).1, []⟩, (rdX true t32 0 (rdX true t32 0 (rdX true tH zH s).2).2).2) := rfl
    obtain ⟨h, t1, r1⟩ : ∃ v s1, rdX true tH zH s = (v, s1) := ⟨_, _, rfl⟩
    rw [r1] at p1 l1' hf
    dsimp only at p1 l1' hf
    have p2 := n32_r t1 (by omega)
    have l2' := rdX_len (P := true) (d := 0) (s := t1) t32_len
    obtain ⟨j, t2, r2⟩ : ∃ v s1, rdX true t32 0 t1 = (v, s1) := ⟨_, _, rfl⟩
    rw [r2] at p2 l2' hf
    dsimp only at p2 l2' hf
    have p3 := n32_r t2 (by omega)
    obtain ⟨q, t3, r3⟩ : ∃ v s1, rdX true t32 0 t2 = (v, s1) := ⟨_, _, rfl⟩
    rw [r3] at p3 hf
    dsimp only at p3 hf
    rw [hf] at hsn
    dsimp only at hsn
    have h32 := h.2
    iterate 9 (try refine St (And.intro hlt <| And.intro p1 <| And.intro p2 <| And.intro p3 <| h32) ct86 ?_)
    refine AWP.weak (Wn 4 [2] 34 (.sq 1 [])) ?_
    have hin : inT ⟨h, j, q, []⟩ = .st [.st [.ba 32 h.1, .int .u32 (j.toNat : Int)], .int .u32 (q.toNat : Int), .sq 1 []] := rfl
    have hmm : (acc ++ [(⟨h, j, q, []⟩ : TIn)]).map inT = acc.map inT ++ [.st [.st [.ba 32 h.1, .int .u32 (j.toNat : Int)], .int .u32 (q.toNat : Int), .sq 1 []]] := by rw [List.map_append, List.map_cons, List.map_nil, hin]
    have hal : (acc.map inT).length ≤ 1000 := by rw [List.length_map]; omega
    repeat refine St (And.intro p3 <| And.intro h32 <| hal) ct86 ?_
    exact ⟨⟨i + 1, by omega⟩, (Wt (And.intro hsn <| hmm) [0, 2, 3, 11, 12] [0, 1, 2, 6]), by simp only; omega⟩
  obtain rfl : i = n := by omega
  have h3e := h3i rfl
  cases h3e
  have q4 := count_r s3 (by omega)
  rw [e4] at q4
  dsimp only at q4
  repeat refine St (And.intro hlt <| q4) ct86 ?_
  refine AWP.weak (Weak.ownBx (v' := _) 2 [2] 2 (.sq 2 []) rfl (by simp only [W, eqq, ↓reduceIte, Nat.reduceEqDiff, Nat.reduceLT, Nat.reduceLeDiff, Nat.reduceAdd, Nat.reduceMul, Nat.reduceSub, Nat.reduceBEq, Int.reduceLE, Int.reduceLT, Int.reduceNeg, Int.reduceToNat, Int.reduceEq, Int.reduceBEq, Int.reduceBNe, Nat.reduceBNe, bne_self_eq_false, reduceCtorEq, gt_iff_lt, ge_iff_le]) (by simp only [W, eqq, ↓reduceIte, Nat.reduceEqDiff, Nat.reduceLT, Nat.reduceLeDiff, Nat.reduceAdd, Nat.reduceMul, Nat.reduceSub, Nat.reduceBEq, Int.reduceLE, Int.reduceLT, Int.reduceNeg, Int.reduceToNat, Int.reduceEq, Int.reduceBEq, Int.reduceBNe, Nat.reduceBNe, bne_self_eq_false, reduceCtorEq, gt_iff_lt, ge_iff_le]) (by simp only [W, eqq, ↓reduceIte, Nat.reduceEqDiff, Nat.reduceLT, Nat.reduceLeDiff, Nat.reduceAdd, Nat.reduceMul, Nat.reduceSub, Nat.reduceBEq, Int.reduceLE, Int.reduceLT, Int.reduceNeg, Int.reduceToNat, Int.reduceEq, Int.reduceBEq, Int.reduceBNe, Nat.reduceBNe, bne_self_eq_false, reduceCtorEq, gt_iff_lt, ge_iff_le]; rfl) (.inr ⟨_, by decide, rfl⟩)) ?_
  refine AWP.loop (G := { i : Nat // i ≤ m }) (fun i => ⟨[(0, .ptr 0 0 []), (2, .ptr 1 0 []), (3, .ptr 2 0 []), (31, .t (.int .i64 (m : Int))), (32, .t (.int .i64 (i.1 : Int)))], [rB (rdN (rdOut true) i.1 s4).2, .bx (.t (.st [.int .u32 0, .nil, .nil, .int .u32 0])), .bx (.st [.t (.int .u32 (v.toNat : Int)), .own 3, .own 4, .t (.int .u32 0)]), .sq 35 (is.map inT), .sq 2 ((rdN (rdOut true) i.1 s4).1.map outT)]⟩) (fun i => m - i.1) ⟨0, by omega⟩ (Wt (And.intro (And.intro @rdN.eq_1 <| @rdN.eq_2) <| @List.map_nil.{0, 0}) [0, 2, 3, 31, 32] [0, 1, 2, 3, 4]) ?_
  intro ⟨i, hi⟩
  dsimp only
  have hsn := rdN_snoc (rdOut true) i s4
  have hln := rdN_len (rdOut true) i s4
  have hli := los i
  have h5i : i = m → rdN (rdOut true) i s4 = (os, s5) := fun h => h ▸ e5
  generalize rdN (rdOut true) i s4 = R at *
  obtain ⟨acc, s⟩ := R
  dsimp only at hsn hln hli h5i ⊢
  by_cases hlt : (i : Int) < (m : Int)
  · have p1 := n64_r s (by omega)
    have l1' := rdX_len (P := true) (d := 0) (s := s) t64_len
    have hf : rdOut true s = (⟨(rdX true t64 0 s).1, (rdX true tScr [] (rdX true t64 0 s).2).1⟩, (rdX true tScr [] (rdX true t64 0 s).2).2) := rfl
    obtain ⟨h, t1, r1⟩ : ∃ v s1, rdX true t64 0 s = (v, s1) := ⟨_, _, rfl⟩
    rw [r1] at p1 l1' hf
    dsimp only at p1 l1' hf
    have p2 := script_r t1 (by omega)
    obtain ⟨q, t3, r3⟩ : ∃ v s1, rdX true tScr [] t1 = (v, s1) := ⟨_, _, rfl⟩
    rw [r3] at p2 hf
    dsimp only at p2 hf
    rw [hf] at hsn
    dsimp only at hsn
    have hmm : (acc ++ [(⟨h, q⟩ : TOut)]).map outT = acc.map outT ++ [.st [.int .u64 (h.toNat : Int), .by q]] := by rw [List.map_append]; rfl
    have hal : (acc.map outT).length ≤ 1000 := by rw [List.length_map]; omega
    repeat refine St (And.intro hlt <| And.intro p1 <| And.intro p2 <| hal) ct86 ?_
    exact ⟨⟨i + 1, by omega⟩, (Wt (And.intro hsn <| hmm) [0, 2, 3, 31, 32] [0, 1, 2, 3, 7]), by simp only; omega⟩
  obtain rfl : i = m := by omega
  have h5e := h5i rfl
  cases h5e
  have q6 := n32_r s5 (by omega)
  rw [e6] at q6
  dsimp only at q6
  have his : is.length ≤ 1000 := by omega
  repeat refine St (And.intro hlt <| q6) ct86 ?_
  refine AWP.loop (G := { i : Nat // i ≤ is.length }) (fun i => ⟨[(0, .ptr 0 0 []), (2, .ptr 1 0 []), (3, .ptr 2 0 []), (52, .t (.int .i64 (is.length : Int))), (53, .t (.int .i64 (i.1 : Int)))], [rB (rdN (rdWit true) i.1 s6).2, .bx (.t (.st [.int .u32 0, .nil, .nil, .int .u32 0])), .bx (.st [.t (.int .u32 (v.toNat : Int)), .own 3, .own 4, .t (.int .u32 (k.toNat : Int))]), .sq 35 ((wits is (rdN (rdWit true) i.1 s6).1).map inT), .sq 2 (os.map outT)]⟩) (fun i => is.length - i.1) ⟨0, by omega⟩ (Wt (And.intro (And.intro @rdN.eq_1 <| @rdN.eq_2) <| @wits_nil) [0, 2, 3, 52, 53] [0, 1, 2, 3, 4]) ?_
  intro ⟨i, hi⟩
  dsimp only
  have hsn := rdN_snoc (rdWit true) i s6
  have hln := rdN_len (rdWit true) i s6
  have hli := lws i
  by_cases hlt : (i : Int) < (is.length : Int)
  · generalize rdN (rdWit true) i s6 = R at *
    obtain ⟨acc, s⟩ := R
    dsimp only at hsn hln hli ⊢
    have hlt' : i < is.length := by omega
    have p1 := wit_r s (by omega)
    obtain ⟨w, t1, r1⟩ : ∃ v s1, rdWit true s = (v, s1) := ⟨_, _, rfl⟩
    rw [r1] at p1 hsn
    dsimp only at p1 hsn
    obtain ⟨hget, hset⟩ := wits_set is acc w i hln hlt'
    generalize is.getD i dIn = x at hget hset
    have hget' : ((wits is acc).map inT).getD i default = T.st [.st [.ba 32 x.prev.1, .int .u32 (x.idx.toNat : Int)], .int .u32 (x.seq.toNat : Int), .sq 1 (x.wit.map .by)] := hget
    have hset' : ((wits is acc).map inT).set i (T.st [.st [.ba 32 x.prev.1, .int .u32 (x.idx.toNat : Int)], .int .u32 (x.seq.toNat : Int), .sq 1 (w.map .by)]) = (wits is (acc ++ [w])).map inT := hset
    have hwl : i < (wits is acc).length := by rw [wits_len]; exact hlt'
    have h32 := x.prev.2
    repeat refine St (And.intro hlt <| And.intro p1 <| And.intro hwl <| And.intro hget' <| And.intro hset' <| h32) ct86 ?_
    exact ⟨⟨i + 1, by omega⟩, (Wt hsn [0, 2, 3, 52, 53] [0, 1, 2, 3, 4]), by simp only; omega⟩
  obtain rfl : i = is.length := by omega
  repeat refine St hlt ct86 ?_
  exact AWP.ret (Fin @txT.eq_def [3, 4] [0])

end Go.Fw

end

section
/- tx: taking, decoding. -/
namespace Go.Fw
open Go Go.Proofs
set_option linter.unusedVariables false
set_option linter.unusedSimpArgs false

theorem tx_r (s : RSt) (h : s.b.length ≤ 549755800000) : G86 [rB s] [.ptr 0 0 []] = some ([rB (rdTx true s).2], .t (txT (rdTx true s).1)) := by
  simp only [G86]; exact if_pos h

/-- A transaction, what is left, the error. -/
def txR : Res TTx → List Blk × AV
  | .ok t r => ([], .tup [.t (txT t), .t (.by r), .t (.int .i64 0)])
  | .err e => ([], .tup [.t (txT dTx), .t (.by []), .t (.int .i64 e)])
noncomputable def F58 : Fun
  | [.by b] => if b.length ≤ 549755800000 then some (txR (takTx b)) else none
  | _ => none

theorem ct58 : CT [(86, ⟨[true], G86⟩), (87, ⟨[true, false], G87⟩)] [0, 2, 3, 4, 5, 6, 20, 27] [(6, [⟨1, [], [], []⟩, ⟨0, [5], [], []⟩, ⟨0, [29], [], []⟩, ⟨0, [30], [], []⟩, ⟨0, [31], [], [1]⟩, ⟨2, [2, 28], [0], [1]⟩, ⟨0, [], [0, 5], []⟩, ⟨0, [32], [0, 5], []⟩]), (7, [⟨0, [6], [], [1, 2]⟩, ⟨0, [5], [], []⟩, ⟨0, [34], [], []⟩, ⟨0, [35], [], []⟩, ⟨0, [36], [], [1, 2]⟩, ⟨2, [37], [], [1, 2]⟩, ⟨2, [2, 33], [5], [1, 2]⟩, ⟨0, [38], [5, 6], []⟩, ⟨0, [], [5, 6], []⟩])] := ⟨(.cons g86 (.cons g87 (.nil _)))⟩

theorem rdTx_len {P : Bool} (s : RSt) : (rdTx P s).2.b.length ≤ s.b.length := by
  have hN : ∀ {α : Type} (f : RSt → α × RSt) (hf : ∀ s, (f s).2.b.length ≤ s.b.length) (s : RSt), ∀ i, (rdN f i s).2.b.length ≤ s.b.length := fun f hf s i => by
    induction i with
    | zero => exact Nat.le_refl _
    | succ i ih => rw [rdN_snoc]; exact Nat.le_trans (hf _) ih
  have hfin : ∀ s, (rdIn P s).2.b.length ≤ s.b.length := fun s => Nat.le_trans (rdX_len t32_len) (Nat.le_trans (rdX_len t32_len) (rdX_len tH_len))
  have hfout : ∀ s, (rdOut P s).2.b.length ≤ s.b.length := fun s => Nat.le_trans (rdX_len tScr_len) (rdX_len t64_len)
  have hfwit : ∀ s, (rdWit P s).2.b.length ≤ s.b.length := fun s => rdX_len tWit_len
  exact Nat.le_trans (hN _ hfwit _ _) (Nat.le_trans (rdX_len t32_len) (Nat.le_trans (hN _ hfout _ _) (Nat.le_trans cnt_len (Nat.le_trans (hN _ hfin _ _) (Nat.le_trans cnt_len (rdX_len t32_len))))))

theorem dTx_T : txT dTx = .st [.int .u32 0, .sq 35 [], .sq 2 [], .int .u32 0] := rfl

set_option maxHeartbeats 1000000 in
theorem c58 : ACon Try.prog 58 F58 := by
  refine aconc E_ok (rs := [.cell 2 55, .tmp 3 22, .tmp 4 31]) Try.func58 rfl Try.ntmps58 (by kernel_rfl) rfl (by decide) F58 (np := 1) ?_ ?_
  · intro ts h; unfold F58; split <;> first | rfl | (simp at h; done)
  intro ts H r hF hwf
  unfold F58 at hF
  split at hF <;> try (cases hF; done)
  rename_i b
  split at hF
  case isFalse => cases hF
  rename_i hb
  have hF' : txR (takTx b) = (H, r) := Option.some.inj hF
  clear hF
  have h1 := tx_r ⟨b, 0⟩ hb
  have hl := rdTx_len (P := true) ⟨b, 0⟩
  have hgo := (goodTx true).ok b
  have hge := (goodTx true).err b
  cases hp : pTx b with
  | ok t x =>
    rw [hgo t x hp] at h1 hl
    dsimp only at h1 hl
    have hw : IntKind.i64.wrap ((b.length : Int) - (x.length : Int)) = ((b.length - x.length : Nat) : Int) := by rw [wrap_i64 (by omega) (by omega)]; omega
    by_cases h2 : b.length - x.length ≤ 12000
    · have h3 : ¬ 12000 < ((b.length - x.length : Nat) : Int) := by omega
      have e : takTx b = .ok t x := by unfold takTx; rw [hp]; exact if_pos h2
      rw [e] at hF'
      cases hF'
      rw [txT_st] at h1 ⊢
      have hrl : x.length ≤ 549755800000 := by omega
      repeat refine St (And.intro h1 <| And.intro hw <| And.intro h3 <| hrl) ct58 ?_
      exact AWP.ret (Fin trivial [3] [])
    · have h3 : 12000 < ((b.length - x.length : Nat) : Int) := by omega
      have e : takTx b = .err 4 := by unfold takTx; rw [hp]; exact if_neg h2
      rw [e] at hF'
      cases hF'
      rw [txT_st] at h1
      have h4 := fine_0 x 4
      rw [show decide ((4 : Int) = 0) = false from rfl] at h4
      repeat refine St (And.intro h1 <| And.intro hw <| And.intro h3 <| h4) ct58 ?_
      exact AWP.ret (Fin @dTx_T [] [])
  | err e =>
    obtain ⟨he, h2⟩ := hge e hp
    have e : takTx b = .err e := by unfold takTx; rw [hp]
    rw [e] at hF'
    cases hF'
    generalize rdTx true ⟨b, 0⟩ = R at *
    obtain ⟨t, ⟨x, e'⟩⟩ := R
    dsimp only at h1 hl h2
    subst h2
    rw [txT_st] at h1
    have hw : IntKind.i64.wrap ((b.length : Int) - (x.length : Int)) = ((b.length - x.length : Nat) : Int) := by rw [wrap_i64 (by omega) (by omega)]; omega
    have h5 : (e' != 0) = true := by simpa using he
    by_cases h2 : b.length - x.length ≤ 12000
    · have h3 : ¬ 12000 < ((b.length - x.length : Nat) : Int) := by omega
      repeat refine St (And.intro h1 <| And.intro hw <| And.intro h3 <| h5) ct58 ?_
      exact AWP.ret (Fin @dTx_T [] [])
    · have h3 : 12000 < ((b.length - x.length : Nat) : Int) := by omega
      have h4 := fine_1 x 4 he
      repeat refine St (And.intro h1 <| And.intro hw <| And.intro h3 <| And.intro h4 <| h5) ct58 ?_
      exact AWP.ret (Fin @dTx_T [] [])

theorem take_t {b : List UInt8} (h : b.length ≤ 549755800000) : F58 [.by b] = some (txR (takTx b)) := if_pos h

def decR : Res TTx → List Blk × AV
  | .ok t r => ([], .tup [.t (txT t), .t (.int .i64 0)])
  | .err e => ([], .tup [.t (txT dTx), .t (.int .i64 e)])

end Go.Fw

end

section
/- Drawn regions with two stores. -/
namespace Go.Fw
open Go Go.Proofs
set_option linter.unusedVariables false

theorem AWP.dK2 {gl : GCalls} {keep : List Nat} {ds : List (Nat × List Info)} {kp N id : Nat} {l : List Oper} {Q : Exit → AS → Prop} {S S' : AS} (ct : CT gl keep ds) {fs : List Info} (hl : lkD id ds = some fs) (hdep : dOk2 l fs = true) (h : drunP E eqq gl N keep l fs S = some S') (hQ : Q .normal S') : AWP kp Try.prog N (.region id l.toArray true) Q S :=
  AWP.gdraw2 X_ok ct.cl keep mix fs hdep h hQ

/-- One step. -/
theorem St2 {F : Prop} (hF : F) {gl : GCalls} {keep : List Nat} {ds : List (Nat × List Info)} (ct : CT gl keep ds) {A B : Prop} (k : B) (h : F → CT gl keep ds → KB B → A := by
  (intro hF ct hk; (first
    | refine AWP.seq ?_
    | refine AWP.block ?_
    | (refine AWP.rK ct (Ev hF) ?_; try show AWP _ _ _ _ _ _)
    | (refine AWP.condT ?_ ?_; focus (simp only [W, eqq, ↓reduceIte, Nat.reduceEqDiff, Nat.reduceLT, Nat.reduceLeDiff, Nat.reduceAdd, Nat.reduceMul, Nat.reduceSub, Nat.reduceBEq, Int.reduceLE, Int.reduceLT, Int.reduceNeg, Int.reduceToNat, Int.reduceEq, Int.reduceBEq, Int.reduceBNe, Nat.reduceBNe, bne_self_eq_false, reduceCtorEq, gt_iff_lt, ge_iff_le, hF]; done))
    | (refine AWP.condF ?_ ?_; focus (simp only [W, eqq, ↓reduceIte, Nat.reduceEqDiff, Nat.reduceLT, Nat.reduceLeDiff, Nat.reduceAdd, Nat.reduceMul, Nat.reduceSub, Nat.reduceBEq, Int.reduceLE, Int.reduceLT, Int.reduceNeg, Int.reduceToNat, Int.reduceEq, Int.reduceBEq, Int.reduceBNe, Nat.reduceBNe, bne_self_eq_false, reduceCtorEq, gt_iff_lt, ge_iff_le, hF]; done))
    | (refine AWP.cT (by simp only [W, eqq, ↓reduceIte, Nat.reduceEqDiff, Nat.reduceLT, Nat.reduceLeDiff, Nat.reduceAdd, Nat.reduceMul, Nat.reduceSub, Nat.reduceBEq, Int.reduceLE, Int.reduceLT, Int.reduceNeg, Int.reduceToNat, Int.reduceEq, Int.reduceBEq, Int.reduceBNe, Nat.reduceBNe, bne_self_eq_false, reduceCtorEq, gt_iff_lt, ge_iff_le, hF]; with_reducible rfl) (by simp only [BL, beq_iff_eq, bne_iff_ne, beq_eq_false_iff_ne, bne_eq_false_iff_eq]; omega) ?_)
    | (refine AWP.cF (by simp only [W, eqq, ↓reduceIte, Nat.reduceEqDiff, Nat.reduceLT, Nat.reduceLeDiff, Nat.reduceAdd, Nat.reduceMul, Nat.reduceSub, Nat.reduceBEq, Int.reduceLE, Int.reduceLT, Int.reduceNeg, Int.reduceToNat, Int.reduceEq, Int.reduceBEq, Int.reduceBNe, Nat.reduceBNe, bne_self_eq_false, reduceCtorEq, gt_iff_lt, ge_iff_le, hF]; with_reducible rfl) (by simp only [BL, beq_iff_eq, bne_iff_ne, beq_eq_false_iff_ne, bne_eq_false_iff_eq]; omega) ?_)
    | (refine AWP.skip ?_; try show AWP _ _ _ _ _ _)
    | (refine AWP.exit ?_; try show AWP _ _ _ _ _ _)
    | (refine AWP.dK2 ct (by rfl) (by kernel_rfl) (Ev hF) ?_; try show AWP _ _ _ _ _ _)); exact hk.out)) : A := h hF ct ⟨k⟩


end Go.Fw

end

section
/- block: headers. -/
namespace Go.Fw
open Go Go.Proofs
set_option linter.unusedVariables false
set_option linter.unusedSimpArgs false

theorem put32_x {b : List UInt8} (n : Int) (h : b.length ≤ 1000000) : F38 [.by b, .int .u32 n] = some ([.by (b ++ le 4 n)], .own 0) := if_pos (by omega)
theorem take32_of {l : List UInt8} (h : l.length = 32) : l.take 32 = l := List.take_of_length_le (by omega)

noncomputable def F15 : Fun
  | [y] => match inv hdT y with
    | some h => some ([.by (hdB h)], .own 0)
    | none => none
  | _ => none

theorem ct15 : CT [(38, ⟨[false, false], treeG F38⟩)] [0, 1, 2, 3] [] := ⟨(.cons c38.g (.nil _))⟩

set_option maxHeartbeats 1000000 in
theorem c15 : ACon Try.prog 15 F15 := by
  refine aconc E_ok (rs := [.tmp 2 22]) Try.func15 rfl Try.ntmps15 (by kernel_rfl) rfl (by decide) F15 (np := 1) ?_ ?_
  · intro ts h; unfold F15; split <;> first | rfl | (simp at h; done)
  intro ts H r hF hwf
  unfold F15 at hF
  split at hF <;> try (cases hF; done)
  split at hF <;> try (cases hF; done)
  rename_i h hh
  cases hF
  obtain rfl := inv_inv hh
  obtain ⟨v, ⟨p, hp⟩, ⟨q, hq⟩, ti, bi, no⟩ := h
  rw [hdT_st]
  unfold hdB
  dsimp only
  have ll : ∀ n : Int, (le 4 n).length = 4 := fun n => le_len 4 n
  have m1 := ll (v.toNat : Int)
  have m2 := ll (ti.toNat : Int)
  have m3 := ll (bi.toNat : Int)
  have k1 := take32_of hp
  have k2 := take32_of hq
  have p1 : F38 [.by [], .int .u32 (v.toNat : Int)] = some ([.by (le 4 (v.toNat : Int))], .own 0) := rfl
  have p2 := put32_x (b := le 4 (v.toNat : Int) ++ p ++ q) (ti.toNat : Int) (by simp; omega)
  have p3 := put32_x (b := le 4 (v.toNat : Int) ++ p ++ q ++ le 4 (ti.toNat : Int)) (bi.toNat : Int) (by simp; omega)
  have p4 := put32_x (b := le 4 (v.toNat : Int) ++ p ++ q ++ le 4 (ti.toNat : Int) ++ le 4 (bi.toNat : Int)) (no.toNat : Int) (by simp; omega)
  generalize le 4 (v.toNat : Int) = x1 at *
  have n1 : (x1 ++ p).length ≤ 1000 := by simp; omega
  have n2 : x1.length ≤ 1000 := by omega
  repeat refine St2 (And.intro p1 <| And.intro p2 <| And.intro p3 <| And.intro p4 <| And.intro hp <| And.intro hq <| And.intro k1 <| And.intro k2 <| And.intro n1 <| n2) ct15 ?_
  exact AWP.ret (Fin trivial [] [6])

theorem puth_c (h : THd) : F15 [hdT h] = some ([.by (hdB h)], .own 0) := by simp only [F15, inv_of hdT_inj]

def G66 : GFun
  | [.bx (.t (.by b))], [.t (.int .i64 k), .ptr 0 0 []] => if 0 ≤ k ∧ k + 4 ≤ (b.length : Int) ∧ b.length ≤ 549755800000 then some ([.bx (.t (.by b))], .t (.int .u32 ((dec4 ((b.drop k.toNat).take 4)).toNat : Int))) else none
  | _, _ => none

theorem ct66 : CT [(67, ⟨[false], treeG F67⟩)] [0, 1, 3, 4] [] := ⟨(.cons c67.g (.nil _))⟩

theorem g66 : GCon Try.prog 66 G66 := by
  refine gconc E_ok (rs := [.tmp 3 24]) Try.func66 rfl Try.ntmps66 (by kernel_rfl) rfl (by decide) G66 (np := 2) ?_ ?_
  · intro HB xs h; unfold G66; split <;> first | rfl | (simp at h; done)
  intro HB xs H r hG hwf hex
  unfold G66 at hG
  split at hG <;> try (cases hG; done)
  rename_i b k
  split at hG
  case isFalse => cases hG
  rename_i hc
  cases hG
  obtain ⟨c1, c2, c3⟩ := hc
  obtain ⟨n, rfl⟩ : ∃ n : Nat, k = (n : Int) := ⟨k.toNat, by omega⟩
  rw [Int.toNat_natCast]
  have hw : IntKind.i64.wrap ((n : Int) + 4) = ((n + 4 : Nat) : Int) := by rw [wrap_i64 (by omega) (by omega)]; omega
  have hdt : (b.take (n + 4)).drop n = (b.drop n).take 4 := by rw [List.drop_take, show n + 4 - n = 4 by omega]
  have hl4 : ((b.drop n).take 4).length = 4 := by simp; omega
  have h1 := take32_r ((b.drop n).take 4) (by omega)
  have h2 : (t32 ((b.drop n).take 4)).1 = dec4 ((b.drop n).take 4) := by
    have h3 := spA_app ((b.drop n).take 4) []
    rw [List.append_nil, hl4] at h3
    show UInt32.ofNat (num (spA ((b.drop n).take 4) ((4 : Nat) : Int))) = _
    rw [h3]; rfl
  rw [h2] at h1
  generalize t32 ((b.drop n).take 4) = R at *
  have k1 : n ≤ n + 4 := by omega
  have k2 : n + 4 ≤ b.length := by omega
  generalize dec4 ((b.drop n).take 4) = D at *
  repeat refine St2 (And.intro hw <| And.intro hdt <| And.intro h1 <| And.intro k1 <| k2) ct66 ?_
  exact AWP.ret (Fin trivial [] [0])

theorem number_k {b : List UInt8} (k : Nat) (h : k + 4 ≤ b.length) (hb : b.length ≤ 549755800000) : G66 [.bx (.t (.by b))] [.t (.int .i64 (k : Int)), .ptr 0 0 []] = some ([.bx (.t (.by b))], .t (.int .u32 ((dec4 ((b.drop k).take 4)).toNat : Int))) := by
  simp only [G66]
  rw [if_pos ⟨by omega, by omega, hb⟩, Int.toNat_natCast]

def F35 : Fun
  | [.by b] => if 80 ≤ b.length ∧ b.length ≤ 549755800000 then some ([], .t (hdT (hdOf b))) else none
  | _ => none

theorem ct35 : CT [(66, ⟨[false, true], G66⟩)] [0, 1, 2, 3] [(2, [⟨0, [3], [], []⟩, ⟨1, [5], [], []⟩, ⟨1, [1], [], []⟩, ⟨1, [7], [2], []⟩, ⟨1, [8], [2, 3], []⟩, ⟨1, [9], [2, 3, 4], []⟩, ⟨1, [1], [], []⟩, ⟨1, [11], [6], []⟩, ⟨1, [12], [6, 7], []⟩, ⟨1, [13], [6, 7, 8], []⟩, ⟨0, [3], [], []⟩, ⟨1, [15], [1], []⟩, ⟨0, [3], [], []⟩, ⟨1, [17], [1, 11], []⟩, ⟨0, [3], [], []⟩, ⟨1, [19], [1, 11, 13], []⟩, ⟨1, [6, 10, 14, 16, 18, 20], [1, 2, 3, 4, 5, 6, 7, 8, 9, 11, 13, 15], []⟩, ⟨2, [2, 21], [1, 2, 3, 4, 5, 6, 7, 8, 9, 11, 13, 15, 16], []⟩])] := ⟨(.cons g66 (.nil _))⟩

set_option maxHeartbeats 1000000 in
theorem c35 : ACon Try.prog 35 F35 := by
  refine aconc E_ok (rs := [.cell 2 27]) Try.func35 rfl Try.ntmps35 (by kernel_rfl) rfl (by decide) F35 (np := 1) ?_ ?_
  · intro ts h; unfold F35; split <;> first | rfl | (simp at h; done)
  intro ts H r hF hwf
  unfold F35 at hF
  split at hF <;> try (cases hF; done)
  rename_i b
  split at hF
  case isFalse => cases hF
  rename_i hc
  cases hF
  obtain ⟨hb, hb2⟩ := hc
  have p1 : G66 [.bx (.t (.by b))] [.t (.int .i64 0), .ptr 0 0 []] = some ([.bx (.t (.by b))], .t (.int .u32 ((dec4 (b.take 4)).toNat : Int))) := number_k 0 (by omega) hb2
  have p2 : G66 [.bx (.t (.by b))] [.t (.int .i64 68), .ptr 0 0 []] = some ([.bx (.t (.by b))], .t (.int .u32 ((dec4 ((b.drop 68).take 4)).toNat : Int))) := number_k 68 (by omega) hb2
  have p3 : G66 [.bx (.t (.by b))] [.t (.int .i64 72), .ptr 0 0 []] = some ([.bx (.t (.by b))], .t (.int .u32 ((dec4 ((b.drop 72).take 4)).toNat : Int))) := number_k 72 (by omega) hb2
  have p4 : G66 [.bx (.t (.by b))] [.t (.int .i64 76), .ptr 0 0 []] = some ([.bx (.t (.by b))], .t (.int .u32 ((dec4 ((b.drop 76).take 4)).toNat : Int))) := number_k 76 (by omega) hb2
  have d1 : (b.take 36).drop 4 = (b.drop 4).take 32 := by rw [List.drop_take]
  have d2 : (b.take 68).drop 36 = (b.drop 36).take 32 := by rw [List.drop_take]
  have l1 : ((b.drop 4).take 32).length = 32 := by simp; omega
  have l2 : ((b.drop 36).take 32).length = 32 := by simp; omega
  have v1 := hOf_val l1
  have v2 := hOf_val l2
  have hT : hdT (hdOf b) = .st [.int .u32 ((dec4 (b.take 4)).toNat : Int), .ba 32 ((b.drop 4).take 32), .ba 32 ((b.drop 36).take 32), .int .u32 ((dec4 ((b.drop 68).take 4)).toNat : Int), .int .u32 ((dec4 ((b.drop 72).take 4)).toNat : Int), .int .u32 ((dec4 ((b.drop 76).take 4)).toNat : Int)] := by
    rw [hdT_st]; unfold hdOf; dsimp only; rw [v1, v2]
  rw [hT]
  clear hT v1 v2
  generalize dec4 (b.take 4) = e1 at *
  generalize dec4 ((b.drop 68).take 4) = e2 at *
  generalize dec4 ((b.drop 72).take 4) = e3 at *
  generalize dec4 ((b.drop 76).take 4) = e4 at *
  generalize (b.drop 4).take 32 = y1 at *
  generalize (b.drop 36).take 32 = y2 at *
  have n1 : 36 ≤ b.length := by omega
  have n2 : 68 ≤ b.length := by omega
  have t1 := take32_of l1
  have t2 := take32_of l2
  repeat refine St2 (And.intro p1 <| And.intro p2 <| And.intro p3 <| And.intro p4 <| And.intro d1 <| And.intro d2 <| And.intro l1 <| And.intro l2 <| And.intro n1 <| And.intro n2 <| And.intro t1 <| t2) ct35 ?_
  exact AWP.ret (Fin trivial [] [])

theorem head_c {b : List UInt8} (h : 80 ≤ b.length) (hb : b.length ≤ 549755800000) : F35 [.by b] = some ([], .t (hdT (hdOf b))) := if_pos ⟨h, hb⟩

/-- A header, what is left, the error. -/
def hdR (b : List UInt8) : List Blk × AV := if b.length < 80 then ([], .tup [.t (hdT dHd), .t (.by []), .t (.int .i64 2)]) else ([], .tup [.t (hdT (hdOf b)), .t (.by (b.drop 80)), .t (.int .i64 0)])
theorem dHd_T : hdT dHd = .st [.int .u32 0, .ba 32 (zby 32), .ba 32 (zby 32), .int .u32 0, .int .u32 0, .int .u32 0] := rfl
def F13 : Fun
  | [.by b] => if b.length ≤ 549755800000 then some (hdR b) else none
  | _ => none

theorem ct13 : CT [(35, ⟨[false], treeG F35⟩)] [0, 2, 3, 4, 7] [(3, [⟨0, [0], [], []⟩, ⟨1, [9], [], []⟩, ⟨0, [0], [], []⟩, ⟨1, [11], [], []⟩, ⟨2, [12], [1, 3], []⟩, ⟨2, [2, 10], [1, 3, 4], []⟩, ⟨0, [13], [1, 3, 4, 5], []⟩, ⟨0, [], [1, 3, 4, 5], []⟩])] := ⟨(.cons c35.g (.nil _))⟩

theorem c13 : ACon Try.prog 13 F13 := by
  refine aconc E_ok (rs := [.cell 2 27, .tmp 3 22, .tmp 4 31]) Try.func13 rfl Try.ntmps13 (by kernel_rfl) rfl (by decide) F13 (np := 1) ?_ ?_
  · intro ts h; unfold F13; split <;> first | rfl | (simp at h; done)
  intro ts H r hF hwf
  unfold F13 at hF
  split at hF <;> try (cases hF; done)
  rename_i b
  split at hF
  case isFalse => cases hF
  rename_i hb
  have hF' : hdR b = (H, r) := Option.some.inj hF
  clear hF
  by_cases hl : b.length < 80
  · rw [show hdR b = ([], .tup [.t (hdT dHd), .t (.by []), .t (.int .i64 2)]) from if_pos hl] at hF'
    cases hF'
    have hl' : (b.length : Int) < 80 := by omega
    rw [dHd_T]
    repeat refine St2 hl' ct13 ?_
    exact AWP.ret (Fin trivial [] [])
  · rw [show hdR b = ([], .tup [.t (hdT (hdOf b)), .t (.by (b.drop 80)), .t (.int .i64 0)]) from if_neg hl] at hF'
    cases hF'
    have hl' : ¬ (b.length : Int) < 80 := by omega
    have h1 := head_c (b := b) (by omega) hb
    have h32a := (hdOf b).prev.2
    have h32b := (hdOf b).root.2
    rw [hdT_st] at h1 ⊢
    generalize hdOf b = h at *
    have n1 : 80 ≤ b.length := by omega
    repeat refine St2 (And.intro hl' <| And.intro h1 <| And.intro n1 <| And.intro h32a <| h32b) ct13 ?_
    exact AWP.ret (Fin trivial [1] [])

theorem takeh_c {b : List UInt8} (h : b.length ≤ 549755800000) : F13 [.by b] = some (hdR b) := if_pos h

noncomputable def F17 : Fun
  | [y] => match inv hdT y with
    | some h => some ([], .t (.ba 32 (shaL (shaL (hdB h)))))
    | none => none
  | _ => none

theorem ct17 : CT [(15, ⟨[false], treeG F15⟩), (40, ⟨[false], treeG F40⟩)] [0, 1, 2] [] := ⟨(.cons c15.g (.cons c40.g (.nil _)))⟩

theorem c17 : ACon Try.prog 17 F17 := by
  refine aconc E_ok (rs := [.cell 2 25]) Try.func17 rfl Try.ntmps17 (by kernel_rfl) rfl (by decide) F17 (np := 1) ?_ ?_
  · intro ts h; unfold F17; split <;> first | rfl | (simp at h; done)
  intro ts H r hF hwf
  unfold F17 at hF
  split at hF <;> try (cases hF; done)
  split at hF <;> try (cases hF; done)
  rename_i h hh
  cases hF
  obtain rfl := inv_inv hh
  have h1 := puth_c h
  have h2 := dbl_c (b := hdB h) (by rw [hdB_len]; omega)
  have l1 := shaL_len (shaL (hdB h))
  have h32a := h.prev.2
  have h32b := h.root.2
  rw [hdT_st] at h1 ⊢
  generalize shaL (shaL (hdB h)) = x at *
  generalize hdB h = y at *
  repeat refine St2 (And.intro h1 <| And.intro h2 <| And.intro l1 <| And.intro h32a <| h32b) ct17 ?_
  exact AWP.ret (Fin trivial [] [])

theorem namh_c (h : THd) : F17 [hdT h] = some ([], .t (.ba 32 (shaL (shaL (hdB h))))) := by simp only [F17, inv_of hdT_inj]

end Go.Fw

end

section
/- block: blocks as bytes, and back. -/
namespace Go.Fw
open Go Go.Proofs
set_option linter.unusedVariables false
set_option linter.unusedSimpArgs false

theorem blT_st (b : TBl) : blT b = .st [.st [.int .u32 (b.hd.ver.toNat : Int), .ba 32 b.hd.prev.1, .ba 32 b.hd.root.1, .int .u32 (b.hd.time.toNat : Int), .int .u32 (b.hd.bits.toNat : Int), .int .u32 (b.hd.nonce.toNat : Int)], .sq 4 (b.txs.map txT)] := rfl
theorem dBl_T : blT dBl = .st [.st [.int .u32 0, .ba 32 (zby 32), .ba 32 (zby 32), .int .u32 0, .int .u32 0, .int .u32 0], .sq 4 []] := rfl
theorem tx_getD (l : List TTx) (k : Nat) (h : k < l.length) : (l.map txT).getD k default = txT (l.getD k dTx) := by simp [h]
theorem encBl_no {x : TBl} (h : fitBl x = false) : encE x = [] ∧ encI x = 4 := ⟨if_neg (by simp [h]), if_neg (by simp [h])⟩
theorem encBl_yes {x : TBl} (h : fitBl x = true) : encE x = blB x ∧ encI x = 0 := ⟨if_pos h, if_pos h⟩
theorem fitBl_no {x : TBl} (h : ¬ (x.txs.length ≤ 30 ∧ x.txs.all fitsB = true ∧ (blB x).length ≤ 40000)) : fitBl x = false := by
  cases hh : fitBl x with
  | false => rfl
  | true =>
    simp only [fitBl, Bool.and_eq_true, decide_eq_true_eq] at hh
    exact (h ⟨hh.1.1, hh.1.2, hh.2⟩).elim
theorem fitBl_yes {x : TBl} (h1 : x.txs.length ≤ 30) (h2 : x.txs.all fitsB = true) (h3 : (blB x).length ≤ 40000) : fitBl x = true := by
  simp only [fitBl, Bool.and_eq_true, decide_eq_true_eq]; exact ⟨⟨h1, h2⟩, h3⟩
theorem who_x (t : TTx) : F44 [txT t] = some ([], .t (.by (whoO t))) := by simp only [F44, inv_of txT_inj]
theorem fits_len {t : TTx} (h : fitsB t = true) : (wholeB t).length ≤ 12000 := by
  simp only [fitsB, Bool.and_eq_true, decide_eq_true_eq] at h; exact h.2
theorem cat_who {l : List TTx} (h : l.all fitsB = true) : (cat wholeB l).length ≤ l.length * 12000 :=
  cat_len wholeB 12000 l fun t ht => fits_len (List.all_eq_true.1 h t ht)
theorem putsz_x {b : List UInt8} (n : Int) (h : b.length ≤ 1000000) : F42 [.by b, .int .u64 n] = some ([.by (b ++ sizeB n)], .own 0) := if_pos (by omega)

noncomputable def F19 : Fun
  | [y] => match inv blT y with
    | some b => some ([], .tup [.t (.by (encE b)), .t (.int .i64 (encI b))])
    | none => none
  | _ => none

theorem ct19 : CT [(15, ⟨[false], treeG F15⟩), (42, ⟨[false, false], treeG F42⟩), (43, ⟨[false], treeG F43⟩), (44, ⟨[false], treeG F44⟩)] [0, 1, 2, 3, 4, 6, 10, 20, 21, 22, 23, 28, 36] [(3, [⟨0, [1], [], []⟩, ⟨1, [11], [], []⟩, ⟨1, [12], [1], []⟩, ⟨0, [1], [], []⟩, ⟨1, [14], [], []⟩, ⟨1, [15], [4], []⟩, ⟨1, [16], [4, 5], []⟩, ⟨1, [13, 17], [1, 2, 4, 5, 6], []⟩, ⟨0, [18], [1, 2, 4, 5, 6, 7], []⟩])] := ⟨(.cons c15.g (.cons c42.g (.cons c43.g (.cons c44.g (.nil _)))))⟩

set_option maxHeartbeats 2000000 in
theorem c19 : ACon Try.prog 19 F19 := by
  refine aconc E_ok (rs := [.tmp 2 22, .tmp 3 31]) Try.func19 rfl Try.ntmps19 (by kernel_rfl) rfl (by decide) F19 (np := 1) ?_ ?_
  · intro ts h; unfold F19; split <;> first | rfl | (simp at h; done)
  intro ts H r hF hwf
  unfold F19 at hF
  split at hF <;> try (cases hF; done)
  split at hF <;> try (cases hF; done)
  rename_i b hb
  cases hF
  obtain rfl := inv_inv hb
  have hno := @fitBl_no b
  have hyes := @fitBl_yes b
  have henc0 := @encBl_no b
  have henc1 := @encBl_yes b
  have hlen : b.txs.length ≤ maxLen := by
    have h1 : (blT b).wf := hwf (blT b) (by simp)
    simp only [blT_st, T.wf, T.wfL] at h1
    simpa using h1.2.1.2.1
  unfold maxLen at hlen
  have hblB : blB b = hdB b.hd ++ sizeB b.txs.length ++ cat wholeB b.txs := rfl
  have p1 := puth_c b.hd
  have p1l := hdB_len b.hd
  have h32a := b.hd.prev.2
  have h32b := b.hd.root.2
  rw [hdT_st] at p1
  rw [blT_st]
  by_cases h30 : 30 < (b.txs.length : Int)
  · obtain ⟨e1, e2⟩ := henc0 (hno (fun hh => by omega))
    rw [e1, e2]
    repeat refine St h30 ct19 ?_
    exact AWP.ret (Fin trivial [] [])
  have hw : IntKind.u64.wrap (b.txs.length : Int) = (b.txs.length : Int) := wrap_u64 (by omega) (by omega)
  have p2 := putsz_x (b := hdB b.hd) (b.txs.length : Int) (by omega)
  have hsl := sizeB_len (b.txs.length : Int)
  generalize encE b = E at *
  generalize encI b = I at *
  obtain ⟨hd, l⟩ := b
  dsimp only at *
  generalize hdB hd = A at *
  obtain ⟨B, hB⟩ : ∃ B, A ++ sizeB l.length = B := ⟨_, rfl⟩
  have hBl : B.length ≤ 100 := by rw [← hB, List.length_append]; omega
  rw [hB] at p2 hblB
  repeat refine St (And.intro h30 <| And.intro p1 <| And.intro p2 <| And.intro hw <| And.intro h32a <| h32b) ct19 ?_
  refine AWP.loop (G := { i : Nat // i ≤ l.length ∧ (l.take i).all fitsB = true }) (fun i => ⟨[(1, .ptr 0 0 []), (4, .own 1), (20, .t (.sq 4 (l.map txT))), (21, .t (.int .i64 (l.length : Int))), (22, .t (.int .i64 (i.1 : Int)))], [.bx (.t (.st [.st [.int .u32 (hd.ver.toNat : Int), .ba 32 hd.prev.1, .ba 32 hd.root.1, .int .u32 (hd.time.toNat : Int), .int .u32 (hd.bits.toNat : Int), .int .u32 (hd.nonce.toNat : Int)], .sq 4 (l.map txT)])), .by (B ++ cat wholeB (l.take i.1))]⟩) (fun i => l.length - i.1) ⟨0, by omega, rfl⟩ (Wt (And.intro @List.take_zero.{0} <| And.intro @cat_nil <| @List.append_nil.{0}) [1, 4, 20, 21, 22] [0, 2]) ?_
  intro ⟨i, hi, ha⟩
  dsimp only
  by_cases hlt : (i : Int) < (l.length : Int)
  · have hlt' : i < l.length := by omega
    have hget := tx_getD l i hlt'
    have hal := all_take fitsB dTx l i hlt'
    have hbad := all_getD fitsB dTx l i hlt'
    have hct := cat_take wholeB dTx l i hlt'
    have hcl := cat_who ha
    rw [List.length_take, Nat.min_eq_left (by omega)] at hcl
    generalize l.getD i dTx = x at *
    have q1 := check_c x
    rcases chk_two x with ⟨e1, e2, e3⟩ | ⟨e1, e2⟩
    · have hf := fit_of e2 e3
      have q2 := who_x x
      rw [show whoO x = wholeB x from if_pos hf] at q2
      rw [e1] at q1
      rw [ha, hf] at hal
      rw [txT_st] at q1 q2 hget
      have hxl := fits_len hf
      have hnl : (B ++ cat wholeB (l.take i)).length + (wholeB x).length ≤ 1000000 := by rw [List.length_append]; omega
      have hnl2 : (B ++ cat wholeB (l.take i)).length ≤ 1000000 := by omega
      have hfx : B ++ cat wholeB (l.take i) ++ wholeB x = B ++ cat wholeB (l.take (i + 1)) := by rw [hct, List.append_assoc]
      generalize wholeB x = w at *
      repeat refine St (And.intro hlt <| And.intro hlt' <| And.intro hget <| And.intro q1 <| And.intro q2 <| And.intro hnl <| hnl2) ct19 ?_
      exact ⟨⟨i + 1, by omega, by rw [hal]; rfl⟩, (Wt hfx [1, 4, 20, 21, 22] [0, 3]), by simp only; omega⟩
    · obtain ⟨k1, k2⟩ := henc0 (hno (fun hh => by have := hh.2.1; rw [hbad e2] at this; cases this))
      subst k1
      subst k2
      rw [e1] at q1
      rw [txT_st] at q1 hget
      repeat refine St (And.intro hlt <| And.intro hlt' <| And.intro hget <| q1) ct19 ?_
      exact AWP.ret (Fin trivial [] [])
  obtain rfl : i = l.length := by omega
  rw [List.take_length] at ha
  have hTL : l.take l.length = l := List.take_length
  have hcl := cat_who ha
  by_cases h40 : 40000 < ((B ++ cat wholeB l).length : Int)
  · obtain ⟨k1, k2⟩ := henc0 (hno (fun hh => by have := hh.2.2; rw [hblB] at this; omega))
    subst k1
    subst k2
    repeat refine St (And.intro hlt <| And.intro hTL <| h40) ct19 ?_
    exact AWP.ret (Fin trivial [] [])
  · obtain ⟨k1, k2⟩ := henc1 (hyes (by omega) ha (by rw [hblB]; omega))
    rw [hblB] at k1
    subst k1
    subst k2
    repeat refine St (And.intro hlt <| And.intro hTL <| h40) ct19 ?_
    exact AWP.ret (Fin trivial [1] [])

theorem enc_b (b : TBl) : F19 [blT b] = some ([], .tup [.t (.by (encE b)), .t (.int .i64 (encI b))]) := by simp only [F19, inv_of blT_inj]

noncomputable def F22 : Fun
  | [y] => match inv blT y with
    | some b => some ([], .t (.int .i64 (encI b)))
    | none => none
  | _ => none

theorem ct22 : CT [(19, ⟨[false], treeG F19⟩)] [0, 1, 2, 4] [] := ⟨(.cons c19.g (.nil _))⟩

theorem c22 : ACon Try.prog 22 F22 := by
  refine aconc E_ok (rs := [.tmp 2 31]) Try.func22 rfl Try.ntmps22 (by kernel_rfl) rfl (by decide) F22 (np := 1) ?_ ?_
  · intro ts h; unfold F22; split <;> first | rfl | (simp at h; done)
  intro ts H r hF hwf
  unfold F22 at hF
  split at hF <;> try (cases hF; done)
  split at hF <;> try (cases hF; done)
  rename_i b hb
  cases hF
  obtain rfl := inv_inv hb
  have h1 := enc_b b
  have h32a := b.hd.prev.2
  have h32b := b.hd.root.2
  rw [blT_st] at h1 ⊢
  generalize encE b = E at *
  generalize encI b = I at *
  repeat refine St (And.intro h1 <| And.intro h32a <| h32b) ct22 ?_
  exact AWP.ret (Fin trivial [] [])

theorem chk_b (b : TBl) : F22 [blT b] = some ([], .t (.int .i64 (encI b))) := by simp only [F22, inv_of blT_inj]

/-- Transactions, what is left, the error. -/
def txsR (n : Nat) (b : List UInt8) : List Blk × AV := match pN takTx n b with
  | .ok l r => ([], .tup [.t (.sq 4 (l.map txT)), .t (.by r), .t (.int .i64 0)])
  | .err e => ([], .tup [.t (.sq 4 []), .t (.by []), .t (.int .i64 e)])
noncomputable def F31 : Fun
  | [.by b, .int .u64 n] => if b.length ≤ 549755800000 ∧ 0 ≤ n ∧ n ≤ 30 then some (txsR n.toNat b) else none
  | _ => none

theorem ct31 : CT [(58, ⟨[false], treeG F58⟩)] [0, 1, 4, 5, 6, 7, 8, 9, 10, 11, 12, 13, 21] [] := ⟨(.cons c58.g (.nil _))⟩

set_option maxHeartbeats 2000000 in
theorem c31 : ACon Try.prog 31 F31 := by
  refine aconc E_ok (rs := [.tmp 4 28, .tmp 5 22, .tmp 6 31]) Try.func31 rfl Try.ntmps31 (by kernel_rfl) rfl (by decide) F31 (np := 2) ?_ ?_
  · intro ts h; unfold F31; split <;> first | rfl | (simp at h; done)
  intro ts H r hF hwf
  unfold F31 at hF
  split at hF <;> try (cases hF; done)
  rename_i b z
  split at hF
  case isFalse => cases hF
  rename_i hc
  obtain ⟨hb, hz0, hz1⟩ := hc
  have hF' : txsR z.toNat b = (H, r) := Option.some.inj hF
  clear hF
  obtain ⟨n, rfl⟩ : ∃ n : Nat, z = (n : Int) := ⟨z.toNat, by omega⟩
  rw [Int.toNat_natCast] at hF'
  repeat refine St trivial ct31 ?_
  refine AWP.weak (Wo 7 (.sq 4 [])) ?_
  refine AWP.loop (G := { q : Nat × List TTx × List UInt8 // q.1 ≤ n ∧ pN takTx q.1 b = .ok q.2.1 q.2.2 ∧ q.2.2.length ≤ b.length }) (fun q => ⟨[(0, .t (.by q.1.2.2)), (7, .own 0), (11, .t (.int .u64 (n : Int))), (12, .t (.int .u64 (q.1.1 : Int)))], [.sq 4 (q.1.2.1.map txT)]⟩) (fun q => n - q.1.1) ⟨(0, [], b), Nat.zero_le _, rfl, Nat.le_refl _⟩ (Wt (@List.map_nil.{0, 0}) [0, 7, 11, 12] [0]) ?_
  intro ⟨⟨i, acc, rest⟩, hi, hp, hr⟩
  dsimp only at hi hp hr ⊢
  have hal := pN_len hp
  have hsn := pN_snoc takTx i b
  rw [hp] at hsn
  dsimp only at hsn
  by_cases hlt : (i : Int) < (n : Int)
  · have h1 := take_t (b := rest) (by omega)
    cases hq : takTx rest with
    | ok t s =>
      rw [hq] at h1 hsn
      have h1' : F58 [.by rest] = some ([], .tup [.t (txT t), .t (.by s), .t (.int .i64 0)]) := h1
      have hsl := takTx_len hq
      have hmm : (acc ++ [t]).map txT = acc.map txT ++ [txT t] := by rw [List.map_append]; rfl
      have haml : (acc.map txT).length ≤ 1000 := by rw [List.length_map]; omega
      have hw : IntKind.u64.wrap ((i : Int) + 1) = ((i + 1 : Nat) : Int) := by rw [wrap_u64 (by omega) (by omega)]; omega
      rw [txT_st] at h1' hmm
      repeat refine St (And.intro hlt <| And.intro h1' <| And.intro haml <| hw) ct31 ?_
      exact ⟨⟨(i + 1, acc ++ [t], s), by dsimp only; omega, hsn, by dsimp only; omega⟩, (Wt hmm [0, 7, 11, 12] [3]), by simp only; omega⟩
    | err e =>
      have he := takTx_err hq
      rw [hq] at h1 hsn
      have h1' : F58 [.by rest] = some ([], .tup [.t (.st [.int .u32 0, .sq 35 [], .sq 2 [], .int .u32 0]), .t (.by []), .t (.int .i64 e)]) := h1
      have hpe := pN_err n hsn (by omega)
      have hF2 : txsR n b = ([], .tup [.t (.sq 4 []), .t (.by []), .t (.int .i64 e)]) := by unfold txsR; rw [hpe]
      rw [hF2] at hF'
      cases hF'
      have heb : (e != 0) = true := by simpa using he
      repeat refine St (And.intro hlt <| And.intro h1' <| heb) ct31 ?_
      exact AWP.ret (Fin trivial [] [])
  obtain rfl : i = n := by omega
  have hF2 : txsR i b = ([], .tup [.t (.sq 4 (acc.map txT)), .t (.by rest), .t (.int .i64 0)]) := by unfold txsR; rw [hp]
  rw [hF2] at hF'
  cases hF'
  repeat refine St hlt ct31 ?_
  exact AWP.ret (Fin trivial [0] [])

theorem txs_c {b : List UInt8} {n : Nat} (hb : b.length ≤ 549755800000) (hn : n ≤ 30) : F31 [.by b, .int .u64 (n : Int)] = some (txsR n b) := by
  have : F31 [.by b, .int .u64 (n : Int)] = some (txsR (n : Int).toNat b) := if_pos ⟨hb, by omega, by omega⟩
  rw [this, Int.toNat_natCast]

/-- A block, the error. -/
def blR : Res TBl → List Blk × AV
  | .ok x r => ([], .tup [.t (blT x), .t (.int .i64 0)])
  | .err e => ([], .tup [.t (blT dBl), .t (.int .i64 e)])
noncomputable def F10 : Fun
  | [.by b] => if b.length ≤ 549755800000 then some (blR (decBl b)) else none
  | _ => none

theorem ct10 : CT [(13, ⟨[false], treeG F13⟩), (30, ⟨[false], treeG F30⟩), (31, ⟨[false, false], treeG F31⟩)] [0, 2, 3, 4, 5, 6, 7, 8, 16, 25, 30, 41, 46, 51] [] := ⟨(.cons c13.g (.cons c30.g (.cons c31.g (.nil _))))⟩

theorem tsz_c {b r : List UInt8} {n : Nat} {e : Int} (h : b.length ≤ 549755800000) (hs : sz b = (n, r, e)) : F30 [.by b] = some ([], .tup [.t (.int .u64 (n : Int)), .t (.by r), .t (.int .i64 e)]) := by
  have : F30 [.by b] = some ([], .tup [.t (.int .u64 ((sz b).1 : Nat)), .t (.by (sz b).2.1), .t (.int .i64 (sz b).2.2)]) := if_pos (by omega)
  rw [this, hs]

set_option maxHeartbeats 2000000 in
theorem c10 : ACon Try.prog 10 F10 := by
  refine aconc E_ok (rs := [.cell 2 30, .tmp 3 31]) Try.func10 rfl Try.ntmps10 (by kernel_rfl) rfl (by decide) F10 (np := 1) ?_ ?_
  · intro ts h; unfold F10; split <;> first | rfl | (simp at h; done)
  intro ts H r hF hwf
  unfold F10 at hF
  split at hF <;> try (cases hF; done)
  rename_i b
  split at hF
  case isFalse => cases hF
  rename_i hb
  have hF' : blR (decBl b) = (H, r) := Option.some.inj hF
  clear hF
  have h1 := takeh_c hb
  have hdw := decW b
  generalize decBl b = D at *
  have hdl : (b.drop 80).length ≤ 549755800000 := by simp; omega
  have h32a := (hdOf b).prev.2
  have h32b := (hdOf b).root.2
  have hok : ∀ _ : ¬ b.length < 80, F13 [.by b] = some ([], .tup [.t (.st [.int .u32 ((hdOf b).ver.toNat : Int), .ba 32 (hdOf b).prev.1, .ba 32 (hdOf b).root.1, .int .u32 ((hdOf b).time.toNat : Int), .int .u32 ((hdOf b).bits.toNat : Int), .int .u32 ((hdOf b).nonce.toNat : Int)]), .t (.by (b.drop 80)), .t (.int .i64 0)]) := fun h => by
    rw [h1]; unfold hdR; rw [if_neg h]; rfl
  cases hdw with
  | short h =>
    have h1' : F13 [.by b] = some ([], .tup [.t (.st [.int .u32 0, .ba 32 (zby 32), .ba 32 (zby 32), .int .u32 0, .int .u32 0, .int .u32 0]), .t (.by []), .t (.int .i64 2)]) := by
      rw [h1]; unfold hdR; rw [if_pos h]; rfl
    cases hF'
    repeat refine St h1' ct10 ?_
    exact AWP.ret (Fin @dBl_T [] [])
  | size h e n r hs he =>
    have q1 := hok h
    have q2 := tsz_c hdl hs
    have heb : (e != 0) = true := by simpa using he
    cases hF'
    generalize hdOf b = hd at *
    repeat refine St (And.intro q1 <| And.intro q2 <| And.intro heb <| And.intro h32a <| h32b) ct10 ?_
    exact AWP.ret (Fin @dBl_T [] [])
  | many h n r hs hn =>
    have q1 := hok h
    have q2 := tsz_c hdl hs
    have hn' : 30 < (n : Int) := by omega
    cases hF'
    generalize hdOf b = hd at *
    repeat refine St (And.intro q1 <| And.intro q2 <| And.intro hn' <| And.intro h32a <| h32b) ct10 ?_
    exact AWP.ret (Fin @dBl_T [] [])
  | bad h n r hs hn e hp =>
    have q1 := hok h
    have q2 := tsz_c hdl hs
    have hn' : ¬ 30 < (n : Int) := by omega
    have hrl : r.length ≤ 549755800000 := by have := sz_len (b.drop 80); rw [hs] at this; dsimp only at this; omega
    have q3 := txs_c (n := n) hrl hn
    unfold txsR at q3
    rw [hp] at q3
    have heb : (e != 0) = true := by simpa using pN_err0 hp
    cases hF'
    generalize hdOf b = hd at *
    repeat refine St (And.intro q1 <| And.intro q2 <| And.intro q3 <| And.intro hn' <| And.intro heb <| And.intro h32a <| h32b) ct10 ?_
    exact AWP.ret (Fin @dBl_T [] [])
  | left h n r hs hn l s hp hl =>
    have q1 := hok h
    have q2 := tsz_c hdl hs
    have hn' : ¬ 30 < (n : Int) := by omega
    have hrl : r.length ≤ 549755800000 := by have := sz_len (b.drop 80); rw [hs] at this; dsimp only at this; omega
    have q3 := txs_c (n := n) hrl hn
    unfold txsR at q3
    rw [hp] at q3
    have hsl : 0 < (s.length : Int) := by
      have : 0 < s.length := List.length_pos_iff.2 hl
      omega
    cases hF'
    generalize hdOf b = hd at *
    repeat refine St (And.intro q1 <| And.intro q2 <| And.intro q3 <| And.intro hn' <| And.intro hsl <| And.intro h32a <| h32b) ct10 ?_
    exact AWP.ret (Fin @dBl_T [] [])
  | large h n r hs hn l hp hl =>
    have q1 := hok h
    have q2 := tsz_c hdl hs
    have hn' : ¬ 30 < (n : Int) := by omega
    have hrl : r.length ≤ 549755800000 := by have := sz_len (b.drop 80); rw [hs] at this; dsimp only at this; omega
    have q3 := txs_c (n := n) hrl hn
    unfold txsR at q3
    rw [hp] at q3
    have hbl : 40000 < (b.length : Int) := by omega
    cases hF'
    generalize hdOf b = hd at *
    repeat refine St (And.intro q1 <| And.intro q2 <| And.intro q3 <| And.intro hn' <| And.intro hbl <| And.intro h32a <| h32b) ct10 ?_
    exact AWP.ret (Fin @dBl_T [] [])
  | ok h n r hs hn l hp hl =>
    have q1 := hok h
    have q2 := tsz_c hdl hs
    have hn' : ¬ 30 < (n : Int) := by omega
    have hrl : r.length ≤ 549755800000 := by have := sz_len (b.drop 80); rw [hs] at this; dsimp only at this; omega
    have q3 := txs_c (n := n) hrl hn
    unfold txsR at q3
    rw [hp] at q3
    have hbl : ¬ 40000 < (b.length : Int) := by omega
    have hres : blR (.ok ⟨hdOf b, l⟩ []) = ([], .tup [.t (.st [.st [.int .u32 ((hdOf b).ver.toNat : Int), .ba 32 (hdOf b).prev.1, .ba 32 (hdOf b).root.1, .int .u32 ((hdOf b).time.toNat : Int), .int .u32 ((hdOf b).bits.toNat : Int), .int .u32 ((hdOf b).nonce.toNat : Int)], .sq 4 (l.map txT)]), .t (.int .i64 0)]) := rfl
    rw [hres] at hF'
    cases hF'
    clear hres
    generalize hdOf b = hd at *
    repeat refine St (And.intro q1 <| And.intro q2 <| And.intro q3 <| And.intro hn' <| And.intro hbl <| And.intro h32a <| h32b) ct10 ?_
    exact AWP.ret (Fin trivial [] [])

theorem decb_c {b : List UInt8} (h : b.length ≤ 549755800000) : F10 [.by b] = some (blR (decBl b)) := if_pos h

end Go.Fw

end
