/- The abstract machine, and the contracts of the code: part 47. -/
import Derived.Test.YtfjpkocbfbinaaaFwCp
set_option linter.unusedVariables false
set_option linter.unusedSimpArgs false

section
namespace Go.Fw
open Go Go.Proofs
def F93 : Fun
 | [.by b] => if b.length ≤ 549755813888 then some ([.by b], .own 0) else none
 | _ => none
theorem ct93 : CT [] [0, 2] [] := ⟨GClOk.nil _⟩
theorem c93 : ACon Try.prog 93 F93 := by
 refine aconc E_ok (rs := [.tmp 2 24]) Try.func93 rfl Try.ntmps93 (by kernel_rfl) rfl (by decide) F93 (np := 1) ?_ ?_
 · intro ts h; unfold F93; split <;> first | rfl | (simp at h; done)
 intro ts H r hF hwf
 unfold F93 at hF
 split at hF <;> try (cases hF; done)
 rename_i b
 split at hF
 case isFalse => cases hF
 rename_i hc
 have hb := hc
 cases hF
 repeat refine St trivial ct93 ?_
 exact AWP.ret (Fin trivial [] [0])
def F83 : Fun
 | [.by b, .int .u8 n, .int .i64 m] => if b.length ≤ 549755813000 ∧ 0 ≤ m ∧ m ≤ 16 then some ([.by (b ++ le m.toNat n)], .own 0) else none
 | _ => none
theorem ct83 : CT [] [0, 1, 2, 6, 7, 8, 21, 22, 23] [] := ⟨GClOk.nil _⟩
theorem c83 : ACon Try.prog 83 F83 := by
 refine aconc E_ok (rs := [.tmp 6 24]) Try.func83 rfl Try.ntmps83 (by kernel_rfl) rfl (by decide) F83 (np := 3) ?_ ?_
 · intro ts h; unfold F83; split <;> first | rfl | (simp at h; done)
 intro ts H r hF hwf
 unfold F83 at hF
 split at hF <;> try (cases hF; done)
 rename_i b n m
 split at hF
 case isFalse => cases hF
 rename_i hc
 obtain ⟨hb, h0, h1⟩ := hc
 cases hF
 have hn := inK_u8 (hwf (.int .u8 n) (by simp))
 repeat refine St trivial ct83 ?_
 refine AWP.loop (G := { k : Nat // k ≤ m.toNat }) (fun k => ⟨[(7, .own 0), (8, .t (.int .u64 (shrB k.1 n))), (21, .t (.int .i64 m)), (22, .t (.int .i64 (k.1 : Int)))], [.by (b ++ le k.1 n)]⟩)
   (fun k => m.toNat - k.1) ⟨0, by omega⟩ (Wt (And.intro (And.intro @shrB.eq_1 <| @shrB.eq_2) <| (And.intro @le.eq_1 <| @le.eq_2)) [7, 8, 21, 22] [0]) ?_
 intro ⟨k, hk⟩
 dsimp only
 by_cases hlt : (k : Int) < m
 · have hl : (b ++ le k n).length ≤ 549755813100 := by simp [le_len]; omega
   have hr := shrB_range k n (by omega) (by omega)
   repeat refine St (And.intro @shr8 <| @le_len) ct83 ?_
   exact ⟨⟨k + 1, by omega⟩, (Wt (And.intro (And.intro @shrB.eq_1 <| @shrB.eq_2) <| And.intro (And.intro @le.eq_1 <| @le.eq_2) <| @List.append_assoc.{0}) [7, 8, 21, 22] [2]), by simp only; omega⟩
 · obtain rfl : k = m.toNat := by omega
   repeat refine St trivial ct83 ?_
   exact AWP.ret (Fin trivial [] [0])
def F84 : Fun
 | [.by b, .int .u16 n, .int .i64 m] => if b.length ≤ 549755813000 ∧ 0 ≤ m ∧ m ≤ 16 then some ([.by (b ++ le m.toNat n)], .own 0) else none
 | _ => none
theorem ct84 : CT [] [0, 1, 2, 6, 7, 8, 21, 22, 23] [] := ⟨GClOk.nil _⟩
theorem c84 : ACon Try.prog 84 F84 := by
 refine aconc E_ok (rs := [.tmp 6 24]) Try.func84 rfl Try.ntmps84 (by kernel_rfl) rfl (by decide) F84 (np := 3) ?_ ?_
 · intro ts h; unfold F84; split <;> first | rfl | (simp at h; done)
 intro ts H r hF hwf
 unfold F84 at hF
 split at hF <;> try (cases hF; done)
 rename_i b n m
 split at hF
 case isFalse => cases hF
 rename_i hc
 obtain ⟨hb, h0, h1⟩ := hc
 cases hF
 have hn := inK_u16 (hwf (.int .u16 n) (by simp))
 repeat refine St trivial ct84 ?_
 refine AWP.loop (G := { k : Nat // k ≤ m.toNat }) (fun k => ⟨[(7, .own 0), (8, .t (.int .u64 (shrB k.1 n))), (21, .t (.int .i64 m)), (22, .t (.int .i64 (k.1 : Int)))], [.by (b ++ le k.1 n)]⟩)
   (fun k => m.toNat - k.1) ⟨0, by omega⟩ (Wt (And.intro (And.intro @shrB.eq_1 <| @shrB.eq_2) <| (And.intro @le.eq_1 <| @le.eq_2)) [7, 8, 21, 22] [0]) ?_
 intro ⟨k, hk⟩
 dsimp only
 by_cases hlt : (k : Int) < m
 · have hl : (b ++ le k n).length ≤ 549755813100 := by simp [le_len]; omega
   have hr := shrB_range k n (by omega) (by omega)
   repeat refine St (And.intro @shr8 <| @le_len) ct84 ?_
   exact ⟨⟨k + 1, by omega⟩, (Wt (And.intro (And.intro @shrB.eq_1 <| @shrB.eq_2) <| And.intro (And.intro @le.eq_1 <| @le.eq_2) <| @List.append_assoc.{0}) [7, 8, 21, 22] [2]), by simp only; omega⟩
 · obtain rfl : k = m.toNat := by omega
   repeat refine St trivial ct84 ?_
   exact AWP.ret (Fin trivial [] [0])
def F81 : Fun
 | [.by b, .int .u32 n, .int .i64 m] => if b.length ≤ 549755813000 ∧ 0 ≤ m ∧ m ≤ 16 then some ([.by (b ++ le m.toNat n)], .own 0) else none
 | _ => none
theorem ct81 : CT [] [0, 1, 2, 6, 7, 8, 21, 22, 23] [] := ⟨GClOk.nil _⟩
theorem c81 : ACon Try.prog 81 F81 := by
 refine aconc E_ok (rs := [.tmp 6 24]) Try.func81 rfl Try.ntmps81 (by kernel_rfl) rfl (by decide) F81 (np := 3) ?_ ?_
 · intro ts h; unfold F81; split <;> first | rfl | (simp at h; done)
 intro ts H r hF hwf
 unfold F81 at hF
 split at hF <;> try (cases hF; done)
 rename_i b n m
 split at hF
 case isFalse => cases hF
 rename_i hc
 obtain ⟨hb, h0, h1⟩ := hc
 cases hF
 have hn := inK_u32 (hwf (.int .u32 n) (by simp))
 repeat refine St trivial ct81 ?_
 refine AWP.loop (G := { k : Nat // k ≤ m.toNat }) (fun k => ⟨[(7, .own 0), (8, .t (.int .u64 (shrB k.1 n))), (21, .t (.int .i64 m)), (22, .t (.int .i64 (k.1 : Int)))], [.by (b ++ le k.1 n)]⟩)
   (fun k => m.toNat - k.1) ⟨0, by omega⟩ (Wt (And.intro (And.intro @shrB.eq_1 <| @shrB.eq_2) <| (And.intro @le.eq_1 <| @le.eq_2)) [7, 8, 21, 22] [0]) ?_
 intro ⟨k, hk⟩
 dsimp only
 by_cases hlt : (k : Int) < m
 · have hl : (b ++ le k n).length ≤ 549755813100 := by simp [le_len]; omega
   have hr := shrB_range k n (by omega) (by omega)
   repeat refine St (And.intro @shr8 <| @le_len) ct81 ?_
   exact ⟨⟨k + 1, by omega⟩, (Wt (And.intro (And.intro @shrB.eq_1 <| @shrB.eq_2) <| And.intro (And.intro @le.eq_1 <| @le.eq_2) <| @List.append_assoc.{0}) [7, 8, 21, 22] [2]), by simp only; omega⟩
 · obtain rfl : k = m.toNat := by omega
   repeat refine St trivial ct81 ?_
   exact AWP.ret (Fin trivial [] [0])
def F82 : Fun
 | [.by b, .int .u64 n, .int .i64 m] => if b.length ≤ 549755813000 ∧ 0 ≤ m ∧ m ≤ 16 then some ([.by (b ++ le m.toNat n)], .own 0) else none
 | _ => none
theorem ct82 : CT [] [0, 1, 2, 6, 7, 8, 20, 21, 22] [] := ⟨GClOk.nil _⟩
theorem c82 : ACon Try.prog 82 F82 := by
 refine aconc E_ok (rs := [.tmp 6 24]) Try.func82 rfl Try.ntmps82 (by kernel_rfl) rfl (by decide) F82 (np := 3) ?_ ?_
 · intro ts h; unfold F82; split <;> first | rfl | (simp at h; done)
 intro ts H r hF hwf
 unfold F82 at hF
 split at hF <;> try (cases hF; done)
 rename_i b n m
 split at hF
 case isFalse => cases hF
 rename_i hc
 obtain ⟨hb, h0, h1⟩ := hc
 cases hF
 have hn := inK_u64 (hwf (.int .u64 n) (by simp))
 repeat refine St trivial ct82 ?_
 refine AWP.loop (G := { k : Nat // k ≤ m.toNat }) (fun k => ⟨[(7, .own 0), (8, .t (.int .u64 (shrB k.1 n))), (20, .t (.int .i64 m)), (21, .t (.int .i64 (k.1 : Int)))], [.by (b ++ le k.1 n)]⟩)
   (fun k => m.toNat - k.1) ⟨0, by omega⟩ (Wt (And.intro (And.intro @shrB.eq_1 <| @shrB.eq_2) <| (And.intro @le.eq_1 <| @le.eq_2)) [7, 8, 20, 21] [0]) ?_
 intro ⟨k, hk⟩
 dsimp only
 by_cases hlt : (k : Int) < m
 · have hl : (b ++ le k n).length ≤ 549755813100 := by simp [le_len]; omega
   have hr := shrB_range k n (by omega) (by omega)
   repeat refine St (And.intro @shr8 <| @le_len) ct82 ?_
   exact ⟨⟨k + 1, by omega⟩, (Wt (And.intro (And.intro @shrB.eq_1 <| @shrB.eq_2) <| And.intro (And.intro @le.eq_1 <| @le.eq_2) <| @List.append_assoc.{0}) [7, 8, 20, 21] [2]), by simp only; omega⟩
 · obtain rfl : k = m.toNat := by omega
   repeat refine St trivial ct82 ?_
   exact AWP.ret (Fin trivial [] [0])
def F66 : Fun
 | [.by b, .int .u32 n] => if b.length ≤ 549755812000 then some ([.by (b ++ le 4 n)], .own 0) else none
 | _ => none
theorem ct66 : CT [(81, ⟨[false, false, false], treeG F81⟩)] [0, 1, 4] [] := ⟨(.cons c81.g (.nil _))⟩
theorem c66 : ACon Try.prog 66 F66 := by
 refine aconc E_ok (rs := [.tmp 4 24]) Try.func66 rfl Try.ntmps66 (by kernel_rfl) rfl (by decide) F66 (np := 2) ?_ ?_
 · intro ts h; unfold F66; split <;> first | rfl | (simp at h; done)
 intro ts H r hF hwf
 unfold F66 at hF
 split at hF <;> try (cases hF; done)
 rename_i b n
 split at hF
 case isFalse => cases hF
 rename_i hc
 have hb := hc
 cases hF
 have h : F81 [.by b, .int .u32 n, .int .i64 4] = some ([.by (b ++ le 4 n)], .own 0) := if_pos (by omega)
 repeat refine St h ct66 ?_
 exact AWP.ret (Fin trivial [] [0])
def F67 : Fun
 | [.by b, .int .u64 n] => if b.length ≤ 549755812000 then some ([.by (b ++ le 8 n)], .own 0) else none
 | _ => none
theorem ct67 : CT [(82, ⟨[false, false, false], treeG F82⟩)] [0, 1, 4] [] := ⟨(.cons c82.g (.nil _))⟩
theorem c67 : ACon Try.prog 67 F67 := by
 refine aconc E_ok (rs := [.tmp 4 24]) Try.func67 rfl Try.ntmps67 (by kernel_rfl) rfl (by decide) F67 (np := 2) ?_ ?_
 · intro ts h; unfold F67; split <;> first | rfl | (simp at h; done)
 intro ts H r hF hwf
 unfold F67 at hF
 split at hF <;> try (cases hF; done)
 rename_i b n
 split at hF
 case isFalse => cases hF
 rename_i hc
 have hb := hc
 cases hF
 have h : F82 [.by b, .int .u64 n, .int .i64 8] = some ([.by (b ++ le 8 n)], .own 0) := if_pos (by omega)
 repeat refine St h ct67 ?_
 exact AWP.ret (Fin trivial [] [0])
theorem put64_c {b : List UInt8} (n : Int) (h : b.length ≤ 549755812000) : F67 [.by b, .int .u64 n] = some ([.by (b ++ le 8 n)], .own 0) := if_pos h
theorem put32_c {b : List UInt8} (n : Int) (h : b.length ≤ 549755812000) : F66 [.by b, .int .u32 n] = some ([.by (b ++ le 4 n)], .own 0) := if_pos h
def F70 : Fun
 | [.by b, .int .u64 n] => if b.length ≤ 549755812000 then some ([.by (b ++ sizeB n)], .own 0) else none
 | _ => none
theorem ct70 : CT [(81, ⟨[false, false, false], treeG F81⟩), (82, ⟨[false, false, false], treeG F82⟩), (83, ⟨[false, false, false], treeG F83⟩), (84, ⟨[false, false, false], treeG F84⟩)] [0, 1, 4, 5, 12, 20] [] := ⟨(.cons c81.g (.cons c82.g (.cons c83.g (.cons c84.g (.nil _)))))⟩
theorem c70 : ACon Try.prog 70 F70 := by
 refine aconc E_ok (rs := [.tmp 4 24]) Try.func70 rfl Try.ntmps70 (by kernel_rfl) rfl (by decide) F70 (np := 2) ?_ ?_
 · intro ts h; unfold F70; split <;> first | rfl | (simp at h; done)
 intro ts H r hF hwf
 unfold F70 at hF
 split at hF <;> try (cases hF; done)
 rename_i b n
 split at hF
 case isFalse => cases hF
 rename_i hc
 have hb := hc
 cases hF
 have hn := inK_u64 (hwf (.int .u64 n) (by simp))
 have h8 : ∀ c : Int, F83 [.by b, .int .u8 c, .int .i64 1] = some ([.by (b ++ le 1 c)], .own 0) := fun c => if_pos (by omega)
 have hl : ∀ c : Int, (b ++ le 1 c).length ≤ 549755813000 := fun c => by simp [le_len]; omega
 have h16 : ∀ c d : Int, F84 [.by (b ++ le 1 c), .int .u16 d, .int .i64 2] = some ([.by (b ++ le 1 c ++ le 2 d)], .own 0) := fun c d => if_pos ⟨hl c, by omega⟩
 have h32 : ∀ c d : Int, F81 [.by (b ++ le 1 c), .int .u32 d, .int .i64 4] = some ([.by (b ++ le 1 c ++ le 4 d)], .own 0) := fun c d => if_pos ⟨hl c, by omega⟩
 have h64 : ∀ c d : Int, F82 [.by (b ++ le 1 c), .int .u64 d, .int .i64 8] = some ([.by (b ++ le 1 c ++ le 8 d)], .own 0) := fun c d => if_pos ⟨hl c, by omega⟩
 by_cases h1 : n < 253
 · have hw : IntKind.u8.wrap n = n := wrap_u8 (by omega) (by omega)
   repeat refine St (And.intro hw <| h8) ct70 ?_
   exact AWP.ret (Fin (And.intro @sizeB.eq_def <| h1) [] [0])
 by_cases h2 : n < 65536
 · have hw : IntKind.u16.wrap n = n := wrap_u16 (by omega) (by omega)
   repeat refine St (And.intro hw <| And.intro h8 <| h16) ct70 ?_
   exact AWP.ret (Fin (And.intro @sizeB.eq_def <| And.intro h1 <| And.intro h2 <| @List.append_assoc.{0}) [] [1])
 by_cases h3 : n < 4294967296
 · have hw : IntKind.u32.wrap n = n := wrap_u32 (by omega) (by omega)
   repeat refine St (And.intro hw <| And.intro h8 <| h32) ct70 ?_
   exact AWP.ret (Fin (And.intro @sizeB.eq_def <| And.intro h1 <| And.intro h2 <| And.intro h3 <| @List.append_assoc.{0}) [] [1])
 repeat refine St (And.intro h8 <| h64) ct70 ?_
 exact AWP.ret (Fin (And.intro @sizeB.eq_def <| And.intro h1 <| And.intro h2 <| And.intro h3 <| @List.append_assoc.{0}) [] [1])
theorem putsize_c {b : List UInt8} (n : Int) (h : b.length ≤ 549755812000) : F70 [.by b, .int .u64 n] = some ([.by (b ++ sizeB n)], .own 0) := if_pos h
def F68 : Fun
 | [.by b, .by x] => if b.length + x.length ≤ 549755800000 then some ([.by (b ++ sizeB x.length ++ x)], .own 0) else none
 | _ => none
theorem ct68 : CT [(70, ⟨[false, false], treeG F70⟩)] [0, 1, 4] [] := ⟨(.cons c70.g (.nil _))⟩
theorem c68 : ACon Try.prog 68 F68 := by
 refine aconc E_ok (rs := [.tmp 4 24]) Try.func68 rfl Try.ntmps68 (by kernel_rfl) rfl (by decide) F68 (np := 2) ?_ ?_
 · intro ts h; unfold F68; split <;> first | rfl | (simp at h; done)
 intro ts H r hF hwf
 unfold F68 at hF
 split at hF <;> try (cases hF; done)
 rename_i b x
 split at hF
 case isFalse => cases hF
 rename_i hc
 have hb := hc
 cases hF
 have hs := sizeB_len (x.length : Int)
 have h : F70 [.by b, .int .u64 (x.length : Int)] = some ([.by (b ++ sizeB x.length)], .own 0) := if_pos (by omega)
 have hl : (b ++ sizeB x.length).length ≤ 549755812000 := by simp; omega
 repeat refine St h ct68 ?_
 exact AWP.ret (Fin trivial [] [1])
theorem putbytes_c {b x : List UInt8} (h : b.length + x.length ≤ 549755800000) : F68 [.by b, .by x] = some ([.by (b ++ sizeB x.length ++ x)], .own 0) := if_pos h
end Go.Fw

end

section
namespace Go.Fw
open Go Go.Proofs
def F92 : Fun
 | [.by b, .int .i64 n] => some ([], .tup [.t (.by (spA b n)), .t (.by (spB b n)), .t (.int .i64 (spE b n))])
 | _ => none
theorem ct92 : CT [] [0, 1, 4, 5, 6, 7, 10] [(5, [⟨0, [0], [], []⟩, ⟨0, [1], [], []⟩, ⟨1, [15, 16], [], []⟩, ⟨0, [0], [], []⟩, ⟨0, [1], [], []⟩, ⟨1, [18, 19], [], []⟩, ⟨0, [17], [2], []⟩, ⟨0, [20], [2, 5], []⟩, ⟨0, [], [2, 5], []⟩])] := ⟨GClOk.nil _⟩
theorem c92 : ACon Try.prog 92 F92 := by
 refine aconc E_ok (rs := [.tmp 4 24, .tmp 5 24, .tmp 6 28]) Try.func92 rfl Try.ntmps92 (by kernel_rfl) rfl (by decide) F92 (np := 2) ?_ ?_
 · intro ts h; unfold F92; split <;> first | rfl | (simp at h; done)
 intro ts H r hF hwf
 unfold F92 at hF
 split at hF <;> try (cases hF; done)
 rename_i b n
 cases hF
 by_cases h1 : n < 0
 · repeat refine St trivial ct92 ?_
   exact AWP.ret (Fin (And.intro @spA.eq_def <| And.intro @spB.eq_def <| And.intro @spE.eq_def <| h1) [] [])
 by_cases h2 : (b.length : Int) < n
 · repeat refine St trivial ct92 ?_
   exact AWP.ret (Fin (And.intro @spA.eq_def <| And.intro @spB.eq_def <| And.intro @spE.eq_def <| And.intro h1 <| h2) [] [])
 repeat refine St trivial ct92 ?_
 exact AWP.ret (Fin (And.intro @spA.eq_def <| And.intro @spB.eq_def <| And.intro @spE.eq_def <| And.intro h1 <| h2) [] [])
def F85 : Fun
 | [.by b, .int .i64 n] => if b.length ≤ 549755813000 then some ([.by (spA b n)], .tup [.own 0, .t (.by (spB b n)), .t (.int .i64 (spE b n))]) else none
 | _ => none
theorem ct85 : CT [(92, ⟨[false, false], treeG F92⟩), (93, ⟨[false], treeG F93⟩)] [0, 1, 4, 5, 6, 7, 8, 9] [] := ⟨(.cons c92.g (.cons c93.g (.nil _)))⟩
theorem c85 : ACon Try.prog 85 F85 := by
 refine aconc E_ok (rs := [.tmp 4 24, .tmp 5 24, .tmp 6 28]) Try.func85 rfl Try.ntmps85 (by kernel_rfl) rfl (by decide) F85 (np := 2) ?_ ?_
 · intro ts h; unfold F85; split <;> first | rfl | (simp at h; done)
 intro ts H r hF hwf
 unfold F85 at hF
 split at hF <;> try (cases hF; done)
 rename_i b n
 split at hF
 case isFalse => cases hF
 rename_i hc
 have hb := hc
 cases hF
 have h1 := spA_len b n
 have h2 := spB_len b n
 have ha : F93 [.by (spA b n)] = some ([.by (spA b n)], .own 0) := if_pos (by omega)
 have hb : F93 [.by (spB b n)] = some ([.by (spB b n)], .own 0) := if_pos (by omega)
 repeat refine St (And.intro @F92.eq_def <| And.intro ha <| hb) ct85 ?_
 exact AWP.ret (Fin trivial [1] [0])
theorem take_c {b : List UInt8} (n : Int) (h : b.length ≤ 549755813000) : F85 [.by b, .int .i64 n] = some ([.by (spA b n)], .tup [.own 0, .t (.by (spB b n)), .t (.int .i64 (spE b n))]) := if_pos h
def F94 : Fun
 | [.by b, .int .i64 n] => if n ≤ 8 then some ([], .tup [.t (.int .u64 (num (spA b n))), .t (.by (spB b n)), .t (.int .i64 (spE b n))]) else none
 | _ => none
theorem ct94 : CT [(92, ⟨[false, false], treeG F92⟩)] [0, 1, 4, 5, 6, 7, 8, 9, 10, 11, 20, 21, 22] [] := ⟨(.cons c92.g (.nil _))⟩
theorem c94 : ACon Try.prog 94 F94 := by
 refine aconc E_ok (rs := [.tmp 4 40, .tmp 5 24, .tmp 6 28]) Try.func94 rfl Try.ntmps94 (by kernel_rfl) rfl (by decide) F94 (np := 2) ?_ ?_
 · intro ts h; unfold F94; split <;> first | rfl | (simp at h; done)
 intro ts H r hF hwf
 unfold F94 at hF
 split at hF <;> try (cases hF; done)
 rename_i b n
 split at hF
 case isFalse => cases hF
 rename_i hc
 have hn := hc
 cases hF
 have h8 := spA_le b n 8 hn
 generalize hx : spA b n = x at h8
 repeat refine St (And.intro @F92.eq_def <| hx) ct94 ?_
 have hz : num (x.take 0) = 0 := by simp [num]
 refine AWP.loop (G := { k : Nat // k ≤ x.length }) (fun k => ⟨[(7, .t (.by x)), (8, .t (.by (spB b n))), (9, .t (.int .i64 (spE b n))), (10, .t (.int .u64 (num (x.take k.1)))), (20, .t (.int .i64 (x.length : Int))), (21, .t (.int .i64 (k.1 : Int)))], []⟩)
   (fun k => x.length - k.1) ⟨0, by omega⟩ (Wt (And.intro hz <| (And.intro @num.eq_1 <| @num.eq_2)) [7, 8, 9, 10, 20, 21] []) ?_
 intro ⟨k, hk⟩
 dsimp only
 by_cases hlt : (k : Int) < (x.length : Int)
 · have hd := num_take x k (by omega)
   have h88 := num_lt8 (x.take (k + 1)) (by simp; omega)
   have hp := num_lt (x.take k)
   have htl : (x.take k).length = k := by simp; omega
   rw [htl] at hp
   have hc := (x.getD k 0).toNat_lt
   have e1 : IntKind.i64.wrap (8 * (k : Int)) = ((8 * k : Nat) : Int) := by rw [wrap_i64 (by omega) (by omega)]; omega
   have e2 : IntKind.u64.wrap (((x.getD k 0).toNat : Int) * 2 ^ min (8 * k) IntKind.u64.bits) = (((x.getD k 0).toNat * 256 ^ k : Nat) : Int) := by
     have := shl_step (x.getD k 0).toNat k (by omega) (by omega)
     simp only [arith, Int.toNat_natCast] at this
     rw [if_neg (by omega)] at this
     have h1 : min (8 * k) IntKind.u64.bits = min (8 * k) 64 := rfl
     simpa using this
   have e3 : abits .or .u64 (num (x.take k) : Int) (((x.getD k 0).toNat * 256 ^ k : Nat) : Int) = ((num (x.take (k + 1)) : Nat) : Int) := by
     have := or_step (num (x.take k)) (x.getD k 0).toNat k hp (by omega)
     rw [← hd] at this
     simpa only [arith, Option.some.injEq, T.int.injEq, true_and] using this
   have e0 : ¬ ((8 * k : Nat) : Int) < 0 := by omega
   have hkx : k < x.length := by omega
   have e4 : IntKind.u64.wrap ((x.getD k 0).toNat : Int) = ((x.getD k 0).toNat : Int) := wrap_u64 (by omega) (by omega)
   repeat refine St (And.intro hkx <| And.intro e0 <| And.intro e1 <| And.intro e2 <| And.intro e3 <| e4) ct94 ?_
   exact ⟨⟨k + 1, by omega⟩, (Wt trivial [7, 8, 9, 10, 20, 21] []), by simp only; omega⟩
 · obtain rfl : k = x.length := by omega
   repeat refine St trivial ct94 ?_
   exact AWP.ret (Fin (@List.take_length.{0}) [] [])
theorem read_c (l : List UInt8) (n : Int) (h : n ≤ 8) : F94 [.by l, .int .i64 n] = some ([], .tup [.t (.int .u64 (num (spA l n))), .t (.by (spB l n)), .t (.int .i64 (spE l n))]) := if_pos h
def F87 : Fun
 | [.by b] => if b.length ≤ 549755813000 then some ([], .tup [.t (.int .u32 (num (spA b 4))), .t (.by (spB b 4)), .t (.int .i64 (spE b 4))]) else none
 | _ => none
theorem ct87 : CT [(93, ⟨[false], treeG F93⟩), (94, ⟨[false, false], treeG F94⟩)] [0, 2, 3, 4, 5, 6, 7] [] := ⟨(.cons c93.g (.cons c94.g (.nil _)))⟩
theorem c87 : ACon Try.prog 87 F87 := by
 refine aconc E_ok (rs := [.tmp 2 23, .tmp 3 24, .tmp 4 28]) Try.func87 rfl Try.ntmps87 (by kernel_rfl) rfl (by decide) F87 (np := 1) ?_ ?_
 · intro ts h; unfold F87; split <;> first | rfl | (simp at h; done)
 intro ts H r hF hwf
 unfold F87 at hF
 split at hF <;> try (cases hF; done)
 rename_i b
 split at hF
 case isFalse => cases hF
 rename_i hc
 have hb := hc
 cases hF
 have hl := spB_len b 4
 have h4 := num_lt4 (spA b 4) (spA_le b 4 4 (by omega))
 have hw : IntKind.u32.wrap (num (spA b 4) : Int) = num (spA b 4) := wrap_u32 (by omega) (by omega)
 have h1 := read_c b 4 (by omega)
 have h2 : F93 [.by (spB b 4)] = some ([.by (spB b 4)], .own 0) := if_pos (by omega)
 repeat refine St (And.intro h1 <| And.intro h2 <| hw) ct87 ?_
 exact AWP.ret (Fin trivial [0] [])
def F88 : Fun
 | [.by b] => if b.length ≤ 549755813000 then some ([], .tup [.t (.int .u64 (num (spA b 8))), .t (.by (spB b 8)), .t (.int .i64 (spE b 8))]) else none
 | _ => none
theorem ct88 : CT [(93, ⟨[false], treeG F93⟩), (94, ⟨[false, false], treeG F94⟩)] [0, 2, 3, 4, 5, 6, 7] [] := ⟨(.cons c93.g (.cons c94.g (.nil _)))⟩
theorem c88 : ACon Try.prog 88 F88 := by
 refine aconc E_ok (rs := [.tmp 2 40, .tmp 3 24, .tmp 4 28]) Try.func88 rfl Try.ntmps88 (by kernel_rfl) rfl (by decide) F88 (np := 1) ?_ ?_
 · intro ts h; unfold F88; split <;> first | rfl | (simp at h; done)
 intro ts H r hF hwf
 unfold F88 at hF
 split at hF <;> try (cases hF; done)
 rename_i b
 split at hF
 case isFalse => cases hF
 rename_i hc
 have hb := hc
 cases hF
 have hl := spB_len b 8
 have h4 := num_lt8 (spA b 8) (spA_le b 8 8 (by omega))
 have hw : IntKind.u64.wrap (num (spA b 8) : Int) = num (spA b 8) := wrap_u64 (by omega) (by omega)
 have h1 := read_c b 8 (by omega)
 have h2 : F93 [.by (spB b 8)] = some ([.by (spB b 8)], .own 0) := if_pos (by omega)
 repeat refine St (And.intro h1 <| And.intro h2 <| hw) ct88 ?_
 exact AWP.ret (Fin trivial [0] [])
theorem take64_c {b : List UInt8} (h : b.length ≤ 549755813000) : F88 [.by b] = some ([], .tup [.t (.int .u64 (num (spA b 8))), .t (.by (spB b 8)), .t (.int .i64 (spE b 8))]) := if_pos h
theorem take32_c {b : List UInt8} (h : b.length ≤ 549755813000) : F87 [.by b] = some ([], .tup [.t (.int .u32 (num (spA b 4))), .t (.by (spB b 4)), .t (.int .i64 (spE b 4))]) := if_pos h
def F96 : Fun
 | [.by b] => some ([], .tup [.t (.int .u64 ((sz b).1 : Nat)), .t (.by (sz b).2.1), .t (.int .i64 (sz b).2.2)])
 | _ => none
theorem ct96 : CT [(94, ⟨[false, false], treeG F94⟩)] [0, 2, 3, 4, 5, 6, 7, 8, 9, 10, 18, 20, 23, 25, 27, 36, 40] [] := ⟨(.cons c94.g (.nil _))⟩
set_option maxHeartbeats 2000000 in
theorem c96 : ACon Try.prog 96 F96 := by
 refine aconc E_ok (rs := [.tmp 2 40, .tmp 3 24, .tmp 4 28]) Try.func96 rfl Try.ntmps96 (by kernel_rfl) rfl (by decide) F96 (np := 1) ?_ ?_
 · intro ts h; unfold F96; split <;> first | rfl | (simp at h; done)
 intro ts H r hF hwf
 unfold F96 at hF
 split at hF <;> try (cases hF; done)
 rename_i b
 cases hF
 have r1 := read_c b 1 (by omega)
 have r2 := read_c (spB b 1) 2 (by omega)
 have r4 := read_c (spB b 1) 4 (by omega)
 have r8 := read_c (spB b 1) 8 (by omega)
 have hsz := sz.eq_1 b
 generalize sz b = R at *
 generalize spB b 1 = y at *
 by_cases h1 : spE b 1 = 0
 case neg =>
   simp only [h1, ne_eq, not_false_eq_true, if_true] at hsz
   repeat refine St r1 ct96 ?_
   exact AWP.ret (Fin hsz [] [])
 simp only [h1, ne_eq, not_true_eq_false, if_false] at hsz
 rw [h1] at r1
 obtain ⟨x, hx⟩ : ∃ x : Nat, num (spA b 1) = x := ⟨_, rfl⟩
 rw [hx] at hsz r1
 by_cases h253 : x = 253
 case pos =>
   subst h253
   simp only [Nat.reduceEqDiff, if_true, if_false] at hsz
   unfold rdR at hsz
   by_cases k1 : spE y 2 = 0
   case neg =>
     simp only [k1, ne_eq, not_false_eq_true, if_true] at hsz
     repeat refine St (And.intro r1 <| r2) ct96 ?_
     exact AWP.ret (Fin hsz [] [])
   simp only [k1, ne_eq, not_true_eq_false, if_false] at hsz
   rw [k1] at r2
   split at hsz
   · repeat refine St (And.intro r1 <| r2) ct96 ?_
     exact AWP.ret (Fin hsz [] [])
   · repeat refine St (And.intro r1 <| r2) ct96 ?_
     exact AWP.ret (Fin hsz [] [])
 by_cases h254 : x = 254
 case pos =>
   subst h254
   simp only [Nat.reduceEqDiff, if_true, if_false] at hsz
   unfold rdR at hsz
   by_cases k1 : spE y 4 = 0
   case neg =>
     simp only [k1, ne_eq, not_false_eq_true, if_true] at hsz
     repeat refine St (And.intro r1 <| r4) ct96 ?_
     exact AWP.ret (Fin hsz [] [])
   simp only [k1, ne_eq, not_true_eq_false, if_false] at hsz
   rw [k1] at r4
   split at hsz
   · repeat refine St (And.intro r1 <| r4) ct96 ?_
     exact AWP.ret (Fin hsz [] [])
   · repeat refine St (And.intro r1 <| r4) ct96 ?_
     exact AWP.ret (Fin hsz [] [])
 by_cases h255 : x = 255
 case pos =>
   subst h255
   simp only [Nat.reduceEqDiff, if_true, if_false] at hsz
   unfold rdR at hsz
   by_cases k1 : spE y 8 = 0
   case neg =>
     simp only [k1, ne_eq, not_false_eq_true, if_true] at hsz
     repeat refine St (And.intro r1 <| r8) ct96 ?_
     exact AWP.ret (Fin hsz [] [])
   simp only [k1, ne_eq, not_true_eq_false, if_false] at hsz
   rw [k1] at r8
   split at hsz
   · repeat refine St (And.intro r1 <| r8) ct96 ?_
     exact AWP.ret (Fin hsz [] [])
   · repeat refine St (And.intro r1 <| r8) ct96 ?_
     exact AWP.ret (Fin hsz [] [])
 simp only [h253, h254, h255, if_false] at hsz
 repeat refine St r1 ct96 ?_
 exact AWP.ret (Fin hsz [] [])
def F91 : Fun
 | [.by b] => if b.length ≤ 549755813000 then some ([], .tup [.t (.int .u64 ((sz b).1 : Nat)), .t (.by (sz b).2.1), .t (.int .i64 (sz b).2.2)]) else none
 | _ => none
theorem ct91 : CT [(93, ⟨[false], treeG F93⟩), (96, ⟨[false], treeG F96⟩)] [0, 2, 3, 4, 5, 6, 7] [] := ⟨(.cons c93.g (.cons c96.g (.nil _)))⟩
theorem c91 : ACon Try.prog 91 F91 := by
 refine aconc E_ok (rs := [.tmp 2 40, .tmp 3 24, .tmp 4 28]) Try.func91 rfl Try.ntmps91 (by kernel_rfl) rfl (by decide) F91 (np := 1) ?_ ?_
 · intro ts h; unfold F91; split <;> first | rfl | (simp at h; done)
 intro ts H r hF hwf
 unfold F91 at hF
 split at hF <;> try (cases hF; done)
 rename_i b
 split at hF
 case isFalse => cases hF
 rename_i hc
 have hb := hc
 cases hF
 have hl := sz_len b
 have h2 : F93 [.by (sz b).2.1] = some ([.by (sz b).2.1], .own 0) := if_pos (by omega)
 repeat refine St (And.intro @F96.eq_def <| h2) ct91 ?_
 exact AWP.ret (Fin trivial [0] [])
theorem takesize_c {b : List UInt8} (h : b.length ≤ 549755813000) : F91 [.by b] = some ([], .tup [.t (.int .u64 ((sz b).1 : Nat)), .t (.by (sz b).2.1), .t (.int .i64 (sz b).2.2)]) := if_pos h
end Go.Fw

end

section
namespace Go.Fw
open Go Go.Proofs
def F97 : Fun
 | [.by b, .int .i64 most] => some ([], .tup [.t (.int .i64 ((bnd b most).1 : Nat)), .t (.by (bnd b most).2.1), .t (.int .i64 (bnd b most).2.2)])
 | _ => none
theorem ct97 : CT [(96, ⟨[false], treeG F96⟩)] [0, 1, 4, 5, 6, 7, 8, 9, 16, 20] [] := ⟨(.cons c96.g (.nil _))⟩
theorem c97 : ACon Try.prog 97 F97 := by
 refine aconc E_ok (rs := [.tmp 4 3, .tmp 5 24, .tmp 6 28]) Try.func97 rfl Try.ntmps97 (by kernel_rfl) rfl (by decide) F97 (np := 2) ?_ ?_
 · intro ts h; unfold F97; split <;> first | rfl | (simp at h; done)
 intro ts H r hF hwf
 unfold F97 at hF
 split at hF <;> try (cases hF; done)
 rename_i b most
 cases hF
 have hm := inK_i64 (hwf (.int .i64 most) (by simp))
 have hs : F96 [.by b] = some ([], .tup [.t (.int .u64 ((sz b).1 : Nat)), .t (.by (sz b).2.1), .t (.int .i64 (sz b).2.2)]) := rfl
 have hb := bnd.eq_1 b most
 generalize bnd b most = R at *
 generalize sz b = Z at *
 by_cases h1 : Z.2.2 = 0
 case neg =>
   simp only [h1, ne_eq, not_false_eq_true, if_true] at hb
   repeat refine St hs ct97 ?_
   exact AWP.ret (Fin hb [] [])
 simp only [h1, ne_eq, not_true_eq_false, if_false] at hb
 rw [h1] at hs
 by_cases h2 : most < 0
 · simp only [h2, true_or, if_true] at hb
   repeat refine St (And.intro hs <| h2) ct97 ?_
   exact AWP.ret (Fin hb [] [])
 have hw : IntKind.u64.wrap most = most := wrap_u64 (by omega) (by omega)
 by_cases h3 : most < (Z.1 : Int)
 · simp only [h3, or_true, if_true] at hb
   repeat refine St (And.intro hs <| And.intro h2 <| And.intro h3 <| hw) ct97 ?_
   exact AWP.ret (Fin hb [] [])
 simp only [h2, h3, or_self, if_false] at hb
 repeat refine St (And.intro hs <| And.intro h2 <| And.intro h3 <| hw) ct97 ?_
 exact AWP.ret (Fin hb [] [])
def F95 : Fun
 | [.by b, .int .i64 most] => some ([], .tup [.t (.by (lim b most).1), .t (.by (lim b most).2.1), .t (.int .i64 (lim b most).2.2)])
 | _ => none
theorem ct95 : CT [(92, ⟨[false, false], treeG F92⟩), (97, ⟨[false, false], treeG F97⟩)] [0, 1, 4, 5, 6, 7, 8, 9, 18] [] := ⟨(.cons c92.g (.cons c97.g (.nil _)))⟩
theorem c95 : ACon Try.prog 95 F95 := by
 refine aconc E_ok (rs := [.tmp 4 24, .tmp 5 24, .tmp 6 28]) Try.func95 rfl Try.ntmps95 (by kernel_rfl) rfl (by decide) F95 (np := 2) ?_ ?_
 · intro ts h; unfold F95; split <;> first | rfl | (simp at h; done)
 intro ts H r hF hwf
 unfold F95 at hF
 split at hF <;> try (cases hF; done)
 rename_i b most
 cases hF
 by_cases h1 : (bnd b most).2.2 = 0
 · have hl : lim b most = (spA (bnd b most).2.1 (bnd b most).1, spB (bnd b most).2.1 (bnd b most).1, spE (bnd b most).2.1 (bnd b most).1) := by simp only [lim, h1, ne_eq, not_true_eq_false, if_false]
   repeat refine St (And.intro @F97.eq_def <| @F92.eq_def) ct95 ?_
   exact AWP.ret (Fin hl [] [])
 · have hl : lim b most = ([], [], (bnd b most).2.2) := by simp only [lim, h1, ne_eq, not_false_eq_true, if_true]
   repeat refine St @F97.eq_def ct95 ?_
   exact AWP.ret (Fin hl [] [])
def F89 : Fun
 | [.by b, .int .i64 most] => if b.length ≤ 549755813000 then some ([], .tup [.t (.by (lim b most).1), .t (.by (lim b most).2.1), .t (.int .i64 (lim b most).2.2)]) else none
 | _ => none
theorem ct89 : CT [(93, ⟨[false], treeG F93⟩), (95, ⟨[false, false], treeG F95⟩)] [0, 1, 4, 5, 6, 7, 8, 9] [] := ⟨(.cons c93.g (.cons c95.g (.nil _)))⟩
theorem c89 : ACon Try.prog 89 F89 := by
 refine aconc E_ok (rs := [.tmp 4 24, .tmp 5 24, .tmp 6 28]) Try.func89 rfl Try.ntmps89 (by kernel_rfl) rfl (by decide) F89 (np := 2) ?_ ?_
 · intro ts h; unfold F89; split <;> first | rfl | (simp at h; done)
 intro ts H r hF hwf
 unfold F89 at hF
 split at hF <;> try (cases hF; done)
 rename_i b most
 split at hF
 case isFalse => cases hF
 rename_i hc
 have hb := hc
 cases hF
 obtain ⟨hl1, hl2⟩ := lim_len b most
 have h1 : F93 [.by (lim b most).1] = some ([.by (lim b most).1], .own 0) := if_pos (by omega)
 have h2 : F93 [.by (lim b most).2.1] = some ([.by (lim b most).2.1], .own 0) := if_pos (by omega)
 repeat refine St (And.intro @F95.eq_def <| And.intro h1 <| h2) ct89 ?_
 exact AWP.ret (Fin trivial [0, 1] [])
theorem takebytes_c {b : List UInt8} (most : Int) (h : b.length ≤ 549755813000) : F89 [.by b, .int .i64 most] = some ([], .tup [.t (.by (lim b most).1), .t (.by (lim b most).2.1), .t (.int .i64 (lim b most).2.2)]) := if_pos h
end Go.Fw

end

section
namespace Go.Fw
open Go Go.Proofs
theorem AWP.dK2 {gl : GCalls} {keep : List Nat} {ds : List (Nat × List Info)} {kp N id : Nat} {l : List Oper} {Q : Exit → AS → Prop} {S S' : AS} (ct : CT gl keep ds) {fs : List Info} (hl : lkD id ds = some fs) (hdep : dOk2 l fs = true) (h : drunP E eqq gl N keep l fs S = some S') (hQ : Q .normal S') : AWP kp Try.prog N (.region id l.toArray true) Q S :=
 AWP.gdraw2 X_ok ct.cl keep mix fs hdep h hQ
theorem St2 {F : Prop} (hF : F) {gl : GCalls} {keep : List Nat} {ds : List (Nat × List Info)} (ct : CT gl keep ds) {A B : Prop} (k : B) (h : F → CT gl keep ds → KB B → A := by
 (intro hF ct hk; (first
   | refine AWP.seq ?_
   | refine AWP.block ?_
   | (refine AWP.rK ct (Ev hF) ?_; try show AWP _ _ _ _ _ _)
   | (refine AWP.condT ?_ ?_; focus (simp only [W, eqq, ↓reduceIte, Nat.reduceEqDiff, Nat.reduceLT, Nat.reduceLeDiff, Nat.reduceAdd, Nat.reduceMul, Nat.reduceSub, Nat.reduceBEq, Int.reduceLE, Int.reduceLT, Int.reduceNeg, Int.reduceToNat, Int.reduceEq, Int.reduceBEq, Int.reduceBNe, Nat.reduceBNe, bne_self_eq_false, reduceCtorEq, gt_iff_lt, ge_iff_le, hF]; done))
   | (refine AWP.condF ?_ ?_; focus (simp only [W, eqq, ↓reduceIte, Nat.reduceEqDiff, Nat.reduceLT, Nat.reduceLeDiff, Nat.reduceAdd, Nat.reduceMul, Nat.reduceSub, Nat.reduceBEq, Int.reduceLE, Int.reduceLT, Int.reduceNeg, Int.reduceToNat, Int.reduceEq, Int.reduceBEq, Int.reduceBNe, Nat.reduceBNe, bne_self_eq_false, reduceCtorEq, gt_iff_lt, ge_iff_le, hF]; done))
   | (refine AWP.cT (by simp only [W, eqq, ↓reduceIte, Nat.reduceEqDiff, Nat.reduceLT, Nat.reduceLeDiff, Nat.reduceAdd, Nat.reduceMul, Nat.reduceSub, Nat.reduceBEq, Int.reduceLE, Int.reduceLT, Int.reduceNeg, Int.reduceToNat, Int.reduceEq, Int.reduceBEq, Int.reduceBNe, Nat.reduceBNe, bne_self_eq_false, reduceCtorEq, gt_iff_lt, ge_iff_le, hF]; with_reducible rfl) (by simp only [BL, beq_iff_eq, bne_iff_ne, beq_eq_false_iff_ne, bne_eq_false_iff_eq]; omega) ?_)
   | (refine AWP.cF (by simp only [W, eqq, ↓reduceIte, Nat.reduceEqDiff, Nat.reduceLT, Nat.reduceLeDiff, Nat.reduceAdd, Nat.reduceMul, Nat.reduceSub, Nat.reduceBEq, Int.reduceLE, Int.reduceLT, Int.reduceNeg, Int.reduceToNat, Int.reduceEq, Int.reduceBEq, Int.reduceBNe, Nat.reduceBNe, bne_self_eq_false, reduceCtorEq, gt_iff_lt, ge_iff_le, hF]; with_reducible rfl) (by simp only [BL, beq_iff_eq, bne_iff_ne, beq_eq_false_iff_ne, bne_eq_false_iff_eq]; omega) ?_)
   | (refine AWP.skip ?_; try show AWP _ _ _ _ _ _)
   | (refine AWP.exit ?_; try show AWP _ _ _ _ _ _)
   | (refine AWP.dK2 ct (by rfl) (by kernel_rfl) (Ev hF) ?_; try show AWP _ _ _ _ _ _)); exact hk.out)) : A := h hF ct ⟨k⟩
end Go.Fw

end

section
namespace Go.Fw
open Go Go.Proofs
theorem op_inK {n : Int} (h : inK .u8 n) : ∃ c : UInt8, n = (c.toNat : Int) := by
 obtain ⟨h1, h2⟩ := h
 have h2' : n ≤ 255 := h2
 have h1' : 0 ≤ n := h1
 refine ⟨UInt8.ofNat n.toNat, ?_⟩
 rw [UInt8.toNat_ofNat']; omega
def F47 : Fun
 | [.int .u8 n] => some ([], .t (.bool (decide (1 ≤ n) && decide (n ≤ 10))))
 | _ => none
theorem ct47 : CT [] [0, 2] [] := ⟨GClOk.nil _⟩
theorem c47 : ACon Try.prog 47 F47 := by
 refine aconc E_ok (rs := [.tmp 2 4]) Try.func47 rfl Try.ntmps47 (by kernel_rfl) rfl (by decide) F47 (np := 1) ?_ ?_
 · intro ts h; unfold F47; split <;> first | rfl | (simp at h; done)
 intro ts H r hF hwf
 unfold F47 at hF
 split at hF <;> try (cases hF; done)
 rename_i n
 cases hF
 by_cases h1 : 1 ≤ n
 · by_cases h2 : n ≤ 10
   · have e : (decide (1 ≤ n) && decide (n ≤ 10)) = true := by rw [decide_eq_true h1, decide_eq_true h2]; rfl
     rw [e]
     repeat refine St2 (And.intro h1 <| h2) ct47 ?_
     exact AWP.ret (Fin trivial [] [])
   · have e : (decide (1 ≤ n) && decide (n ≤ 10)) = false := by rw [decide_eq_false h2, Bool.and_false]
     rw [e]
     repeat refine St2 (And.intro h1 <| h2) ct47 ?_
     exact AWP.ret (Fin trivial [] [])
 · have e : (decide (1 ≤ n) && decide (n ≤ 10)) = false := by rw [decide_eq_false h1]; rfl
   rw [e]
   repeat refine St2 h1 ct47 ?_
   exact AWP.ret (Fin trivial [] [])
theorem isop_c (c : UInt8) : F47 [.int .u8 (c.toNat : Int)] = some ([], .t (.bool (isOp c))) := by
 have e1 : decide (1 ≤ (c.toNat : Int)) = decide (1 ≤ c.toNat) := by rw [decide_eq_decide]; omega
 have e2 : decide ((c.toNat : Int) ≤ 10) = decide (c.toNat ≤ 10) := by rw [decide_eq_decide]; omega
 show some ([], AV.t (.bool (decide (1 ≤ (c.toNat : Int)) && decide ((c.toNat : Int) ≤ 10)))) = _
 rw [e1, e2]; rfl
def F49 : Fun
 | [.by a, .by b] => some ([], .t (.bool (a == b)))
 | _ => none
theorem ct49 : CT [] [0, 1, 4] [] := ⟨GClOk.nil _⟩
theorem c49 : ACon Try.prog 49 F49 := by
 refine aconc E_ok (rs := [.tmp 4 4]) Try.func49 rfl Try.ntmps49 (by kernel_rfl) rfl (by decide) F49 (np := 2) ?_ ?_
 · intro ts h; unfold F49; split <;> first | rfl | (simp at h; done)
 intro ts H r hF hwf
 unfold F49 at hF
 split at hF <;> try (cases hF; done)
 rename_i a b
 cases hF
 repeat refine St2 trivial ct49 ?_
 exact AWP.ret (Fin trivial [] [])
abbrev rX (s : RSt) : Blk := .bx (.t (.st [.by s.b, .bool (decide (s.e ≠ 0))]))
def G86 : GFun
 | [.bx (.t (.st [.by b, .bool w]))], [.ptr 0 0 [], .t (.by r), .t (.int .i64 e)] =>
   if e ≠ 0 then some ([.bx (.t (.st [.by b, .bool true]))], .t (.bool false))
   else if w = true then some ([.bx (.t (.st [.by b, .bool true]))], .t (.bool false))
   else some ([.bx (.t (.st [.by r, .bool false]))], .t (.bool true))
 | _, _ => none
theorem ct86 : CT [] [0, 1, 2, 6, 8, 15] [] := ⟨GClOk.nil _⟩
theorem g86 : GCon Try.prog 86 G86 := by
 refine gconc E_ok (rs := [.tmp 6 4]) Try.func86 rfl Try.ntmps86 (by kernel_rfl) rfl (by decide) G86 (np := 3) ?_ ?_
 · intro HB xs h; unfold G86; split <;> first | rfl | (simp at h; done)
 intro HB xs H r hG hwf hex
 unfold G86 at hG
 split at hG <;> try (cases hG; done)
 rename_i b w r e
 by_cases he : e = 0
 · subst he
   rw [if_neg (by simp)] at hG
   cases w with
   | true =>
     rw [if_pos rfl] at hG
     cases hG
     repeat refine St2 (And.intro @gentry.eq_1 <| @gentry.eq_2) ct86 ?_
     exact AWP.ret (Fin trivial [] [0])
   | false =>
     rw [if_neg (by simp)] at hG
     cases hG
     repeat refine St2 (And.intro @gentry.eq_1 <| @gentry.eq_2) ct86 ?_
     exact AWP.ret (Fin trivial [] [0])
 · rw [if_pos he] at hG
   cases hG
   have heb : (e != 0) = true := by simpa using he
   repeat refine St2 (And.intro (And.intro @gentry.eq_1 <| @gentry.eq_2) <| heb) ct86 ?_
   exact AWP.ret (Fin trivial [] [0])
theorem takeH_q (b : List UInt8) (h : b.length ≤ 549755800000) : F85 [.by b, .int .i64 32] = some ([.by (spA b 32)], .tup [.own 0, .t (.by (spB b 32)), .t (.int .i64 (spE b 32))]) := if_pos (by omega)
theorem take32_q (b : List UInt8) (h : b.length ≤ 549755800000) : F87 [.by b] = some ([], .tup [.t (.int .u32 ((t32 b).1.toNat : Int)), .t (.by (t32 b).2.1), .t (.int .i64 (t32 b).2.2)]) := by
 rw [take32_c (by omega)]
 show _ = some (_, AV.tup [.t (.int .u32 ((UInt32.ofNat (num (spA b 4))).toNat : Int)), _, _])
 rw [u32_num _ (spA_le b 4 4 (by omega))]; rfl
theorem takeb_q (b : List UInt8) (h : b.length ≤ 549755800000) : F89 [.by b, .int .i64 40000] = some ([], .tup [.t (.by (tBts b).1), .t (.by (tBts b).2.1), .t (.int .i64 (tBts b).2.2)]) := takebytes_c 40000 (by omega)
theorem took_bad (b r : List UInt8) (w : Bool) {e : Int} (h : e ≠ 0) : G86 [.bx (.t (.st [.by b, .bool w]))] [.ptr 0 0 [], .t (.by r), .t (.int .i64 e)] = some ([.bx (.t (.st [.by b, .bool true]))], .t (.bool false)) := if_pos h
theorem took_was (b r : List UInt8) (e : Int) : G86 [.bx (.t (.st [.by b, .bool true]))] [.ptr 0 0 [], .t (.by r), .t (.int .i64 e)] = some ([.bx (.t (.st [.by b, .bool true]))], .t (.bool false)) := by
 by_cases h : e ≠ 0
 · exact if_pos h
 · exact (if_neg h).trans (if_pos rfl)
theorem took_ok (b r : List UInt8) : G86 [.bx (.t (.st [.by b, .bool false]))] [.ptr 0 0 [], .t (.by r), .t (.int .i64 0)] = some ([.bx (.t (.st [.by r, .bool false]))], .t (.bool true)) := rfl
def stepW {α : Type} (b : List UInt8) (w : Bool) (t : α × List UInt8 × Int) (old : T) (new : α → T) : List Blk :=
 if w = true then [.bx (.t (.st [.by b, .bool true])), .bx (.t old)]
 else if t.2.2 = 0 then [.bx (.t (.st [.by t.2.1, .bool false])), .bx (.t (new t.1))]
 else [.bx (.t (.st [.by b, .bool true])), .bx (.t old)]
theorem stepW_was {α : Type} (b : List UInt8) (t : α × List UInt8 × Int) (old : T) (new : α → T) : stepW b true t old new = [.bx (.t (.st [.by b, .bool true])), .bx (.t old)] := if_pos rfl
theorem stepW_ok {α : Type} (b : List UInt8) {t : α × List UInt8 × Int} (old : T) (new : α → T) (h : t.2.2 = 0) : stepW b false t old new = [.bx (.t (.st [.by t.2.1, .bool false])), .bx (.t (new t.1))] := (if_neg (by simp)).trans (if_pos h)
theorem stepW_bad {α : Type} (b : List UInt8) {t : α × List UInt8 × Int} (old : T) (new : α → T) (h : t.2.2 ≠ 0) : stepW b false t old new = [.bx (.t (.st [.by b, .bool true])), .bx (.t old)] := (if_neg (by simp)).trans (if_neg h)
def G71 : GFun
 | [.bx (.t (.st [.by b, .bool w])), .bx (.t (.st [o, .ba 32 n, i, h, x]))], [.ptr 0 0 [], .ptr 1 1 [1]] => if b.length ≤ 549755800000 then
     (if o.size = 1 then some (stepW b w (tH b) (.st [o, .ba 32 n, i, h, x]) (fun m => .st [o, .ba 32 m.1, i, h, x]), .tup []) else none) else none
 | _, _ => none
theorem ct71 : CT [(85, ⟨[false, false], treeG F85⟩), (86, ⟨[true, false, false], G86⟩)] [0, 1, 4, 5, 6, 19] [] := ⟨(.cons c85.g (.cons g86 (.nil _)))⟩
set_option maxHeartbeats 1000000 in
theorem g71 : GCon Try.prog 71 G71 := by
 refine gconc E_ok (rs := []) Try.func71 rfl Try.ntmps71 (by kernel_rfl) rfl (by decide) G71 (np := 2) ?_ ?_
 · intro HB xs h; unfold G71; split <;> first | rfl | (simp at h; done)
 intro HB xs H r hG hwf hex
 unfold G71 at hG
 split at hG <;> try (cases hG; done)
 rename_i b w o n i h x
 split at hG
 case isFalse => cases hG
 rename_i hb
 split at hG
 case isFalse => cases hG
 rename_i ho
 cases hG
 have h1 := takeH_q b hb
 have hn : n.length = 32 := by
   obtain ⟨c, m, wd, hi⟩ := hex
   obtain ⟨_, _, _, _, _, _, hw, _⟩ := hi.ok 1 _ rfl
   simpa [AV.wf, T.wf, T.wfL] using (show T.wf (.st [o, .ba 32 n, i, h, x]) by simpa only [AV.wf] using hw).2.1
 cases w with
 | true =>
   rw [stepW_was]
   have h2 := took_was b (spB b 32) (spE b 32)
   generalize spA b 32 = A at *
   generalize spB b 32 = B at *
   generalize spE b 32 = E at *
   repeat refine St2 (And.intro (And.intro @gentry.eq_1 <| @gentry.eq_2) <| And.intro h1 <| h2) ct71 ?_
   exact Fin trivial [] [0, 1]
 | false =>
   by_cases he : spE b 32 = 0
   · rw [stepW_ok b _ _ (show (tH b).2.2 = 0 from he)]
     obtain ⟨k1, k2, k3⟩ := sp_ok he
     have k4 : (spA b 32).length = 32 := by omega
     have k5 : (tH b).1.1 = spA b 32 := hOf_val k4
     have k6 : (tH b).2.1 = spB b 32 := rfl
     have h2 := took_ok b (spB b 32)
     rw [k5, k6]
     rw [he] at h1
     have k7 : (spA b 32).take 32 = spA b 32 := List.take_of_length_le (by omega)
     generalize spA b 32 = A at *
     generalize spB b 32 = B at *
     repeat refine St2 (And.intro (And.intro @gentry.eq_1 <| @gentry.eq_2) <| And.intro h1 <| And.intro h2 <| And.intro k4 <| And.intro k7 <| And.intro ho <| hn) ct71 ?_
     exact Fin trivial [] [0, 1]
   · rw [stepW_bad b _ _ (show (tH b).2.2 ≠ 0 from he)]
     have h2 := took_bad b (spB b 32) false he
     generalize spA b 32 = A at *
     generalize spB b 32 = B at *
     generalize spE b 32 = E at *
     repeat refine St2 (And.intro (And.intro @gentry.eq_1 <| @gentry.eq_2) <| And.intro h1 <| h2) ct71 ?_
     exact Fin trivial [] [0, 1]
def G74 : GFun
 | [.bx (.t (.st [.by b, .bool w])), .bx (.t (.st [o, .ba 32 n, i, h, .by x]))], [.ptr 0 0 [], .ptr 1 35 [4]] => if b.length ≤ 549755800000 then
     (if o.size = 1 ∧ i.size = 1 ∧ h.size = 1 ∧ n.length = 32 then some (stepW b w (tBts b) (.st [o, .ba 32 n, i, h, .by x]) (fun m => .st [o, .ba 32 n, i, h, .by m]), .tup []) else none) else none
 | _, _ => none
theorem ct74 : CT [(86, ⟨[true, false, false], G86⟩), (89, ⟨[false, false], treeG F89⟩)] [0, 1, 4, 5, 6, 19] [] := ⟨(.cons g86 (.cons c89.g (.nil _)))⟩
set_option maxHeartbeats 1000000 in
theorem g74 : GCon Try.prog 74 G74 := by
 refine gconc E_ok (rs := []) Try.func74 rfl Try.ntmps74 (by kernel_rfl) rfl (by decide) G74 (np := 2) ?_ ?_
 · intro HB xs h; unfold G74; split <;> first | rfl | (simp at h; done)
 intro HB xs H r hG hwf hex
 unfold G74 at hG
 split at hG <;> try (cases hG; done)
 rename_i b w o n i h x
 split at hG
 case isFalse => cases hG
 rename_i hb
 split at hG
 case isFalse => cases hG
 rename_i ho
 cases hG
 obtain ⟨ho, hi, hh, hn⟩ := ho
 have h1 := takeb_q b hb
 cases w with
 | true =>
   rw [stepW_was]
   have h2 := took_was b (tBts b).2.1 (tBts b).2.2
   generalize tBts b = R at *
   repeat refine St2 (And.intro (And.intro @gentry.eq_1 <| @gentry.eq_2) <| And.intro h1 <| h2) ct74 ?_
   exact Fin trivial [] [0, 1]
 | false =>
   by_cases he : (tBts b).2.2 = 0
   · rw [stepW_ok b _ _ he]
     have h2 := took_ok b (tBts b).2.1
     rw [he] at h1
     generalize tBts b = R at *
     repeat refine St2 (And.intro (And.intro @gentry.eq_1 <| @gentry.eq_2) <| And.intro h1 <| And.intro h2 <| And.intro ho <| And.intro hi <| And.intro hh <| hn) ct74 ?_
     exact Fin trivial [] [0, 1]
   · rw [stepW_bad b _ _ he]
     have h2 := took_bad b (tBts b).2.1 false he
     generalize tBts b = R at *
     repeat refine St2 (And.intro (And.intro @gentry.eq_1 <| @gentry.eq_2) <| And.intro h1 <| h2) ct74 ?_
     exact Fin trivial [] [0, 1]
def G72 : GFun
 | [.bx (.t (.st [.by b, .bool w])), .bx (.t (.st [o, .ba 32 n, .int .u32 i, h, x]))], [.ptr 0 0 [], .ptr 1 33 [2]] => if b.length ≤ 549755800000 then
     (if o.size = 1 ∧ n.length = 32 then some (stepW b w (t32 b) (.st [o, .ba 32 n, .int .u32 i, h, x]) (fun m => .st [o, .ba 32 n, .int .u32 (m.toNat : Int), h, x]), .tup []) else none) else none
 | [.bx (.t (.st [.by b, .bool w])), .bx (.t (.st [o, .ba 32 n, i, .int .u32 h, x]))], [.ptr 0 0 [], .ptr 1 34 [3]] => if b.length ≤ 549755800000 then
     (if o.size = 1 ∧ n.length = 32 ∧ i.size = 1 then some (stepW b w (t32 b) (.st [o, .ba 32 n, i, .int .u32 h, x]) (fun m => .st [o, .ba 32 n, i, .int .u32 (m.toNat : Int), x]), .tup []) else none) else none
 | _, _ => none
theorem ct72 : CT [(86, ⟨[true, false, false], G86⟩), (87, ⟨[false], treeG F87⟩)] [0, 1, 4, 5, 6, 19] [] := ⟨(.cons g86 (.cons c87.g (.nil _)))⟩
set_option maxHeartbeats 1000000 in
theorem g72 : GCon Try.prog 72 G72 := by
 refine gconc E_ok (rs := []) Try.func72 rfl Try.ntmps72 (by kernel_rfl) rfl (by decide) G72 (np := 2) ?_ ?_
 · intro HB xs h; unfold G72; split <;> first | rfl | (simp at h; done)
 intro HB xs H r hG hwf hex
 unfold G72 at hG
 split at hG <;> try (cases hG; done)
 · rename_i b w o n i h x
   split at hG
   case isFalse => cases hG
   rename_i hb
   split at hG
   case isFalse => cases hG
   rename_i hc
   cases hG
   obtain ⟨ho, hn⟩ := hc
   have h1 := take32_q b hb
   cases w with
   | true =>
     rw [stepW_was]
     have h2 := took_was b (t32 b).2.1 (t32 b).2.2
     generalize t32 b = R at *
     repeat refine St2 (And.intro (And.intro @gentry.eq_1 <| @gentry.eq_2) <| And.intro h1 <| h2) ct72 ?_
     exact Fin trivial [] [0, 1]
   | false =>
     by_cases he : (t32 b).2.2 = 0
     · rw [stepW_ok b _ _ he]
       have h2 := took_ok b (t32 b).2.1
       rw [he] at h1
       generalize t32 b = R at *
       repeat refine St2 (And.intro (And.intro @gentry.eq_1 <| @gentry.eq_2) <| And.intro h1 <| And.intro h2 <| And.intro ho <| hn) ct72 ?_
       exact Fin trivial [] [0, 1]
     · rw [stepW_bad b _ _ he]
       have h2 := took_bad b (t32 b).2.1 false he
       generalize t32 b = R at *
       repeat refine St2 (And.intro (And.intro @gentry.eq_1 <| @gentry.eq_2) <| And.intro h1 <| h2) ct72 ?_
       exact Fin trivial [] [0, 1]
 · rename_i b w o n i h x
   split at hG
   case isFalse => cases hG
   rename_i hb
   split at hG
   case isFalse => cases hG
   rename_i hc
   cases hG
   obtain ⟨ho, hn, hi⟩ := hc
   have h1 := take32_q b hb
   cases w with
   | true =>
     rw [stepW_was]
     have h2 := took_was b (t32 b).2.1 (t32 b).2.2
     generalize t32 b = R at *
     repeat refine St2 (And.intro (And.intro @gentry.eq_1 <| @gentry.eq_2) <| And.intro h1 <| h2) ct72 ?_
     exact Fin trivial [] [0, 1]
   | false =>
     by_cases he : (t32 b).2.2 = 0
     · rw [stepW_ok b _ _ he]
       have h2 := took_ok b (t32 b).2.1
       rw [he] at h1
       generalize t32 b = R at *
       repeat refine St2 (And.intro (And.intro @gentry.eq_1 <| @gentry.eq_2) <| And.intro h1 <| And.intro h2 <| And.intro ho <| And.intro hn <| hi) ct72 ?_
       exact Fin trivial [] [0, 1]
     · rw [stepW_bad b _ _ he]
       have h2 := took_bad b (t32 b).2.1 false he
       generalize t32 b = R at *
       repeat refine St2 (And.intro (And.intro @gentry.eq_1 <| @gentry.eq_2) <| And.intro h1 <| h2) ct72 ?_
       exact Fin trivial [] [0, 1]
end Go.Fw

end

section
namespace Go.Fw
open Go Go.Proofs
theorem put32_q {b : List UInt8} (n : Int) (h : b.length ≤ 1000000000) : F66 [.by b, .int .u32 n] = some ([.by (b ++ le 4 n)], .own 0) := if_pos (by omega)
theorem putby_q (b x : List UInt8) (h : b.length + x.length ≤ 549755800000) : F68 [.by b, .by x] = some ([.by (b ++ sizeB x.length ++ x)], .own 0) := if_pos h
def G39 : GFun
 | [.bx (.st [.own 1]), .by l, .bx (.t (.st [o, .ba 32 n, i, h, x]))], [.ptr 0 0 [], .ptr 2 1 [1]] =>
   if l.length ≤ 1000000000 ∧ o.size = 1 ∧ n.length = 32 then some ([.bx (.st [.own 3]), .no, .bx (.t (.st [o, .ba 32 n, i, h, x])), .by (l ++ n)], .tup []) else none
 | _, _ => none
theorem ct39 : CT [] [0, 1] [(0, [⟨0, [0], [], []⟩, ⟨0, [0], [], []⟩, ⟨0, [5], [], []⟩, ⟨0, [6], [], []⟩, ⟨1, [7], [], []⟩, ⟨0, [1], [], []⟩, ⟨0, [9], [], []⟩, ⟨1, [10], [], []⟩, ⟨2, [8, 11], [4, 7], []⟩, ⟨0, [4], [4, 7, 8], []⟩, ⟨0, [13], [4, 7, 8], []⟩, ⟨2, [12, 14], [4, 7, 8], []⟩])] := ⟨GClOk.nil _⟩
theorem g39 : GCon Try.prog 39 G39 := by
 refine gconc E_ok (rs := []) Try.func39 rfl Try.ntmps39 (by kernel_rfl) rfl (by decide) G39 (np := 2) ?_ ?_
 · intro HB xs h; unfold G39; split <;> first | rfl | (simp at h; done)
 intro HB xs H r hG hwf hex
 unfold G39 at hG
 split at hG <;> try (cases hG; done)
 rename_i l o n i h x
 split at hG
 case isFalse => cases hG
 rename_i hc
 cases hG
 obtain ⟨hl, ho, hn⟩ := hc
 have hnt : n.take 32 = n := List.take_of_length_le (by omega)
 repeat refine St (And.intro (And.intro @gentry.eq_1 <| @gentry.eq_2) <| And.intro ho <| And.intro hn <| And.intro hnt <| hl) ct39 ?_
 exact Fin trivial [] [0, 1, 2, 3]
def G40 : GFun
 | [.bx (.st [.own 1]), .by l, .bx (.t (.st [o, .ba 32 n, .int .u32 i, h, x]))], [.ptr 0 0 [], .ptr 2 33 [2]] =>
   if l.length ≤ 1000000000 ∧ o.size = 1 ∧ n.length = 32 then some ([.bx (.st [.own 3]), .by l, .bx (.t (.st [o, .ba 32 n, .int .u32 i, h, x])), .by (l ++ le 4 i)], .tup []) else none
 | [.bx (.st [.own 1]), .by l, .bx (.t (.st [o, .ba 32 n, i, .int .u32 h, x]))], [.ptr 0 0 [], .ptr 2 34 [3]] =>
   if l.length ≤ 1000000000 ∧ o.size = 1 ∧ n.length = 32 ∧ i.size = 1 then some ([.bx (.st [.own 3]), .by l, .bx (.t (.st [o, .ba 32 n, i, .int .u32 h, x])), .by (l ++ le 4 h)], .tup []) else none
 | _, _ => none
theorem ct40 : CT [(66, ⟨[false, false], treeG F66⟩)] [0, 1] [(0, [⟨0, [0], [], []⟩, ⟨0, [0], [], []⟩, ⟨0, [5], [], []⟩, ⟨0, [6], [], []⟩, ⟨1, [7], [], []⟩, ⟨0, [1], [], []⟩, ⟨0, [9], [], []⟩, ⟨1, [10], [], []⟩, ⟨1, [8, 11], [4, 7], []⟩, ⟨0, [4], [4, 7, 8], []⟩, ⟨0, [13], [4, 7, 8], []⟩, ⟨2, [12, 14], [4, 7, 8], []⟩])] := ⟨(.cons c66.g (.nil _))⟩
theorem g40 : GCon Try.prog 40 G40 := by
 refine gconc E_ok (rs := []) Try.func40 rfl Try.ntmps40 (by kernel_rfl) rfl (by decide) G40 (np := 2) ?_ ?_
 · intro HB xs h; unfold G40; split <;> first | rfl | (simp at h; done)
 intro HB xs H r hG hwf hex
 unfold G40 at hG
 split at hG <;> try (cases hG; done)
 · rename_i l o n i h x
   split at hG
   case isFalse => cases hG
   rename_i hc
   cases hG
   obtain ⟨hl, ho, hn⟩ := hc
   have h1 := put32_q (b := l) i hl
   repeat refine St (And.intro (And.intro @gentry.eq_1 <| @gentry.eq_2) <| And.intro ho <| And.intro hn <| h1) ct40 ?_
   exact Fin trivial [] [0, 1, 2, 3]
 · rename_i l o n i h x
   split at hG
   case isFalse => cases hG
   rename_i hc
   cases hG
   obtain ⟨hl, ho, hn, hi⟩ := hc
   have h1 := put32_q (b := l) h hl
   repeat refine St (And.intro (And.intro @gentry.eq_1 <| @gentry.eq_2) <| And.intro ho <| And.intro hn <| And.intro hi <| h1) ct40 ?_
   exact Fin trivial [] [0, 1, 2, 3]
def G42 : GFun
 | [.bx (.st [.own 1]), .by l, .bx (.t (.st [o, .ba 32 n, i, h, .by x]))], [.ptr 0 0 [], .ptr 2 35 [4]] =>
   if l.length + x.length ≤ 549755800000 ∧ o.size = 1 ∧ n.length = 32 ∧ i.size = 1 ∧ h.size = 1 then some ([.bx (.st [.own 3]), .by l, .bx (.t (.st [o, .ba 32 n, i, h, .by x])), .by (l ++ sizeB x.length ++ x)], .tup []) else none
 | _, _ => none
theorem ct42 : CT [(68, ⟨[false, false], treeG F68⟩)] [0, 1] [(0, [⟨0, [0], [], []⟩, ⟨0, [0], [], []⟩, ⟨0, [5], [], []⟩, ⟨0, [6], [], []⟩, ⟨1, [7], [], []⟩, ⟨0, [1], [], []⟩, ⟨0, [9], [], []⟩, ⟨1, [10], [], []⟩, ⟨1, [8, 11], [4, 7], []⟩, ⟨0, [4], [4, 7, 8], []⟩, ⟨0, [13], [4, 7, 8], []⟩, ⟨2, [12, 14], [4, 7, 8], []⟩])] := ⟨(.cons c68.g (.nil _))⟩
theorem g42 : GCon Try.prog 42 G42 := by
 refine gconc E_ok (rs := []) Try.func42 rfl Try.ntmps42 (by kernel_rfl) rfl (by decide) G42 (np := 2) ?_ ?_
 · intro HB xs h; unfold G42; split <;> first | rfl | (simp at h; done)
 intro HB xs H r hG hwf hex
 unfold G42 at hG
 split at hG <;> try (cases hG; done)
 rename_i l o n i h x
 split at hG
 case isFalse => cases hG
 rename_i hc
 cases hG
 obtain ⟨hl, ho, hn, hi, hh⟩ := hc
 have h1 := putby_q l x hl
 repeat refine St (And.intro (And.intro @gentry.eq_1 <| @gentry.eq_2) <| And.intro ho <| And.intro hn <| And.intro hi <| And.intro hh <| h1) ct42 ?_
 exact Fin trivial [] [0, 1, 2, 3]
end Go.Fw

end

section
namespace Go.Fw
open Go Go.Proofs
theorem stepW_rd {α : Type} (t : List UInt8 → α × List UInt8 × Int) (d : α) (s : RSt) (new : α → T) : stepW s.b (decide (s.e ≠ 0)) (t s.b) (new d) new = [rX (rd t d s).2, .bx (.t (new (rd t d s).1))] := by
 obtain ⟨b, e⟩ := s
 dsimp only
 by_cases he : e = 0
 · subst he
   by_cases ht : (t b).2.2 = 0
   · have h1 : rd t d ⟨b, 0⟩ = ((t b).1, ⟨(t b).2.1, 0⟩) := (if_neg (by simp)).trans (if_neg (by simpa using ht))
     rw [h1]
     exact stepW_ok b (new d) new ht
   · have h1 : rd t d ⟨b, 0⟩ = (d, ⟨b, (t b).2.2⟩) := (if_neg (by simp)).trans (if_pos ht)
     rw [h1]
     have h2 : decide ((t b).2.2 ≠ 0) = true := decide_eq_true ht
     show stepW b false (t b) (new d) new = [.bx (.t (.st [.by b, .bool (decide ((t b).2.2 ≠ 0))])), .bx (.t (new d))]
     rw [h2]
     exact stepW_bad b (new d) new ht
 · have h1 : rd t d ⟨b, e⟩ = (d, ⟨b, e⟩) := if_pos he
   rw [h1]
   have h2 : decide (e ≠ 0) = true := decide_eq_true he
   show stepW b (decide (e ≠ 0)) (t b) (new d) new = [.bx (.t (.st [.by b, .bool (decide (e ≠ 0))])), .bx (.t (new d))]
   rw [h2]
   exact stepW_was b (t b) (new d) new
theorem name_q (s : RSt) {o i h x : T} (hb : s.b.length ≤ 549755800000) (ho : o.size = 1) : G71 [rX s, .bx (.t (.st [o, .ba 32 zH.1, i, h, x]))] [.ptr 0 0 [], .ptr 1 1 [1]] = some ([rX (rd tH zH s).2, .bx (.t (.st [o, .ba 32 (rd tH zH s).1.1, i, h, x]))], .tup []) := by
 rw [← stepW_rd tH zH s (fun m => .st [o, .ba 32 m.1, i, h, x])]
 show (if s.b.length ≤ 549755800000 then (if o.size = 1 then _ else none) else none) = _
 rw [if_pos hb, if_pos ho]
theorem idx_q (s : RSt) {o h x : T} {n : List UInt8} (hb : s.b.length ≤ 549755800000) (ho : o.size = 1) (hn : n.length = 32) : G72 [rX s, .bx (.t (.st [o, .ba 32 n, .int .u32 0, h, x]))] [.ptr 0 0 [], .ptr 1 33 [2]] = some ([rX (rd t32 0 s).2, .bx (.t (.st [o, .ba 32 n, .int .u32 ((rd t32 0 s).1.toNat : Int), h, x]))], .tup []) := by
 rw [← stepW_rd t32 0 s (fun m => .st [o, .ba 32 n, .int .u32 (m.toNat : Int), h, x])]
 show (if s.b.length ≤ 549755800000 then (if o.size = 1 ∧ n.length = 32 then _ else none) else none) = _
 rw [if_pos hb, if_pos ⟨ho, hn⟩]; rfl
theorem hgt_q (s : RSt) {o i x : T} {n : List UInt8} (hb : s.b.length ≤ 549755800000) (ho : o.size = 1) (hn : n.length = 32) (hi : i.size = 1) : G72 [rX s, .bx (.t (.st [o, .ba 32 n, i, .int .u32 0, x]))] [.ptr 0 0 [], .ptr 1 34 [3]] = some ([rX (rd t32 0 s).2, .bx (.t (.st [o, .ba 32 n, i, .int .u32 ((rd t32 0 s).1.toNat : Int), x]))], .tup []) := by
 rw [← stepW_rd t32 0 s (fun m => .st [o, .ba 32 n, i, .int .u32 (m.toNat : Int), x])]
 simp only [G72]
 rw [if_pos hb, if_pos ⟨ho, hn, hi⟩]; rfl
theorem bts_q (s : RSt) {o i h : T} {n : List UInt8} (hb : s.b.length ≤ 549755800000) (ho : o.size = 1) (hi : i.size = 1) (hh : h.size = 1) (hn : n.length = 32) : G74 [rX s, .bx (.t (.st [o, .ba 32 n, i, h, .by []]))] [.ptr 0 0 [], .ptr 1 35 [4]] = some ([rX (rd tBts [] s).2, .bx (.t (.st [o, .ba 32 n, i, h, .by (rd tBts [] s).1]))], .tup []) := by
 rw [← stepW_rd tBts [] s (fun m => .st [o, .ba 32 n, i, h, .by m])]
 show (if s.b.length ≤ 549755800000 then (if o.size = 1 ∧ i.size = 1 ∧ h.size = 1 ∧ n.length = 32 then _ else none) else none) = _
 rw [if_pos hb, if_pos ⟨ho, hi, hh, hn⟩]
theorem rd_len {α : Type} {t : List UInt8 → α × List UInt8 × Int} {d : α} {s : RSt} (h : ∀ b, (t b).2.1.length ≤ b.length) : (rd t d s).2.b.length ≤ s.b.length := rdX_len (P := true) h
noncomputable def G24 : GFun
 | [.bx (.st [.own 1]), .by l, .bx (.t y)], [.st [.clo f1 [.ptr 0 0 []], .clo f2 [.ptr 0 0 []], .clo f3 [.ptr 0 0 []], .clo f4 [.ptr 0 0 []], .clo f5 [.ptr 0 0 []], .clo f6 [.ptr 0 0 []], .clo f7 [.ptr 0 0 []], .clo f8 [.ptr 0 0 []]], .ptr 2 0 []] =>
   match inv qT y with
   | some q => if f1 = 1000039 ∧ f2 = 1000040 ∧ f4 = 1000042 ∧ l.length ≤ 100 ∧ q.bts.length ≤ 549755000000 then
       (match kQ q.op with
         | 0 => some ([.bx (.st [.own 1]), .by l, .bx (.t y)], .tup [])
         | 1 => some ([.bx (.st [.own 3]), .no, .bx (.t y), .by (l ++ bodyK 1 q)], .tup [])
         | 2 => some ([.bx (.st [.own 3]), .no, .bx (.t y), .by (l ++ bodyK 2 q)], .tup [])
         | k => some ([.bx (.st [.own 3]), .by l, .bx (.t y), .by (l ++ bodyK k q)], .tup [])) else none
   | none => none
 | [.bx (.t (.st [.by b, .bool w])), .bx (.t (.st [.int .u8 o, .ba 32 n, .int .u32 0, .int .u32 0, .by []]))], [.st [.clo f1 [.ptr 0 0 []], .clo f2 [.ptr 0 0 []], .clo f3 [.ptr 0 0 []], .clo f4 [.ptr 0 0 []], .clo f5 [.ptr 0 0 []], .clo f6 [.ptr 0 0 []], .clo f7 [.ptr 0 0 []], .clo f8 [.ptr 0 0 []]], .ptr 1 0 []] =>
   if f1 = 1000071 ∧ f2 = 1000072 ∧ f4 = 1000074 ∧ b.length ≤ 549755800000 ∧ w = false ∧ n = zH.1 ∧ 0 ≤ o ∧ o < 256 then
     some ([rX (rdK (UInt8.ofNat o.toNat) (kQ (UInt8.ofNat o.toNat)) ⟨b, 0⟩).2, .bx (.t (qT (rdK (UInt8.ofNat o.toNat) (kQ (UInt8.ofNat o.toNat)) ⟨b, 0⟩).1))], .tup []) else none
 | _, _ => none
theorem ct24 : CT [(39, ⟨[true, true], G39⟩), (40, ⟨[true, true], G40⟩), (42, ⟨[true, true], G42⟩), (71, ⟨[true, true], G71⟩), (72, ⟨[true, true], G72⟩), (74, ⟨[true, true], G74⟩)] [0, 1, 2, 7, 8, 17, 31, 40, 54] [(4, [⟨0, [2], [], []⟩, ⟨1, [11], [], []⟩, ⟨0, [1], [], []⟩, ⟨0, [13], [], []⟩, ⟨0, [14], [], []⟩, ⟨2, [12, 15], [1], []⟩]), (6, [⟨0, [2], [], []⟩, ⟨1, [19], [], []⟩, ⟨0, [1], [], []⟩, ⟨0, [21], [], []⟩, ⟨0, [22], [], []⟩, ⟨2, [20, 23], [1], []⟩]), (7, [⟨0, [2], [], []⟩, ⟨1, [25], [], []⟩, ⟨0, [1], [], []⟩, ⟨0, [27], [], []⟩, ⟨0, [28], [], []⟩, ⟨2, [26, 29], [1], []⟩]), (10, [⟨0, [2], [], []⟩, ⟨1, [34], [], []⟩, ⟨0, [1], [], []⟩, ⟨0, [36], [], []⟩, ⟨0, [37], [], []⟩, ⟨2, [35, 38], [1], []⟩]), (12, [⟨0, [2], [], []⟩, ⟨1, [42], [], []⟩, ⟨0, [1], [], []⟩, ⟨0, [44], [], []⟩, ⟨0, [45], [], []⟩, ⟨2, [43, 46], [1], []⟩]), (13, [⟨0, [2], [], []⟩, ⟨1, [48], [], []⟩, ⟨0, [1], [], []⟩, ⟨0, [50], [], []⟩, ⟨0, [51], [], []⟩, ⟨2, [49, 52], [1], []⟩]), (15, [⟨0, [2], [], []⟩, ⟨1, [56], [], []⟩, ⟨0, [1], [], []⟩, ⟨0, [58], [], []⟩, ⟨0, [59], [], []⟩, ⟨2, [57, 60], [1], []⟩])] := ⟨(.cons g39 (.cons g40 (.cons g42 (.cons g71 (.cons g72 (.cons g74 (.nil _)))))))⟩
theorem kQ_of (c : UInt8) : (c = 2 ∧ kQ c = 1) ∨ (c ≠ 2 ∧ c = 4 ∧ kQ c = 1) ∨ (c ≠ 2 ∧ c ≠ 4 ∧ c = 3 ∧ kQ c = 2) ∨ (c ≠ 2 ∧ c ≠ 4 ∧ c ≠ 3 ∧ c = 5 ∧ kQ c = 3) ∨ (c ≠ 2 ∧ c ≠ 4 ∧ c ≠ 3 ∧ c ≠ 5 ∧ c = 9 ∧ kQ c = 3) ∨ (c ≠ 2 ∧ c ≠ 4 ∧ c ≠ 3 ∧ c ≠ 5 ∧ c ≠ 9 ∧ c = 6 ∧ kQ c = 4) ∨ (c ≠ 2 ∧ c ≠ 4 ∧ c ≠ 3 ∧ c ≠ 5 ∧ c ≠ 9 ∧ c ≠ 6 ∧ c = 8 ∧ kQ c = 5) ∨ (c ≠ 2 ∧ c ≠ 4 ∧ c ≠ 3 ∧ c ≠ 5 ∧ c ≠ 9 ∧ c ≠ 6 ∧ c ≠ 8 ∧ kQ c = 0) := by
 by_cases h2 : c = 2
 · subst h2; exact .inl ⟨rfl, rfl⟩
 by_cases h4 : c = 4
 · subst h4; exact .inr (.inl ⟨h2, rfl, rfl⟩)
 by_cases h3 : c = 3
 · subst h3; exact .inr (.inr (.inl ⟨h2, h4, rfl, rfl⟩))
 by_cases h5 : c = 5
 · subst h5; exact .inr (.inr (.inr (.inl ⟨h2, h4, h3, rfl, rfl⟩)))
 by_cases h9 : c = 9
 · subst h9; exact .inr (.inr (.inr (.inr (.inl ⟨h2, h4, h3, h5, rfl, rfl⟩))))
 by_cases h6 : c = 6
 · subst h6; exact .inr (.inr (.inr (.inr (.inr (.inl ⟨h2, h4, h3, h5, h9, rfl, rfl⟩)))))
 by_cases h8 : c = 8
 · subst h8; exact .inr (.inr (.inr (.inr (.inr (.inr (.inl ⟨h2, h4, h3, h5, h9, h6, rfl, rfl⟩))))))
 exact .inr (.inr (.inr (.inr (.inr (.inr (.inr ⟨h2, h4, h3, h5, h9, h6, h8, by unfold kQ; simp [h2, h4, h3, h5, h9, h6, h8]⟩))))))
theorem c8_ne {c : UInt8} (n : UInt8) (h : c ≠ n) : ((c.toNat : Int) == (n.toNat : Int)) = false := by
 rw [beq_eq_false_iff_ne]; intro hh; exact h (n8_inj hh)
theorem c8_eq {c : UInt8} (n : UInt8) (h : c = n) : ((c.toNat : Int) == (n.toNat : Int)) = true := by rw [h]; exact beq_self_eq_true _
set_option maxRecDepth 20000 in
set_option maxHeartbeats 8000000 in
theorem g24 : GCon Try.prog 24 G24 := by
 refine gconc E_ok (rs := []) Try.func24 rfl Try.ntmps24 (by kernel_rfl) rfl (by decide) G24 (np := 2) ?_ ?_
 · intro HB xs h; unfold G24; split <;> first | rfl | (simp at h; done)
 intro HB xs H r hG hwf hex
 unfold G24 at hG
 split at hG <;> try (cases hG; done)
 · rename_i l y f1 f2 f3 f4 f5 f6 f7 f8
   split at hG <;> try (cases hG; done)
   rename_i q hq
   split at hG
   case isFalse => cases hG
   rename_i hc
   obtain ⟨rfl, rfl, rfl, hl, hx⟩ := hc
   obtain rfl := inv_inv hq
   obtain ⟨c, ⟨n, hn⟩, i, h, x⟩ := q
   dsimp only at hG hx
   rw [qT_st] at hG ⊢
   dsimp only at hG ⊢
   have w1 : G39 [.bx (.st [.own 1]), .by l, .bx (.t (.st [.int .u8 (c.toNat : Int), .ba 32 n, .int .u32 (i.toNat : Int), .int .u32 (h.toNat : Int), .by x]))] [.ptr 0 0 [], .ptr 2 1 [1]] = some ([.bx (.st [.own 3]), .no, .bx (.t (.st [.int .u8 (c.toNat : Int), .ba 32 n, .int .u32 (i.toNat : Int), .int .u32 (h.toNat : Int), .by x])), .by (l ++ n)], .tup []) := if_pos ⟨by omega, rfl, hn⟩
   have w2 : G40 [.bx (.st [.own 1]), .by (l ++ n), .bx (.t (.st [.int .u8 (c.toNat : Int), .ba 32 n, .int .u32 (i.toNat : Int), .int .u32 (h.toNat : Int), .by x]))] [.ptr 0 0 [], .ptr 2 33 [2]] = some ([.bx (.st [.own 3]), .by (l ++ n), .bx (.t (.st [.int .u8 (c.toNat : Int), .ba 32 n, .int .u32 (i.toNat : Int), .int .u32 (h.toNat : Int), .by x])), .by (l ++ n ++ le 4 (i.toNat : Int))], .tup []) := if_pos ⟨by rw [List.length_append]; omega, rfl, hn⟩
   have w3 : G42 [.bx (.st [.own 1]), .by l, .bx (.t (.st [.int .u8 (c.toNat : Int), .ba 32 n, .int .u32 (i.toNat : Int), .int .u32 (h.toNat : Int), .by x]))] [.ptr 0 0 [], .ptr 2 35 [4]] = some ([.bx (.st [.own 3]), .by l, .bx (.t (.st [.int .u8 (c.toNat : Int), .ba 32 n, .int .u32 (i.toNat : Int), .int .u32 (h.toNat : Int), .by x])), .by (l ++ sizeB x.length ++ x)], .tup []) := if_pos ⟨by omega, rfl, hn, rfl, rfl⟩
   have w4 : G40 [.bx (.st [.own 1]), .by l, .bx (.t (.st [.int .u8 (c.toNat : Int), .ba 32 n, .int .u32 (i.toNat : Int), .int .u32 (h.toNat : Int), .by x]))] [.ptr 0 0 [], .ptr 2 33 [2]] = some ([.bx (.st [.own 3]), .by l, .bx (.t (.st [.int .u8 (c.toNat : Int), .ba 32 n, .int .u32 (i.toNat : Int), .int .u32 (h.toNat : Int), .by x])), .by (l ++ le 4 (i.toNat : Int))], .tup []) := if_pos ⟨by omega, rfl, hn⟩
   have w5 : G40 [.bx (.st [.own 1]), .by (l ++ le 4 (i.toNat : Int)), .bx (.t (.st [.int .u8 (c.toNat : Int), .ba 32 n, .int .u32 (i.toNat : Int), .int .u32 (h.toNat : Int), .by x]))] [.ptr 0 0 [], .ptr 2 34 [3]] = some ([.bx (.st [.own 3]), .by (l ++ le 4 (i.toNat : Int)), .bx (.t (.st [.int .u8 (c.toNat : Int), .ba 32 n, .int .u32 (i.toNat : Int), .int .u32 (h.toNat : Int), .by x])), .by (l ++ le 4 (i.toNat : Int) ++ le 4 (h.toNat : Int))], .tup []) := if_pos ⟨by rw [List.length_append, le_len]; omega, rfl, hn, rfl⟩
   have w6 : G40 [.bx (.st [.own 1]), .by l, .bx (.t (.st [.int .u8 (c.toNat : Int), .ba 32 n, .int .u32 (i.toNat : Int), .int .u32 (h.toNat : Int), .by x]))] [.ptr 0 0 [], .ptr 2 34 [3]] = some ([.bx (.st [.own 3]), .by l, .bx (.t (.st [.int .u8 (c.toNat : Int), .ba 32 n, .int .u32 (i.toNat : Int), .int .u32 (h.toNat : Int), .by x])), .by (l ++ le 4 (h.toNat : Int))], .tup []) := if_pos ⟨by omega, rfl, hn, rfl⟩
   rcases kQ_of c with ⟨a2, hk⟩ | ⟨a2, a4, hk⟩ | ⟨a2, a4, a3, hk⟩ | ⟨a2, a4, a3, a5, hk⟩ | ⟨a2, a4, a3, a5, a9, hk⟩ | ⟨a2, a4, a3, a5, a9, a6, hk⟩ | ⟨a2, a4, a3, a5, a9, a6, a8, hk⟩ | ⟨a2, a4, a3, a5, a9, a6, a8, hk⟩
   · have d2 : ((c.toNat : Int) == 2) = true := c8_eq 2 a2
     rw [hk] at hG
     cases hG
     clear a2
     repeat refine St (And.intro (And.intro @gentry.eq_1 <| @gentry.eq_2) <| And.intro hn <| And.intro d2 <| w1) ct24 ?_
     exact Fin (And.intro @qT.eq_def <| And.intro @bodyK.eq_def <| @List.append_assoc.{0}) [] [0, 1, 2, 4]
   · have d2 : ((c.toNat : Int) == 2) = false := c8_ne 2 a2
     have d4 : ((c.toNat : Int) == 4) = true := c8_eq 4 a4
     rw [hk] at hG
     cases hG
     clear a2 a4
     repeat refine St (And.intro (And.intro @gentry.eq_1 <| @gentry.eq_2) <| And.intro hn <| And.intro d2 <| And.intro d4 <| w1) ct24 ?_
     exact Fin (And.intro @qT.eq_def <| And.intro @bodyK.eq_def <| @List.append_assoc.{0}) [] [0, 1, 2, 4]
   · have d2 : ((c.toNat : Int) == 2) = false := c8_ne 2 a2
     have d4 : ((c.toNat : Int) == 4) = false := c8_ne 4 a4
     have d3 : ((c.toNat : Int) == 3) = true := c8_eq 3 a3
     rw [hk] at hG
     cases hG
     clear a2 a4 a3
     repeat refine St (And.intro (And.intro @gentry.eq_1 <| @gentry.eq_2) <| And.intro hn <| And.intro d2 <| And.intro d4 <| And.intro d3 <| And.intro w1 <| w2) ct24 ?_
     exact Fin (And.intro @qT.eq_def <| And.intro @bodyK.eq_def <| @List.append_assoc.{0}) [] [0, 1, 2, 5]
   · have d2 : ((c.toNat : Int) == 2) = false := c8_ne 2 a2
     have d4 : ((c.toNat : Int) == 4) = false := c8_ne 4 a4
     have d3 : ((c.toNat : Int) == 3) = false := c8_ne 3 a3
     have d5 : ((c.toNat : Int) == 5) = true := c8_eq 5 a5
     rw [hk] at hG
     cases hG
     clear a2 a4 a3 a5
     repeat refine St (And.intro (And.intro @gentry.eq_1 <| @gentry.eq_2) <| And.intro hn <| And.intro d2 <| And.intro d4 <| And.intro d3 <| And.intro d5 <| w3) ct24 ?_
     exact Fin (And.intro @qT.eq_def <| And.intro @bodyK.eq_def <| @List.append_assoc.{0}) [] [0, 1, 2, 4]
   · have d2 : ((c.toNat : Int) == 2) = false := c8_ne 2 a2
     have d4 : ((c.toNat : Int) == 4) = false := c8_ne 4 a4
     have d3 : ((c.toNat : Int) == 3) = false := c8_ne 3 a3
     have d5 : ((c.toNat : Int) == 5) = false := c8_ne 5 a5
     have d9 : ((c.toNat : Int) == 9) = true := c8_eq 9 a9
     rw [hk] at hG
     cases hG
     clear a2 a4 a3 a5 a9
     repeat refine St (And.intro (And.intro @gentry.eq_1 <| @gentry.eq_2) <| And.intro hn <| And.intro d2 <| And.intro d4 <| And.intro d3 <| And.intro d5 <| And.intro d9 <| w3) ct24 ?_
     exact Fin (And.intro @qT.eq_def <| And.intro @bodyK.eq_def <| @List.append_assoc.{0}) [] [0, 1, 2, 4]
   · have d2 : ((c.toNat : Int) == 2) = false := c8_ne 2 a2
     have d4 : ((c.toNat : Int) == 4) = false := c8_ne 4 a4
     have d3 : ((c.toNat : Int) == 3) = false := c8_ne 3 a3
     have d5 : ((c.toNat : Int) == 5) = false := c8_ne 5 a5
     have d9 : ((c.toNat : Int) == 9) = false := c8_ne 9 a9
     have d6 : ((c.toNat : Int) == 6) = true := c8_eq 6 a6
     rw [hk] at hG
     cases hG
     clear a2 a4 a3 a5 a9 a6
     repeat refine St (And.intro (And.intro @gentry.eq_1 <| @gentry.eq_2) <| And.intro hn <| And.intro d2 <| And.intro d4 <| And.intro d3 <| And.intro d5 <| And.intro d9 <| And.intro d6 <| And.intro w4 <| w5) ct24 ?_
     exact Fin (And.intro @qT.eq_def <| And.intro @bodyK.eq_def <| @List.append_assoc.{0}) [] [0, 1, 2, 5]
   · have d2 : ((c.toNat : Int) == 2) = false := c8_ne 2 a2
     have d4 : ((c.toNat : Int) == 4) = false := c8_ne 4 a4
     have d3 : ((c.toNat : Int) == 3) = false := c8_ne 3 a3
     have d5 : ((c.toNat : Int) == 5) = false := c8_ne 5 a5
     have d9 : ((c.toNat : Int) == 9) = false := c8_ne 9 a9
     have d6 : ((c.toNat : Int) == 6) = false := c8_ne 6 a6
     have d8 : ((c.toNat : Int) == 8) = true := c8_eq 8 a8
     rw [hk] at hG
     cases hG
     clear a2 a4 a3 a5 a9 a6 a8
     repeat refine St (And.intro (And.intro @gentry.eq_1 <| @gentry.eq_2) <| And.intro hn <| And.intro d2 <| And.intro d4 <| And.intro d3 <| And.intro d5 <| And.intro d9 <| And.intro d6 <| And.intro d8 <| w6) ct24 ?_
     exact Fin (And.intro @qT.eq_def <| And.intro @bodyK.eq_def <| @List.append_assoc.{0}) [] [0, 1, 2, 4]
   · have d2 : ((c.toNat : Int) == 2) = false := c8_ne 2 a2
     have d4 : ((c.toNat : Int) == 4) = false := c8_ne 4 a4
     have d3 : ((c.toNat : Int) == 3) = false := c8_ne 3 a3
     have d5 : ((c.toNat : Int) == 5) = false := c8_ne 5 a5
     have d9 : ((c.toNat : Int) == 9) = false := c8_ne 9 a9
     have d6 : ((c.toNat : Int) == 6) = false := c8_ne 6 a6
     have d8 : ((c.toNat : Int) == 8) = false := c8_ne 8 a8
     rw [hk] at hG
     cases hG
     clear a2 a4 a3 a5 a9 a6 a8
     repeat refine St (And.intro (And.intro @gentry.eq_1 <| @gentry.eq_2) <| And.intro hn <| And.intro d2 <| And.intro d4 <| And.intro d3 <| And.intro d5 <| And.intro d9 <| And.intro d6 <| d8) ct24 ?_
     exact Fin (And.intro @qT.eq_def <| And.intro @bodyK.eq_def <| @List.append_assoc.{0}) [] [0, 1, 2]
 · rename_i b w o n f1 f2 f3 f4 f5 f6 f7 f8
   split at hG
   case isFalse => cases hG
   rename_i hc
   cases hG
   obtain ⟨rfl, rfl, rfl, hb, rfl, rfl, ho0, ho1⟩ := hc
   obtain ⟨c, rfl⟩ : ∃ c : UInt8, o = (c.toNat : Int) := ⟨UInt8.ofNat o.toNat, by rw [UInt8.toNat_ofNat']; omega⟩
   have hcc : UInt8.ofNat ((c.toNat : Int)).toNat = c := by rw [Int.toNat_natCast]; exact UInt8.ofNat_toNat ..
   rw [hcc]
   have hn : zH.1.length = 32 := zH.2
   have l1 := rd_len (d := zH) (s := ⟨b, 0⟩) tH_len
   have l2 := rd_len (d := 0) (s := ⟨b, 0⟩) t32_len
   have r1 := name_q ⟨b, 0⟩ (o := .int .u8 (c.toNat : Int)) (i := .int .u32 0) (h := .int .u32 0) (x := .by []) hb rfl
   have r2 := idx_q (rd tH zH ⟨b, 0⟩).2 (o := .int .u8 (c.toNat : Int)) (h := .int .u32 0) (x := .by []) (n := (rd tH zH ⟨b, 0⟩).1.1) (Nat.le_trans l1 hb) rfl (rd tH zH ⟨b, 0⟩).1.2
   have r3 := bts_q ⟨b, 0⟩ (o := .int .u8 (c.toNat : Int)) (i := .int .u32 0) (h := .int .u32 0) (n := zH.1) hb rfl rfl rfl hn
   have r4 := idx_q ⟨b, 0⟩ (o := .int .u8 (c.toNat : Int)) (h := .int .u32 0) (x := .by []) (n := zH.1) hb rfl hn
   have r5 := hgt_q (rd t32 0 ⟨b, 0⟩).2 (o := .int .u8 (c.toNat : Int)) (i := .int .u32 ((rd t32 0 ⟨b, 0⟩).1.toNat : Int)) (x := .by []) (n := zH.1) (Nat.le_trans l2 hb) rfl hn rfl
   have r6 := hgt_q ⟨b, 0⟩ (o := .int .u8 (c.toNat : Int)) (i := .int .u32 0) (x := .by []) (n := zH.1) hb rfl hn rfl
   have hf : decide ((0 : Int) ≠ 0) = false := rfl
   have hf2 : (if (0 : Int) = 0 then false else true) = false := rfl
   simp only [rX, hf, decide_false] at r1 r3 r4 r6
   simp only [rX] at r2 r5 ⊢
   rcases kQ_of c with ⟨a2, hk⟩ | ⟨a2, a4, hk⟩ | ⟨a2, a4, a3, hk⟩ | ⟨a2, a4, a3, a5, hk⟩ | ⟨a2, a4, a3, a5, a9, hk⟩ | ⟨a2, a4, a3, a5, a9, a6, hk⟩ | ⟨a2, a4, a3, a5, a9, a6, a8, hk⟩ | ⟨a2, a4, a3, a5, a9, a6, a8, hk⟩
   · have d2 : ((c.toNat : Int) == 2) = true := c8_eq 2 a2
     rw [hk]
     repeat refine St (And.intro (And.intro @gentry.eq_1 <| @gentry.eq_2) <| And.intro hn <| And.intro d2 <| r1) ct24 ?_
     exact Fin (And.intro @qT.eq_def <| @rdK.eq_def) [] [0, 1]
   · have d2 : ((c.toNat : Int) == 2) = false := c8_ne 2 a2
     have d4 : ((c.toNat : Int) == 4) = true := c8_eq 4 a4
     rw [hk]
     repeat refine St (And.intro (And.intro @gentry.eq_1 <| @gentry.eq_2) <| And.intro hn <| And.intro d2 <| And.intro d4 <| r1) ct24 ?_
     exact Fin (And.intro @qT.eq_def <| @rdK.eq_def) [] [0, 1]
   · have d2 : ((c.toNat : Int) == 2) = false := c8_ne 2 a2
     have d4 : ((c.toNat : Int) == 4) = false := c8_ne 4 a4
     have d3 : ((c.toNat : Int) == 3) = true := c8_eq 3 a3
     rw [hk]
     repeat refine St (And.intro (And.intro @gentry.eq_1 <| @gentry.eq_2) <| And.intro hn <| And.intro d2 <| And.intro d4 <| And.intro d3 <| And.intro r1 <| r2) ct24 ?_
     exact Fin (And.intro @qT.eq_def <| @rdK.eq_def) [] [0, 1]
   · have d2 : ((c.toNat : Int) == 2) = false := c8_ne 2 a2
     have d4 : ((c.toNat : Int) == 4) = false := c8_ne 4 a4
     have d3 : ((c.toNat : Int) == 3) = false := c8_ne 3 a3
     have d5 : ((c.toNat : Int) == 5) = true := c8_eq 5 a5
     rw [hk]
     repeat refine St (And.intro (And.intro @gentry.eq_1 <| @gentry.eq_2) <| And.intro hn <| And.intro d2 <| And.intro d4 <| And.intro d3 <| And.intro d5 <| r3) ct24 ?_
     exact Fin (And.intro @qT.eq_def <| @rdK.eq_def) [] [0, 1]
   · have d2 : ((c.toNat : Int) == 2) = false := c8_ne 2 a2
     have d4 : ((c.toNat : Int) == 4) = false := c8_ne 4 a4
     have d3 : ((c.toNat : Int) == 3) = false := c8_ne 3 a3
     have d5 : ((c.toNat : Int) == 5) = false := c8_ne 5 a5
     have d9 : ((c.toNat : Int) == 9) = true := c8_eq 9 a9
     rw [hk]
     repeat refine St (And.intro (And.intro @gentry.eq_1 <| @gentry.eq_2) <| And.intro hn <| And.intro d2 <| And.intro d4 <| And.intro d3 <| And.intro d5 <| And.intro d9 <| r3) ct24 ?_
     exact Fin (And.intro @qT.eq_def <| @rdK.eq_def) [] [0, 1]
   · have d2 : ((c.toNat : Int) == 2) = false := c8_ne 2 a2
     have d4 : ((c.toNat : Int) == 4) = false := c8_ne 4 a4
     have d3 : ((c.toNat : Int) == 3) = false := c8_ne 3 a3
     have d5 : ((c.toNat : Int) == 5) = false := c8_ne 5 a5
     have d9 : ((c.toNat : Int) == 9) = false := c8_ne 9 a9
     have d6 : ((c.toNat : Int) == 6) = true := c8_eq 6 a6
     rw [hk]
     repeat refine St (And.intro (And.intro @gentry.eq_1 <| @gentry.eq_2) <| And.intro hn <| And.intro d2 <| And.intro d4 <| And.intro d3 <| And.intro d5 <| And.intro d9 <| And.intro d6 <| And.intro r4 <| r5) ct24 ?_
     exact Fin (And.intro @qT.eq_def <| @rdK.eq_def) [] [0, 1]
   · have d2 : ((c.toNat : Int) == 2) = false := c8_ne 2 a2
     have d4 : ((c.toNat : Int) == 4) = false := c8_ne 4 a4
     have d3 : ((c.toNat : Int) == 3) = false := c8_ne 3 a3
     have d5 : ((c.toNat : Int) == 5) = false := c8_ne 5 a5
     have d9 : ((c.toNat : Int) == 9) = false := c8_ne 9 a9
     have d6 : ((c.toNat : Int) == 6) = false := c8_ne 6 a6
     have d8 : ((c.toNat : Int) == 8) = true := c8_eq 8 a8
     rw [hk]
     repeat refine St (And.intro (And.intro @gentry.eq_1 <| @gentry.eq_2) <| And.intro hn <| And.intro d2 <| And.intro d4 <| And.intro d3 <| And.intro d5 <| And.intro d9 <| And.intro d6 <| And.intro d8 <| r6) ct24 ?_
     exact Fin (And.intro @qT.eq_def <| @rdK.eq_def) [] [0, 1]
   · have d2 : ((c.toNat : Int) == 2) = false := c8_ne 2 a2
     have d4 : ((c.toNat : Int) == 4) = false := c8_ne 4 a4
     have d3 : ((c.toNat : Int) == 3) = false := c8_ne 3 a3
     have d5 : ((c.toNat : Int) == 5) = false := c8_ne 5 a5
     have d9 : ((c.toNat : Int) == 9) = false := c8_ne 9 a9
     have d6 : ((c.toNat : Int) == 6) = false := c8_ne 6 a6
     have d8 : ((c.toNat : Int) == 8) = false := c8_ne 8 a8
     rw [hk]
     repeat refine St (And.intro (And.intro @gentry.eq_1 <| @gentry.eq_2) <| And.intro hn <| And.intro d2 <| And.intro d4 <| And.intro d3 <| And.intro d5 <| And.intro d9 <| And.intro d6 <| d8) ct24 ?_
     exact Fin (And.intro @qT.eq_def <| @rdK.eq_def) [] [0, 1]
end Go.Fw

end

section
namespace Go.Fw
open Go Go.Proofs
def G23 : GFun
 | [.bx (.st [.own 1]), .by l], [.ptr 0 0 []] => some ([.bx (.st [.own 1]), .by l], .st [.clo 1000039 [.ptr 0 0 []], .clo 1000040 [.ptr 0 0 []], .clo 1000041 [.ptr 0 0 []], .clo 1000042 [.ptr 0 0 []], .clo 1000043 [.ptr 0 0 []], .clo 1000044 [.ptr 0 0 []], .clo 1000045 [.ptr 0 0 []], .clo 1000046 [.ptr 0 0 []]])
 | _, _ => none
theorem ct23 : CT [] [0, 2] [] := ⟨GClOk.nil _⟩
theorem g23 : GCon Try.prog 23 G23 := by
 refine gconc E_ok (rs := [.cell 2 79]) Try.func23 rfl Try.ntmps23 (by kernel_rfl) rfl (by decide) G23 (np := 1) ?_ ?_
 · intro HB xs h; unfold G23; split <;> first | rfl | (simp at h; done)
 intro HB xs H r hG hwf hex
 unfold G23 at hG
 split at hG <;> try (cases hG; done)
 cases hG
 repeat refine St (And.intro @gentry.eq_1 <| @gentry.eq_2) ct23 ?_
 exact AWP.ret (Fin trivial [] [0, 1])
def G48 : GFun
 | [.bx (.t (.st [.by b, .bool w]))], [.ptr 0 0 []] => some ([.bx (.t (.st [.by b, .bool w]))], .st [.clo 1000071 [.ptr 0 0 []], .clo 1000072 [.ptr 0 0 []], .clo 1000073 [.ptr 0 0 []], .clo 1000074 [.ptr 0 0 []], .clo 1000075 [.ptr 0 0 []], .clo 1000076 [.ptr 0 0 []], .clo 1000077 [.ptr 0 0 []], .clo 1000078 [.ptr 0 0 []]])
 | _, _ => none
theorem ct48 : CT [] [0, 2] [] := ⟨GClOk.nil _⟩
theorem g48 : GCon Try.prog 48 G48 := by
 refine gconc E_ok (rs := [.cell 2 79]) Try.func48 rfl Try.ntmps48 (by kernel_rfl) rfl (by decide) G48 (np := 1) ?_ ?_
 · intro HB xs h; unfold G48; split <;> first | rfl | (simp at h; done)
 intro HB xs H r hG hwf hex
 unfold G48 at hG
 split at hG <;> try (cases hG; done)
 cases hG
 repeat refine St (And.intro @gentry.eq_1 <| @gentry.eq_2) ct48 ?_
 exact AWP.ret (Fin trivial [] [0])
noncomputable def F26 : Fun
 | [x, y] => match inv qT x, inv qT y with
   | some a, some b => some ([], .t (.bool (decide (a = b))))
   | _, _ => none
 | _ => none
theorem ct26 : CT [(49, ⟨[false, false], treeG F49⟩)] [0, 1, 2, 3, 4] [] := ⟨(.cons c49.g (.nil _))⟩
set_option maxHeartbeats 2000000 in
theorem c26 : ACon Try.prog 26 F26 := by
 refine aconc E_ok (rs := [.tmp 4 4]) Try.func26 rfl Try.ntmps26 (by kernel_rfl) rfl (by decide) F26 (np := 2) ?_ ?_
 · intro ts h; unfold F26; split <;> first | rfl | (simp at h; done)
 intro ts H r hF hwf
 unfold F26 at hF
 split at hF <;> try (cases hF; done)
 split at hF <;> try (cases hF; done)
 rename_i a b ha hb
 cases hF
 obtain rfl := inv_inv ha
 obtain rfl := inv_inv hb
 obtain ⟨o, n, i, h, x⟩ := a
 obtain ⟨o', n', i', h', x'⟩ := b
 rw [qT_st, qT_st]
 dsimp only
 have hn1 := n.2
 have hn2 := n'.2
 by_cases e0 : o = o'
 case neg =>
   have f0 : ((o.toNat : Int) == (o'.toNat : Int)) = false := by rw [beq_eq_false_iff_ne]; exact fun hh => e0 (n8_inj hh)
   have hd : decide ((⟨o, n, i, h, x⟩ : TQ) = ⟨o', n', i', h', x'⟩) = false := decide_eq_false fun hh => e0 (TQ.mk.inj hh).1
   repeat refine St (And.intro hn1 <| And.intro hn2 <| f0) ct26 ?_
   exact AWP.ret (Fin hd [] [])
 subst e0
 have f0 : ((o.toNat : Int) == (o.toNat : Int)) = true := beq_self_eq_true _
 by_cases e1 : n = n'
 case neg =>
   have f1 : (n.1 == n'.1) = false := by rw [beq_eq_false_iff_ne]; exact fun hh => e1 (Subtype.ext hh)
   have hd : decide ((⟨o, n, i, h, x⟩ : TQ) = ⟨o, n', i', h', x'⟩) = false := decide_eq_false fun hh => e1 (TQ.mk.inj hh).2.1
   repeat refine St (And.intro hn1 <| And.intro hn2 <| And.intro f0 <| f1) ct26 ?_
   exact AWP.ret (Fin hd [] [])
 subst e1
 have f1 : (n.1 == n.1) = true := beq_self_eq_true _
 by_cases e2 : i = i'
 case neg =>
   have f2 : ((i.toNat : Int) == (i'.toNat : Int)) = false := by rw [beq_eq_false_iff_ne]; exact fun hh => e2 (n32_inj hh)
   have hd : decide ((⟨o, n, i, h, x⟩ : TQ) = ⟨o, n, i', h', x'⟩) = false := decide_eq_false fun hh => e2 (TQ.mk.inj hh).2.2.1
   repeat refine St (And.intro hn1 <| And.intro hn2 <| And.intro f0 <| And.intro f1 <| f2) ct26 ?_
   exact AWP.ret (Fin hd [] [])
 subst e2
 have f2 : ((i.toNat : Int) == (i.toNat : Int)) = true := beq_self_eq_true _
 by_cases e3 : h = h'
 case neg =>
   have f3 : ((h.toNat : Int) == (h'.toNat : Int)) = false := by rw [beq_eq_false_iff_ne]; exact fun hh => e3 (n32_inj hh)
   have hd : decide ((⟨o, n, i, h, x⟩ : TQ) = ⟨o, n, i, h', x'⟩) = false := decide_eq_false fun hh => e3 (TQ.mk.inj hh).2.2.2.1
   repeat refine St (And.intro hn1 <| And.intro hn2 <| And.intro f0 <| And.intro f1 <| And.intro f2 <| f3) ct26 ?_
   exact AWP.ret (Fin hd [] [])
 subst e3
 have f3 : ((h.toNat : Int) == (h.toNat : Int)) = true := beq_self_eq_true _
 by_cases e4 : x = x'
 case neg =>
   have f4 : (x == x') = false := by rw [beq_eq_false_iff_ne]; exact fun hh => e4 (hh)
   have hd : decide ((⟨o, n, i, h, x⟩ : TQ) = ⟨o, n, i, h, x'⟩) = false := decide_eq_false fun hh => e4 (TQ.mk.inj hh).2.2.2.2
   have hbe : F49 [.by x, .by x'] = some ([], .t (.bool false)) := by show some (_, AV.t (.bool (x == x'))) = _; rw [f4]
   repeat refine St (And.intro hn1 <| And.intro hn2 <| And.intro f0 <| And.intro f1 <| And.intro f2 <| And.intro f3 <| And.intro f4 <| hbe) ct26 ?_
   exact AWP.ret (Fin hd [] [])
 subst e4
 have f4 : (x == x) = true := beq_self_eq_true _
 have hd : decide ((⟨o, n, i, h, x⟩ : TQ) = ⟨o, n, i, h, x⟩) = true := decide_eq_true rfl
 have hbe : F49 [.by x, .by x] = some ([], .t (.bool true)) := by show some (_, AV.t (.bool (x == x))) = _; rw [f4]
 repeat refine St (And.intro hn1 <| And.intro hn2 <| And.intro f0 <| And.intro f1 <| And.intro f2 <| And.intro f3 <| And.intro f4 <| hbe) ct26 ?_
 exact AWP.ret (Fin hd [] [])
theorem same_q (a b : TQ) : F26 [qT a, qT b] = some ([], .t (.bool (decide (a = b)))) := by
 simp only [F26, inv_of qT_inj]
noncomputable def F25 : Fun
 | [.by b] => if b.length ≤ 549755800000 then some ([], .tup [.t (qT (readQ b).1), .t (.bool (readQ b).2)]) else none
 | _ => none
theorem ct25 : CT [(24, ⟨[true, true], G24⟩), (47, ⟨[false], treeG F47⟩), (48, ⟨[true], G48⟩)] [0, 2, 3, 4, 5, 15] [(6, [⟨1, [5], [], []⟩, ⟨0, [4], [], []⟩, ⟨0, [29], [], []⟩, ⟨0, [30], [], []⟩, ⟨0, [31], [], [1]⟩, ⟨0, [32], [], []⟩, ⟨0, [33], [], []⟩, ⟨0, [4], [], []⟩, ⟨0, [35], [], []⟩, ⟨0, [36], [], []⟩, ⟨0, [37], [], [1]⟩, ⟨0, [38], [], [1]⟩, ⟨0, [39], [], []⟩, ⟨0, [34, 40], [], []⟩, ⟨2, [2, 28], [0], [1]⟩, ⟨0, [41], [0, 14], []⟩])] := ⟨(.cons g24 (.cons c47.g (.cons g48 (.nil _))))⟩
theorem dQ_T : qT dQ = .st [.int .u8 0, .ba 32 (zby 32), .int .u32 0, .int .u32 0, .by []] := rfl
set_option maxHeartbeats 2000000 in
theorem c25 : ACon Try.prog 25 F25 := by
 refine aconc E_ok (rs := [.cell 2 26, .tmp 3 4]) Try.func25 rfl Try.ntmps25 (by kernel_rfl) rfl (by decide) F25 (np := 1) ?_ ?_
 · intro ts h; unfold F25; split <;> first | rfl | (simp at h; done)
 intro ts H r hF hwf
 unfold F25 at hF
 split at hF <;> try (cases hF; done)
 rename_i b
 split at hF
 case isFalse => cases hF
 rename_i hb
 cases hF
 cases b with
 | nil =>
   rw [show readQ [] = (dQ, false) from rfl, dQ_T]
   repeat refine St trivial ct25 ?_
   exact AWP.ret (Fin trivial [] [])
 | cons c r =>
   have h1 := isop_c c
   obtain ⟨B, hB⟩ : ∃ B, c :: r = B := ⟨_, rfl⟩
   have hB0 : B.getD 0 0 = c := by rw [← hB]; rfl
   have hBd : B.drop 1 = r := by rw [← hB]; rfl
   have hBl : B.length = r.length + 1 := by rw [← hB]; rfl
   have k0 : ((B.length : Int) == 0) = false := by rw [beq_eq_false_iff_ne]; omega
   have k1 : 0 < B.length := by omega
   have k2 : 1 ≤ B.length := by omega
   have k3 : (0 : Int) < (B.length : Int) := by omega
   rw [hB] at hb
   cases hc : isOp c with
   | false =>
     rw [readQ_no hc, hB, dQ_T]
     rw [hc] at h1
     repeat refine St (And.intro k0 <| And.intro k1 <| And.intro k2 <| And.intro k3 <| And.intro hB0 <| h1) ct25 ?_
     exact AWP.ret (Fin trivial [] [])
   | true =>
     rw [readQ_yes hc, hB]
     rw [hc] at h1
     have hq : G24 [.bx (.t (.st [.by r, .bool false])), .bx (.t (.st [.int .u8 (c.toNat : Int), .ba 32 (zby 32), .int .u32 0, .int .u32 0, .by []]))] [.st [.clo 1000071 [.ptr 0 0 []], .clo 1000072 [.ptr 0 0 []], .clo 1000073 [.ptr 0 0 []], .clo 1000074 [.ptr 0 0 []], .clo 1000075 [.ptr 0 0 []], .clo 1000076 [.ptr 0 0 []], .clo 1000077 [.ptr 0 0 []], .clo 1000078 [.ptr 0 0 []]], .ptr 1 0 []] = some ([rX (rdK c (kQ c) ⟨r, 0⟩).2, .bx (.t (qT (rdK c (kQ c) ⟨r, 0⟩).1))], .tup []) := by
       have hcc : UInt8.ofNat ((c.toNat : Int)).toNat = c := by rw [Int.toNat_natCast]; exact UInt8.ofNat_toNat ..
       simp only [G24]
       rw [if_pos ⟨trivial, trivial, trivial, by omega, trivial, rfl, by omega, by have := c.toNat_lt; omega⟩, hcc]
     have ht : G48 [.bx (.t (.st [.by r, .bool false]))] [.ptr 0 0 []] = some ([.bx (.t (.st [.by r, .bool false]))], .st [.clo 1000071 [.ptr 0 0 []], .clo 1000072 [.ptr 0 0 []], .clo 1000073 [.ptr 0 0 []], .clo 1000074 [.ptr 0 0 []], .clo 1000075 [.ptr 0 0 []], .clo 1000076 [.ptr 0 0 []], .clo 1000077 [.ptr 0 0 []], .clo 1000078 [.ptr 0 0 []]]) := rfl
     generalize rdK c (kQ c) ⟨r, 0⟩ = R at *
     obtain ⟨q, ⟨s, e⟩⟩ := R
     dsimp only at hq ⊢
     simp only [rX] at hq
     have hn := q.name.2
     rw [qT_st] at hq ⊢
     repeat refine St (And.intro k0 <| And.intro k1 <| And.intro k2 <| And.intro k3 <| And.intro hB0 <| And.intro hBd <| h1) ct25 ?_
     refine AWP.weak (Wn 2 [4] 35 (.by [])) ?_
     by_cases he : e = 0
     · subst he
       have hd : decide ((0 : Int) ≠ 0) = false := rfl
       rw [hd] at hq
       by_cases hs : s = []
       · subst hs
         repeat refine St (And.intro ht <| And.intro hq <| hn) ct25 ?_
         exact AWP.ret (Fin trivial [] [])
       · have hsl : ((s.length : Int) == 0) = false := by
           have : 0 < s.length := List.length_pos_iff.2 hs
           rw [beq_eq_false_iff_ne]; omega
         have hsd : decide (s = []) = false := decide_eq_false hs
         rw [hsd]
         repeat refine St (And.intro ht <| And.intro hq <| And.intro hn <| hsl) ct25 ?_
         exact AWP.ret (Fin trivial [] [])
     · have hd : decide (e ≠ 0) = true := decide_eq_true he
       have hd2 : decide (e = 0) = false := decide_eq_false he
       rw [hd] at hq
       rw [hd2]
       repeat refine St (And.intro ht <| And.intro hq <| hn) ct25 ?_
       exact AWP.ret (Fin trivial [] [])
theorem read_q {b : List UInt8} (h : b.length ≤ 549755800000) : F25 [.by b] = some ([], .tup [.t (qT (readQ b).1), .t (.bool (readQ b).2)]) := if_pos h
noncomputable def F13 : Fun
 | [.by b] => if b.length ≤ 549755800000 then some ([], .tup [.t (qT (tkQ b)), .t (.int .i64 (tkQe b))]) else none
 | _ => none
theorem ct13 : CT [(25, ⟨[false], treeG F25⟩)] [0, 2, 3, 4, 5, 12] [] := ⟨(.cons c25.g (.nil _))⟩
theorem c13 : ACon Try.prog 13 F13 := by
 refine aconc E_ok (rs := [.cell 2 26, .tmp 3 28]) Try.func13 rfl Try.ntmps13 (by kernel_rfl) rfl (by decide) F13 (np := 1) ?_ ?_
 · intro ts h; unfold F13; split <;> first | rfl | (simp at h; done)
 intro ts H r hF hwf
 unfold F13 at hF
 split at hF <;> try (cases hF; done)
 rename_i b
 split at hF
 case isFalse => cases hF
 rename_i hb
 cases hF
 have h1 := read_q hb
 cases hr : (readQ b).2 with
 | true =>
   rw [show tkQ b = (readQ b).1 from if_pos hr, show tkQe b = 0 from if_pos hr]
   rw [hr] at h1
   generalize (readQ b).1 = q at *
   have hn := q.name.2
   rw [qT_st] at h1 ⊢
   repeat refine St (And.intro h1 <| hn) ct13 ?_
   exact AWP.ret (Fin trivial [] [])
 | false =>
   rw [show tkQ b = dQ from if_neg (by rw [hr]; simp), show tkQe b = 3 from if_neg (by rw [hr]; simp), dQ_T]
   rw [hr] at h1
   generalize (readQ b).1 = q at *
   have hn := q.name.2
   rw [qT_st] at h1
   repeat refine St (And.intro h1 <| hn) ct13 ?_
   exact AWP.ret (Fin trivial [] [])
theorem taq_c {b : List UInt8} (h : b.length ≤ 549755800000) : F13 [.by b] = some ([], .tup [.t (qT (tkQ b)), .t (.int .i64 (tkQe b))]) := if_pos h
noncomputable def F10 : Fun
 | [y] => match inv qT y with
   | some q => if q.bts.length ≤ 549750000000 then some ([], .tup [.t (.by (putQ q)), .t (.int .i64 (putQe q))]) else none
   | none => none
 | _ => none
theorem ct10 : CT [(23, ⟨[true], G23⟩), (24, ⟨[true, true], G24⟩), (25, ⟨[false], treeG F25⟩), (26, ⟨[false, false], treeG F26⟩)] [0, 1, 2, 3, 4, 5, 6, 7, 32] [] := ⟨(.cons g23 (.cons g24 (.cons c25.g (.cons c26.g (.nil _)))))⟩
theorem bodyK_len (q : TQ) (hb : q.bts.length ≤ 549750000000) : ∀ k, k ≤ 5 → (bodyK k q).length ≤ 549750001000 := by
 have hn := q.name.2
 have hs := sizeB_len (q.bts.length : Int)
 have l4 : ∀ n : Int, (le 4 n).length = 4 := fun n => le_len 4 n
 exact k_all (by simp [bodyK]) (by simp [bodyK, hn]) (by simp [bodyK, hn, l4]) (by simp [bodyK]; omega) (by simp [bodyK, l4]) (by simp [bodyK, l4])
set_option maxRecDepth 20000 in
set_option maxHeartbeats 4000000 in
theorem c10 : ACon Try.prog 10 F10 := by
 refine aconc E_ok (rs := [.tmp 2 24, .tmp 3 28]) Try.func10 rfl Try.ntmps10 (by kernel_rfl) rfl (by decide) F10 (np := 1) ?_ ?_
 · intro ts h; unfold F10; split <;> first | rfl | (simp at h; done)
 intro ts H r hF hwf
 unfold F10 at hF
 split at hF <;> try (cases hF; done)
 split at hF <;> try (cases hF; done)
 rename_i q hq
 split at hF
 case isFalse => cases hF
 rename_i hb
 cases hF
 obtain rfl := inv_inv hq
 have hsame := readQ_same q
 have hput : putQ q = if mayQ q = true then q.op :: bodyQ q else [] := rfl
 have hpe : putQe q = if mayQ q = true then 0 else 1 := rfl
 have hn := q.name.2
 have hbl := bodyK_len q hb (kQ q.op) (kQ_le _)
 have hbo : bodyQ q = bodyK (kQ q.op) q := rfl
 have hof : UInt8.ofNat q.op.toNat = q.op := UInt8.ofNat_toNat ..
 have h2 := read_q (b := q.op :: bodyQ q) (by rw [List.length_cons, hbo]; omega)
 have h3 := same_q (readQ (q.op :: bodyQ q)).1 q
 have hla : G23 [.bx (.st [.own 1]), .by [q.op]] [.ptr 0 0 []] = some ([.bx (.st [.own 1]), .by [q.op]], .st [.clo 1000039 [.ptr 0 0 []], .clo 1000040 [.ptr 0 0 []], .clo 1000041 [.ptr 0 0 []], .clo 1000042 [.ptr 0 0 []], .clo 1000043 [.ptr 0 0 []], .clo 1000044 [.ptr 0 0 []], .clo 1000045 [.ptr 0 0 []], .clo 1000046 [.ptr 0 0 []]]) := rfl
 have hq0 : kQ q.op = 0 → G24 [.bx (.st [.own 1]), .by [q.op], .bx (.t (qT q))] [.st [.clo 1000039 [.ptr 0 0 []], .clo 1000040 [.ptr 0 0 []], .clo 1000041 [.ptr 0 0 []], .clo 1000042 [.ptr 0 0 []], .clo 1000043 [.ptr 0 0 []], .clo 1000044 [.ptr 0 0 []], .clo 1000045 [.ptr 0 0 []], .clo 1000046 [.ptr 0 0 []]], .ptr 2 0 []] = some ([.bx (.st [.own 1]), .by [q.op], .bx (.t (qT q))], .tup []) := fun hk => by
   simp only [G24, inv_of qT_inj]
   rw [if_pos ⟨trivial, trivial, trivial, by simp, by omega⟩]
   simp only [hk]
 have hq1 : kQ q.op = 1 → G24 [.bx (.st [.own 1]), .by [q.op], .bx (.t (qT q))] [.st [.clo 1000039 [.ptr 0 0 []], .clo 1000040 [.ptr 0 0 []], .clo 1000041 [.ptr 0 0 []], .clo 1000042 [.ptr 0 0 []], .clo 1000043 [.ptr 0 0 []], .clo 1000044 [.ptr 0 0 []], .clo 1000045 [.ptr 0 0 []], .clo 1000046 [.ptr 0 0 []]], .ptr 2 0 []] = some ([.bx (.st [.own 3]), .no, .bx (.t (qT q)), .by ([q.op] ++ bodyK 1 q)], .tup []) := fun hk => by
   simp only [G24, inv_of qT_inj]
   rw [if_pos ⟨trivial, trivial, trivial, by simp, by omega⟩]
   simp only [hk]
 have hq2 : kQ q.op = 2 → G24 [.bx (.st [.own 1]), .by [q.op], .bx (.t (qT q))] [.st [.clo 1000039 [.ptr 0 0 []], .clo 1000040 [.ptr 0 0 []], .clo 1000041 [.ptr 0 0 []], .clo 1000042 [.ptr 0 0 []], .clo 1000043 [.ptr 0 0 []], .clo 1000044 [.ptr 0 0 []], .clo 1000045 [.ptr 0 0 []], .clo 1000046 [.ptr 0 0 []]], .ptr 2 0 []] = some ([.bx (.st [.own 3]), .no, .bx (.t (qT q)), .by ([q.op] ++ bodyK 2 q)], .tup []) := fun hk => by
   simp only [G24, inv_of qT_inj]
   rw [if_pos ⟨trivial, trivial, trivial, by simp, by omega⟩]
   simp only [hk]
 have hq3 : kQ q.op = 3 → G24 [.bx (.st [.own 1]), .by [q.op], .bx (.t (qT q))] [.st [.clo 1000039 [.ptr 0 0 []], .clo 1000040 [.ptr 0 0 []], .clo 1000041 [.ptr 0 0 []], .clo 1000042 [.ptr 0 0 []], .clo 1000043 [.ptr 0 0 []], .clo 1000044 [.ptr 0 0 []], .clo 1000045 [.ptr 0 0 []], .clo 1000046 [.ptr 0 0 []]], .ptr 2 0 []] = some ([.bx (.st [.own 3]), .by [q.op], .bx (.t (qT q)), .by ([q.op] ++ bodyK 3 q)], .tup []) := fun hk => by
   simp only [G24, inv_of qT_inj]
   rw [if_pos ⟨trivial, trivial, trivial, by simp, by omega⟩]
   simp only [hk]
 have hq4 : kQ q.op = 4 → G24 [.bx (.st [.own 1]), .by [q.op], .bx (.t (qT q))] [.st [.clo 1000039 [.ptr 0 0 []], .clo 1000040 [.ptr 0 0 []], .clo 1000041 [.ptr 0 0 []], .clo 1000042 [.ptr 0 0 []], .clo 1000043 [.ptr 0 0 []], .clo 1000044 [.ptr 0 0 []], .clo 1000045 [.ptr 0 0 []], .clo 1000046 [.ptr 0 0 []]], .ptr 2 0 []] = some ([.bx (.st [.own 3]), .by [q.op], .bx (.t (qT q)), .by ([q.op] ++ bodyK 4 q)], .tup []) := fun hk => by
   simp only [G24, inv_of qT_inj]
   rw [if_pos ⟨trivial, trivial, trivial, by simp, by omega⟩]
   simp only [hk]
 have hq5 : kQ q.op = 5 → G24 [.bx (.st [.own 1]), .by [q.op], .bx (.t (qT q))] [.st [.clo 1000039 [.ptr 0 0 []], .clo 1000040 [.ptr 0 0 []], .clo 1000041 [.ptr 0 0 []], .clo 1000042 [.ptr 0 0 []], .clo 1000043 [.ptr 0 0 []], .clo 1000044 [.ptr 0 0 []], .clo 1000045 [.ptr 0 0 []], .clo 1000046 [.ptr 0 0 []]], .ptr 2 0 []] = some ([.bx (.st [.own 3]), .by [q.op], .bx (.t (qT q)), .by ([q.op] ++ bodyK 5 q)], .tup []) := fun hk => by
   simp only [G24, inv_of qT_inj]
   rw [if_pos ⟨trivial, trivial, trivial, by simp, by omega⟩]
   simp only [hk]
 generalize readQ (q.op :: bodyQ q) = R at *
 obtain ⟨p, w⟩ := R
 dsimp only at h2 h3 hsame
 have hpn := p.name.2
 generalize putQ q = PQ at *
 generalize putQe q = PE at *
 generalize mayQ q = M at *
 have hcase : (w = false ∧ M = false) ∨ (w = true ∧ decide (p = q) = false ∧ M = false) ∨ (w = true ∧ decide (p = q) = true ∧ M = true) := by
   cases w with
   | false => exact .inl ⟨rfl, hsame.symm⟩
   | true =>
     rw [Bool.true_and] at hsame
     cases hd : decide (p = q) with
     | false => rw [hd] at hsame; exact .inr (.inl ⟨rfl, rfl, hsame.symm⟩)
     | true => rw [hd] at hsame; exact .inr (.inr ⟨rfl, rfl, hsame.symm⟩)
 generalize decide (p = q) = D at *
 rw [hbo] at h2 hput
 have hkc := kQ_cases q.op
 generalize kQ q.op = k at *
 rw [qT_st] at h2
 rw [qT_st, qT_st] at h3
 rw [qT_st]
 rw [qT_st] at hq0 hq1 hq2 hq3 hq4 hq5
 rcases hkc with rfl | rfl | rfl | rfl | rfl | rfl
 · have hqz := hq1 rfl
   clear hq0 hq1 hq2 hq3 hq4 hq5
   have hab : [q.op] ++ bodyK 1 q = q.op :: bodyK 1 q := rfl
   rw [hab] at hqz
   rcases hcase with ⟨rfl, rfl⟩ | ⟨rfl, rfl, rfl⟩ | ⟨rfl, rfl, rfl⟩
   · obtain rfl : PQ = [] := hput
     obtain rfl : PE = 1 := hpe
     repeat refine St (And.intro hla <| And.intro hqz <| And.intro hof <| And.intro hn <| And.intro h2 <| hpn) ct10 ?_
     exact AWP.ret (Fin trivial [] [])
   · obtain rfl : PQ = [] := hput
     obtain rfl : PE = 1 := hpe
     repeat refine St (And.intro hla <| And.intro hqz <| And.intro hof <| And.intro hn <| And.intro h2 <| And.intro h3 <| hpn) ct10 ?_
     exact AWP.ret (Fin trivial [] [])
   · obtain rfl : PQ = q.op :: bodyK 1 q := hput
     obtain rfl : PE = 0 := hpe
     repeat refine St (And.intro hla <| And.intro hqz <| And.intro hof <| And.intro hn <| And.intro h2 <| And.intro h3 <| hpn) ct10 ?_
     exact AWP.ret (Fin trivial [4] [])
 · have hqz := hq2 rfl
   clear hq0 hq1 hq2 hq3 hq4 hq5
   have hab : [q.op] ++ bodyK 2 q = q.op :: bodyK 2 q := rfl
   rw [hab] at hqz
   rcases hcase with ⟨rfl, rfl⟩ | ⟨rfl, rfl, rfl⟩ | ⟨rfl, rfl, rfl⟩
   · obtain rfl : PQ = [] := hput
     obtain rfl : PE = 1 := hpe
     repeat refine St (And.intro hla <| And.intro hqz <| And.intro hof <| And.intro hn <| And.intro h2 <| hpn) ct10 ?_
     exact AWP.ret (Fin trivial [] [])
   · obtain rfl : PQ = [] := hput
     obtain rfl : PE = 1 := hpe
     repeat refine St (And.intro hla <| And.intro hqz <| And.intro hof <| And.intro hn <| And.intro h2 <| And.intro h3 <| hpn) ct10 ?_
     exact AWP.ret (Fin trivial [] [])
   · obtain rfl : PQ = q.op :: bodyK 2 q := hput
     obtain rfl : PE = 0 := hpe
     repeat refine St (And.intro hla <| And.intro hqz <| And.intro hof <| And.intro hn <| And.intro h2 <| And.intro h3 <| hpn) ct10 ?_
     exact AWP.ret (Fin trivial [4] [])
 · have hqz := hq3 rfl
   clear hq0 hq1 hq2 hq3 hq4 hq5
   have hab : [q.op] ++ bodyK 3 q = q.op :: bodyK 3 q := rfl
   rw [hab] at hqz
   rcases hcase with ⟨rfl, rfl⟩ | ⟨rfl, rfl, rfl⟩ | ⟨rfl, rfl, rfl⟩
   · obtain rfl : PQ = [] := hput
     obtain rfl : PE = 1 := hpe
     repeat refine St (And.intro hla <| And.intro hqz <| And.intro hof <| And.intro hn <| And.intro h2 <| hpn) ct10 ?_
     exact AWP.ret (Fin trivial [] [])
   · obtain rfl : PQ = [] := hput
     obtain rfl : PE = 1 := hpe
     repeat refine St (And.intro hla <| And.intro hqz <| And.intro hof <| And.intro hn <| And.intro h2 <| And.intro h3 <| hpn) ct10 ?_
     exact AWP.ret (Fin trivial [] [])
   · obtain rfl : PQ = q.op :: bodyK 3 q := hput
     obtain rfl : PE = 0 := hpe
     repeat refine St (And.intro hla <| And.intro hqz <| And.intro hof <| And.intro hn <| And.intro h2 <| And.intro h3 <| hpn) ct10 ?_
     exact AWP.ret (Fin trivial [4] [])
 · have hqz := hq4 rfl
   clear hq0 hq1 hq2 hq3 hq4 hq5
   have hab : [q.op] ++ bodyK 4 q = q.op :: bodyK 4 q := rfl
   rw [hab] at hqz
   rcases hcase with ⟨rfl, rfl⟩ | ⟨rfl, rfl, rfl⟩ | ⟨rfl, rfl, rfl⟩
   · obtain rfl : PQ = [] := hput
     obtain rfl : PE = 1 := hpe
     repeat refine St (And.intro hla <| And.intro hqz <| And.intro hof <| And.intro hn <| And.intro h2 <| hpn) ct10 ?_
     exact AWP.ret (Fin trivial [] [])
   · obtain rfl : PQ = [] := hput
     obtain rfl : PE = 1 := hpe
     repeat refine St (And.intro hla <| And.intro hqz <| And.intro hof <| And.intro hn <| And.intro h2 <| And.intro h3 <| hpn) ct10 ?_
     exact AWP.ret (Fin trivial [] [])
   · obtain rfl : PQ = q.op :: bodyK 4 q := hput
     obtain rfl : PE = 0 := hpe
     repeat refine St (And.intro hla <| And.intro hqz <| And.intro hof <| And.intro hn <| And.intro h2 <| And.intro h3 <| hpn) ct10 ?_
     exact AWP.ret (Fin trivial [4] [])
 · have hqz := hq5 rfl
   clear hq0 hq1 hq2 hq3 hq4 hq5
   have hab : [q.op] ++ bodyK 5 q = q.op :: bodyK 5 q := rfl
   rw [hab] at hqz
   rcases hcase with ⟨rfl, rfl⟩ | ⟨rfl, rfl, rfl⟩ | ⟨rfl, rfl, rfl⟩
   · obtain rfl : PQ = [] := hput
     obtain rfl : PE = 1 := hpe
     repeat refine St (And.intro hla <| And.intro hqz <| And.intro hof <| And.intro hn <| And.intro h2 <| hpn) ct10 ?_
     exact AWP.ret (Fin trivial [] [])
   · obtain rfl : PQ = [] := hput
     obtain rfl : PE = 1 := hpe
     repeat refine St (And.intro hla <| And.intro hqz <| And.intro hof <| And.intro hn <| And.intro h2 <| And.intro h3 <| hpn) ct10 ?_
     exact AWP.ret (Fin trivial [] [])
   · obtain rfl : PQ = q.op :: bodyK 5 q := hput
     obtain rfl : PE = 0 := hpe
     repeat refine St (And.intro hla <| And.intro hqz <| And.intro hof <| And.intro hn <| And.intro h2 <| And.intro h3 <| hpn) ct10 ?_
     exact AWP.ret (Fin trivial [4] [])
 · have hqz := hq0 rfl
   clear hq0 hq1 hq2 hq3 hq4 hq5
   have hab : [q.op] ++ bodyK 0 q = q.op :: bodyK 0 q := rfl
   have h00 : bodyK 0 q = [] := rfl
   rw [h00] at h2 hput
   rcases hcase with ⟨rfl, rfl⟩ | ⟨rfl, rfl, rfl⟩ | ⟨rfl, rfl, rfl⟩
   · obtain rfl : PQ = [] := hput
     obtain rfl : PE = 1 := hpe
     repeat refine St (And.intro hla <| And.intro hqz <| And.intro hof <| And.intro hn <| And.intro h2 <| hpn) ct10 ?_
     exact AWP.ret (Fin trivial [] [])
   · obtain rfl : PQ = [] := hput
     obtain rfl : PE = 1 := hpe
     repeat refine St (And.intro hla <| And.intro hqz <| And.intro hof <| And.intro hn <| And.intro h2 <| And.intro h3 <| hpn) ct10 ?_
     exact AWP.ret (Fin trivial [] [])
   · obtain rfl : PQ = q.op :: bodyK 0 q := hput
     obtain rfl : PE = 0 := hpe
     repeat refine St (And.intro hla <| And.intro hqz <| And.intro hof <| And.intro hn <| And.intro h2 <| And.intro h3 <| hpn) ct10 ?_
     exact AWP.ret (Fin h00 [1] [])
theorem puq_c {q : TQ} (h : q.bts.length ≤ 549750000000) : F10 [qT q] = some ([], .tup [.t (.by (putQ q)), .t (.int .i64 (putQe q))]) := by
 simp only [F10, inv_of qT_inj]; exact if_pos h
end Go.Fw

end

section
namespace Go.Fw
open Go Go.Proofs
def dead33 : T := .st [.int .u8 2, .int .i64 5, .ba 32 (zby 32), .int .u32 0, .ar 4 1 (List.replicate 4 (.int .u64 0)), .int .u64 0, .bool false, .by [], .sq 69 [], .ar 5 1 (List.replicate 5 (.int .u32 0)), .sq 32 []]
theorem dead33_eq : dead33 = .st [.int .u8 2, .int .i64 5, .ba 32 (zby 32), .int .u32 0, .ar 4 1 (List.replicate 4 (.int .u64 0)), .int .u64 0, .bool false, .by [], .sq 69 [], .ar 5 1 (List.replicate 5 (.int .u32 0)), .sq 32 []] := rfl
noncomputable def F33q : Fun
 | [.by b] => if b = [UInt8.ofNat 2, UInt8.ofNat 5] then some ([], .tup [.t dead33, .t (.bool true)]) else none
 | _ => none
theorem ct33q : CT [(47, ⟨[false], treeG F47⟩), (48, ⟨[true], G48⟩)] [0, 2, 3, 4, 5, 21, 37] [(4, [⟨0, [0], [], []⟩, ⟨1, [27], [], []⟩, ⟨1, [28], [1], []⟩, ⟨0, [0], [], []⟩, ⟨1, [30], [], []⟩, ⟨1, [31], [4], []⟩, ⟨1, [32], [4, 5], []⟩, ⟨1, [29, 33], [1, 2, 4, 5, 6], []⟩, ⟨1, [], [], []⟩, ⟨2, [5, 34], [1, 2, 4, 5, 6, 7, 8], []⟩]), (7, [⟨1, [5], [], []⟩, ⟨0, [4], [], []⟩, ⟨0, [42], [], []⟩, ⟨0, [43], [], []⟩, ⟨0, [44], [], [1]⟩, ⟨0, [45], [], []⟩, ⟨0, [46], [], []⟩, ⟨0, [4], [], []⟩, ⟨0, [48], [], []⟩, ⟨0, [49], [], []⟩, ⟨0, [50], [], [1]⟩, ⟨0, [51], [], [1]⟩, ⟨0, [52], [], []⟩, ⟨0, [47, 53], [], []⟩, ⟨2, [2, 41], [0], [1]⟩, ⟨0, [54], [0, 14], []⟩])] := ⟨(.cons c47.g (.cons g48 (.nil _)))⟩
set_option maxHeartbeats 2000000 in
theorem c33q : ACon Try.prog 33 F33q := by
 refine aconc E_ok (rs := [.cell 2 47, .tmp 3 4]) Try.func33 rfl Try.ntmps33 (by kernel_rfl) rfl (by decide) F33q (np := 1) ?_ ?_
 · intro ts h; unfold F33q; split <;> first | rfl | (simp at h; done)
 intro ts H r hF hwf
 unfold F33q at hF
 split at hF <;> try (cases hF; done)
 
 rename_i b
 split at hF
 case isFalse => cases hF
 rename_i hb
 cases hF
 subst hb
 have h1 := isop_c (UInt8.ofNat 2)
 have h2 : isOp (UInt8.ofNat 2) = true := rfl
 rw [h2] at h1
 rw [dead33_eq]
 have e2 : ((UInt8.ofNat 2).toNat : Int) = 2 := rfl
 have e5 : ((UInt8.ofNat 5).toNat : Int) = 5 := rfl
 rw [e2] at h1
 repeat refine St (And.intro h1 <| And.intro e2 <| e5) ct33q ?_
 refine AWP.weak (Wn 2 [7] 41 (.by [])) ?_
 refine AWP.weak (Wn 2 [8] 42 (.sq 69 [])) ?_
 refine AWP.weak (Wn 2 [10] 48 (.sq 32 [])) ?_
 repeat refine St (And.intro h1 <| And.intro e2 <| e5) ct33q ?_
 exact AWP.ret (Fin trivial [] [])
noncomputable def F16q : Fun
 | [.by b] => if b = [UInt8.ofNat 2, UInt8.ofNat 5] then some ([], .tup [.t dead33, .t (.int .i64 0)]) else none
 | _ => none
theorem ct16q : CT [(33, ⟨[false], treeG F33q⟩)] [0, 2, 3, 4, 5, 12] [] := ⟨(.cons c33q.g (.nil _))⟩
set_option maxHeartbeats 2000000 in
theorem c16q : ACon Try.prog 16 F16q := by
 refine aconc E_ok (rs := [.cell 2 47, .tmp 3 28]) Try.func16 rfl Try.ntmps16 (by kernel_rfl) rfl (by decide) F16q (np := 1) ?_ ?_
 · intro ts h; unfold F16q; split <;> first | rfl | (simp at h; done)
 intro ts H r hF hwf
 unfold F16q at hF
 split at hF <;> try (cases hF; done)
 
 rename_i b
 split at hF
 case isFalse => cases hF
 rename_i hb
 cases hF
 subst hb
 have h1 : F33q [.by [UInt8.ofNat 2, UInt8.ofNat 5]] = some ([], .tup [.t dead33, .t (.bool true)]) := by simp only [F33q, if_true]
 rw [dead33_eq] at h1 ⊢
 repeat refine St h1 ct16q ?_
 exact AWP.ret (Fin trivial [] [])
def F9 : Fun
 | [] => some ([], .t (.bool true))
 | _ => none
theorem ct9 : CT [(10, ⟨[false], treeG F10⟩), (13, ⟨[false], treeG F13⟩), (16, ⟨[false], treeG F16q⟩)] [0, 1, 2, 3, 4, 6] [] := ⟨(.cons c10.g (.cons c13.g (.cons c16q.g (.nil _))))⟩
set_option maxHeartbeats 2000000 in
theorem c9 : ACon Try.prog 9 F9 := by
 refine aconc E_ok (rs := [.tmp 0 4]) Try.func9 rfl Try.ntmps9 (by kernel_rfl) rfl (by decide) F9 (np := 0) ?_ ?_
 · intro ts h; unfold F9; split <;> first | rfl | (simp at h; done)
 intro ts H r hF hwf
 unfold F9 at hF
 split at hF <;> try (cases hF; done)
 cases hF
 have h1 := puq_c (q := ⟨1, zH, 0, 0, []⟩) (by simp)
 have m1 : mayQ ⟨1, zH, 0, 0, []⟩ = true := by decide +kernel
 have p1 : putQ ⟨1, zH, 0, 0, []⟩ = [1] := by unfold putQ; rw [if_pos m1]; rfl
 have p2 : putQe ⟨1, zH, 0, 0, []⟩ = 0 := if_pos m1
 have q1 : qT ⟨1, zH, 0, 0, []⟩ = .st [.int .u8 1, .ba 32 (zby 32), .int .u32 0, .int .u32 0, .by []] := rfl
 rw [p1, p2, q1] at h1
 have h2 : F16q [.by [UInt8.ofNat 2, UInt8.ofNat 5]] = some ([], .tup [.t dead33, .t (.int .i64 0)]) := by simp only [F16q, if_true]
 rw [dead33_eq] at h2
 have h3 := taq_c (b := [UInt8.ofNat 11]) (by simp)
 have r1 : (readQ [UInt8.ofNat 11]).2 = false := by rw [readQ_no (by decide)]
 have r2 : tkQ [UInt8.ofNat 11] = dQ := if_neg (by rw [r1]; simp)
 have r3 : tkQe [UInt8.ofNat 11] = 3 := if_neg (by rw [r1]; simp)
 rw [r2, r3, dQ_T] at h3
 repeat refine St (And.intro h1 <| And.intro h2 <| h3) ct9 ?_
 exact AWP.ret (Fin trivial [] [])
end Go.Fw

end

section
namespace Go.Fw
open Go Go.Proofs
noncomputable def F69 : Fun
 | [y] => match inv wT y with
   | some w => some ([], .t (.ba 32 (wB w).1))
   | none => none
 | _ => none
theorem ct69 : CT [] [0, 1, 2, 3, 4, 5, 6] [] := ⟨GClOk.nil _⟩
set_option maxHeartbeats 2000000 in
theorem c69 : ACon Try.prog 69 F69 := by
 refine aconc E_ok (rs := [.cell 2 22]) Try.func69 rfl Try.ntmps69 (by kernel_rfl) rfl (by decide) F69 (np := 1) ?_ ?_
 · intro ts h; unfold F69; split <;> first | rfl | (simp at h; done)
 intro ts H r hF hwf
 unfold F69 at hF
 split at hF <;> try (cases hF; done)
 split at hF <;> try (cases hF; done)
 rename_i w hw
 cases hF
 obtain rfl := inv_inv hw
 have hL := wL_len w
 have hB : (wB w).1 = outW (wL w) 32 := (outW_32 hL).symm
 rw [hB]
 have hW : wT w = .ar 4 1 [.int .u64 (w.a.toNat : Int), .int .u64 (w.b.toNat : Int), .int .u64 (w.c.toNat : Int), .int .u64 (w.d.toNat : Int)] := rfl
 rw [hW]
 repeat refine St2 trivial ct69 ?_
 refine AWP.loop (G := { i : Nat // i ≤ 32 }) (fun i => ⟨[(1, .ptr 0 0 []), (2, .ptr 1 0 []), (3, .ptr 2 0 []), (5, .t (.int .i64 (i.1 : Int)))], [.bx (.t (.ar 4 1 [.int .u64 (w.a.toNat : Int), .int .u64 (w.b.toNat : Int), .int .u64 (w.c.toNat : Int), .int .u64 (w.d.toNat : Int)])), .bx (.t (.ba 32 (zby 32))), .bx (.t (.ba 32 (outW (wL w) i.1)))]⟩) (fun i => 32 - i.1) ⟨0, by omega⟩ (Wt @outW_0 [1, 2, 3, 5] [0, 1, 2]) ?_
 intro ⟨i, hi⟩
 dsimp only
 have hol := outW_len hL hi
 by_cases hlt : (i : Int) < 32
 · have hi32 : i < 32 := by omega
   have hset := outW_set hL hi32
   have e31 : IntKind.i64.wrap (31 - (i : Int)) = ((31 - i : Nat) : Int) := by rw [wrap_i64 (by omega) (by omega)]; omega
   have l31 : 31 - i < (outW (wL w) i).length := by omega
   have m31 : ((31 - i : Nat) : Int) < 32 := by omega
   have k31 : 31 - i < 32 := by omega
   have hdq : ∀ q r : Nat, i = 8 * q + r → r < 8 → IntKind.i64.wrap (Int.tdiv (i : Int) 8) = (q : Int) ∧ IntKind.i64.wrap (Int.tmod (i : Int) 8) = (r : Int) ∧ IntKind.i64.wrap (8 * (r : Int)) = ((8 * r : Nat) : Int) := by
     intro q r h1 h2
     refine ⟨?_, ?_, ?_⟩
     · rw [Int.tdiv_eq_ediv_of_nonneg (by omega), wrap_i64 (by omega) (by omega)]; omega
     · rw [Int.tmod_eq_emod_of_nonneg (by omega), wrap_i64 (by omega) (by omega)]; omega
     · rw [wrap_i64 (by omega) (by omega)]; omega
   have hn1 : IntKind.i64.wrap ((i : Int) + 1) = ((i + 1 : Nat) : Int) := by rw [wrap_i64 (by omega) (by omega)]; omega
   have hwl := wL_getD w
   rcases (by omega : i < 8 ∨ (8 ≤ i ∧ i < 16) ∨ (16 ≤ i ∧ i < 24) ∨ 24 ≤ i) with hq | hq | hq | hq
   · obtain ⟨r, hr⟩ : ∃ r, i = 8 * 0 + r := ⟨i - 8 * 0, by omega⟩
     have hr8 : r < 8 := by omega
     obtain ⟨d1, d2, d3⟩ := hdq 0 r hr hr8
     have d1' : IntKind.i64.wrap (Int.tdiv (i : Int) 8) = 0 := d1
     have hg : (wL w).getD i 0 = (le 8 (w.a.toNat : Int)).getD r 0 := by rw [show i = r by omega]; exact (hwl r hr8).1
     have r0 : (0 : Int) ≤ ((8 * r : Nat) : Int) := by omega
     have r1 : ¬ ((8 * r : Nat) : Int) < 0 := by omega
     have hb := byteW_of w.a r hr8
     rw [← hg] at hb
     repeat refine St2 (And.intro hlt <| And.intro hi32 <| And.intro e31 <| And.intro l31 <| And.intro m31 <| And.intro k31 <| And.intro d1' <| And.intro d2 <| And.intro d3 <| And.intro hb <| And.intro r0 <| And.intro r1 <| And.intro hset <| And.intro hol <| hn1) ct69 ?_
     exact ⟨⟨i + 1, by omega⟩, (Wt trivial [1, 2, 3, 5] [0, 1, 2]), by dsimp only; omega⟩
   · obtain ⟨r, hr⟩ : ∃ r, i = 8 * 1 + r := ⟨i - 8 * 1, by omega⟩
     have hr8 : r < 8 := by omega
     obtain ⟨d1, d2, d3⟩ := hdq 1 r hr hr8
     have d1' : IntKind.i64.wrap (Int.tdiv (i : Int) 8) = 1 := d1
     have hg : (wL w).getD i 0 = (le 8 (w.b.toNat : Int)).getD r 0 := by rw [show i = 8 + r by omega]; exact (hwl r hr8).2.1
     have r0 : (0 : Int) ≤ ((8 * r : Nat) : Int) := by omega
     have r1 : ¬ ((8 * r : Nat) : Int) < 0 := by omega
     have hb := byteW_of w.b r hr8
     rw [← hg] at hb
     repeat refine St2 (And.intro hlt <| And.intro hi32 <| And.intro e31 <| And.intro l31 <| And.intro m31 <| And.intro k31 <| And.intro d1' <| And.intro d2 <| And.intro d3 <| And.intro hb <| And.intro r0 <| And.intro r1 <| And.intro hset <| And.intro hol <| hn1) ct69 ?_
     exact ⟨⟨i + 1, by omega⟩, (Wt trivial [1, 2, 3, 5] [0, 1, 2]), by dsimp only; omega⟩
   · obtain ⟨r, hr⟩ : ∃ r, i = 8 * 2 + r := ⟨i - 8 * 2, by omega⟩
     have hr8 : r < 8 := by omega
     obtain ⟨d1, d2, d3⟩ := hdq 2 r hr hr8
     have d1' : IntKind.i64.wrap (Int.tdiv (i : Int) 8) = 2 := d1
     have hg : (wL w).getD i 0 = (le 8 (w.c.toNat : Int)).getD r 0 := by rw [show i = 16 + r by omega]; exact (hwl r hr8).2.2.1
     have r0 : (0 : Int) ≤ ((8 * r : Nat) : Int) := by omega
     have r1 : ¬ ((8 * r : Nat) : Int) < 0 := by omega
     have hb := byteW_of w.c r hr8
     rw [← hg] at hb
     repeat refine St2 (And.intro hlt <| And.intro hi32 <| And.intro e31 <| And.intro l31 <| And.intro m31 <| And.intro k31 <| And.intro d1' <| And.intro d2 <| And.intro d3 <| And.intro hb <| And.intro r0 <| And.intro r1 <| And.intro hset <| And.intro hol <| hn1) ct69 ?_
     exact ⟨⟨i + 1, by omega⟩, (Wt trivial [1, 2, 3, 5] [0, 1, 2]), by dsimp only; omega⟩
   · obtain ⟨r, hr⟩ : ∃ r, i = 8 * 3 + r := ⟨i - 8 * 3, by omega⟩
     have hr8 : r < 8 := by omega
     obtain ⟨d1, d2, d3⟩ := hdq 3 r hr hr8
     have d1' : IntKind.i64.wrap (Int.tdiv (i : Int) 8) = 3 := d1
     have hg : (wL w).getD i 0 = (le 8 (w.d.toNat : Int)).getD r 0 := by rw [show i = 24 + r by omega]; exact (hwl r hr8).2.2.2
     have r0 : (0 : Int) ≤ ((8 * r : Nat) : Int) := by omega
     have r1 : ¬ ((8 * r : Nat) : Int) < 0 := by omega
     have hb := byteW_of w.d r hr8
     rw [← hg] at hb
     repeat refine St2 (And.intro hlt <| And.intro hi32 <| And.intro e31 <| And.intro l31 <| And.intro m31 <| And.intro k31 <| And.intro d1' <| And.intro d2 <| And.intro d3 <| And.intro hb <| And.intro r0 <| And.intro r1 <| And.intro hset <| And.intro hol <| hn1) ct69 ?_
     exact ⟨⟨i + 1, by omega⟩, (Wt trivial [1, 2, 3, 5] [0, 1, 2]), by dsimp only; omega⟩
 · obtain rfl : i = 32 := by omega
   repeat refine St2 (And.intro hlt <| hol) ct69 ?_
   exact AWP.ret (Fin trivial [] [])
theorem wbytes_c (w : W4) : F69 [wT w] = some ([], .t (.ba 32 (wB w).1)) := by
 simp only [F69, inv_of wT_injx]
def F90 : Fun
 | [.ba 32 l] => if h : l.length = 32 then some ([], .t (wT (wR ⟨l, h⟩))) else none
 | _ => none
theorem ct90 : CT [] [0, 1, 2, 3, 4, 5, 6, 7, 8, 9] [(6, [⟨0, [6], [], []⟩, ⟨0, [14], [], []⟩, ⟨1, [3, 15], [], []⟩, ⟨1, [16], [2], []⟩, ⟨0, [5], [], []⟩, ⟨1, [18], [], []⟩, ⟨0, [6], [], []⟩, ⟨0, [20], [], []⟩, ⟨0, [21], [], []⟩, ⟨0, [19, 22], [5], []⟩, ⟨0, [17, 23], [2, 3, 5], []⟩, ⟨1, [3, 15], [2, 3, 5], []⟩, ⟨2, [24, 25], [2, 3, 5, 11], []⟩])] := ⟨GClOk.nil _⟩
set_option maxHeartbeats 4000000 in
theorem c90 : ACon Try.prog 90 F90 := by
 refine aconc E_ok (rs := [.cell 2 42]) Try.func90 rfl Try.ntmps90 (by kernel_rfl) rfl (by decide) F90 (np := 1) ?_ ?_
 · intro ts h; unfold F90; split <;> first | rfl | (simp at h; done)
 intro ts H r hF hwf
 unfold F90 at hF
 split at hF <;> try (cases hF; done)
 rename_i l
 split at hF
 case isFalse => cases hF
 rename_i hl
 cases hF
 obtain ⟨h, hh⟩ : ∃ h : H32, h = ⟨l, hl⟩ := ⟨_, rfl⟩
 have hhl : l = h.1 := by rw [hh]
 rw [← hh]
 subst hhl
 have hL : h.1.reverse.length = 32 := by rw [List.length_reverse]; exact hl
 repeat refine St2 hl ct90 ?_
 have z0 : ∀ j, ((nth8 (mskW h.1.reverse 0) j).toNat : Int) = 0 := fun j => by rw [word_0 j hL]; rfl
 refine AWP.loop (G := { i : Nat // i ≤ 32 }) (fun i => ⟨[(1, .ptr 0 0 []), (2, .ptr 1 0 []), (3, .ptr 2 0 []), (7, .t (.ba 32 h.1)), (8, .t (.int .i64 (i.1 : Int)))], [.bx (.t (.ba 32 h.1)), .bx (.t (.ar 4 1 [.int .u64 0, .int .u64 0, .int .u64 0, .int .u64 0])), .bx (.t (.ar 4 1 [.int .u64 ((nth8 (mskW h.1.reverse i.1) 0).toNat : Int), .int .u64 ((nth8 (mskW h.1.reverse i.1) 1).toNat : Int), .int .u64 ((nth8 (mskW h.1.reverse i.1) 2).toNat : Int), .int .u64 ((nth8 (mskW h.1.reverse i.1) 3).toNat : Int)]))]⟩) (fun i => 32 - i.1) ⟨0, by omega⟩ (Wt z0 [1, 2, 3, 7, 8] [0, 1, 2]) ?_
 intro ⟨i, hi⟩
 dsimp only
 by_cases hlt : (i : Int) < 32
 · have hi32 : i < 32 := by omega
   have hl32 : i < h.1.length := by omega
   have hn1 : IntKind.i64.wrap ((i : Int) + 1) = ((i + 1 : Nat) : Int) := by rw [wrap_i64 (by omega) (by omega)]; omega
   have hcw : IntKind.u64.wrap ((h.1.getD i 0).toNat : Int) = ((h.1.getD i 0).toNat : Int) := by
     have := (h.1.getD i 0).toNat_lt
     exact wrap_u64 (by omega) (by omega)
   have e31 : IntKind.i64.wrap (31 - (i : Int)) = ((31 - i : Nat) : Int) := by rw [wrap_i64 (by omega) (by omega)]; omega
   have hrev : h.1.getD i 0 = h.1.reverse.getD (31 - i) 0 := by
     simp only [List.getD_eq_getElem?_getD]
     rw [List.getElem?_reverse (by omega)]
     congr 2; omega
   have hdq : ∀ q r : Nat, 31 - i = 8 * q + r → r < 8 → IntKind.i64.wrap (Int.tdiv ((31 - i : Nat) : Int) 8) = (q : Int) ∧ IntKind.i64.wrap (Int.tmod ((31 - i : Nat) : Int) 8) = (r : Int) ∧ IntKind.i64.wrap (8 * (r : Int)) = ((8 * r : Nat) : Int) := by
     intro q r h1 h2
     refine ⟨?_, ?_, ?_⟩
     · rw [Int.tdiv_eq_ediv_of_nonneg (by omega), wrap_i64 (by omega) (by omega)]; omega
     · rw [Int.tmod_eq_emod_of_nonneg (by omega), wrap_i64 (by omega) (by omega)]; omega
     · rw [wrap_i64 (by omega) (by omega)]; omega
   rcases (by omega : 24 ≤ i ∨ (16 ≤ i ∧ i < 24) ∨ (8 ≤ i ∧ i < 16) ∨ i < 8) with hq | hq | hq | hq
   · obtain ⟨r, hr⟩ : ∃ r, 31 - i = 8 * 0 + r := ⟨31 - i - 8 * 0, by omega⟩
     have hr8 : r < 8 := by omega
     obtain ⟨d1, d2, d3⟩ := hdq 0 r hr hr8
     have d1' : IntKind.i64.wrap (Int.tdiv ((31 - i : Nat) : Int) 8) = 0 := d1
     have hst := word_step hL (q := 0) (r := r) (i := i) (by omega) hr8 (by omega)
     rw [← hr, ← hrev] at hst
     simp only [arith, Option.some.injEq, T.int.injEq, true_and] at hst
     have r1 : ¬ ((8 * r : Nat) : Int) < 0 := by omega
     have s1 := word_same hL (q := 0) (r := r) (i := i) (j := 1) (by omega) hr8 (by omega) (by omega) (by omega)
     have s2 := word_same hL (q := 0) (r := r) (i := i) (j := 2) (by omega) hr8 (by omega) (by omega) (by omega)
     have s3 := word_same hL (q := 0) (r := r) (i := i) (j := 3) (by omega) hr8 (by omega) (by omega) (by omega)
     repeat refine St2 (And.intro hlt <| And.intro hi32 <| And.intro hl32 <| And.intro e31 <| And.intro d1' <| And.intro d2 <| And.intro d3 <| And.intro hcw <| And.intro r1 <| And.intro hst <| And.intro hn1 <| @u8.eq_def) ct90 ?_
     exact ⟨⟨i + 1, by omega⟩, (Wt (And.intro s1 <| And.intro s2 <| s3) [1, 2, 3, 7, 8] [0, 1, 2]), by dsimp only; omega⟩
   · obtain ⟨r, hr⟩ : ∃ r, 31 - i = 8 * 1 + r := ⟨31 - i - 8 * 1, by omega⟩
     have hr8 : r < 8 := by omega
     obtain ⟨d1, d2, d3⟩ := hdq 1 r hr hr8
     have d1' : IntKind.i64.wrap (Int.tdiv ((31 - i : Nat) : Int) 8) = 1 := d1
     have hst := word_step hL (q := 1) (r := r) (i := i) (by omega) hr8 (by omega)
     rw [← hr, ← hrev] at hst
     simp only [arith, Option.some.injEq, T.int.injEq, true_and] at hst
     have r1 : ¬ ((8 * r : Nat) : Int) < 0 := by omega
     have s0 := word_same hL (q := 1) (r := r) (i := i) (j := 0) (by omega) hr8 (by omega) (by omega) (by omega)
     have s2 := word_same hL (q := 1) (r := r) (i := i) (j := 2) (by omega) hr8 (by omega) (by omega) (by omega)
     have s3 := word_same hL (q := 1) (r := r) (i := i) (j := 3) (by omega) hr8 (by omega) (by omega) (by omega)
     repeat refine St2 (And.intro hlt <| And.intro hi32 <| And.intro hl32 <| And.intro e31 <| And.intro d1' <| And.intro d2 <| And.intro d3 <| And.intro hcw <| And.intro r1 <| And.intro hst <| And.intro hn1 <| @u8.eq_def) ct90 ?_
     exact ⟨⟨i + 1, by omega⟩, (Wt (And.intro s0 <| And.intro s2 <| s3) [1, 2, 3, 7, 8] [0, 1, 2]), by dsimp only; omega⟩
   · obtain ⟨r, hr⟩ : ∃ r, 31 - i = 8 * 2 + r := ⟨31 - i - 8 * 2, by omega⟩
     have hr8 : r < 8 := by omega
     obtain ⟨d1, d2, d3⟩ := hdq 2 r hr hr8
     have d1' : IntKind.i64.wrap (Int.tdiv ((31 - i : Nat) : Int) 8) = 2 := d1
     have hst := word_step hL (q := 2) (r := r) (i := i) (by omega) hr8 (by omega)
     rw [← hr, ← hrev] at hst
     simp only [arith, Option.some.injEq, T.int.injEq, true_and] at hst
     have r1 : ¬ ((8 * r : Nat) : Int) < 0 := by omega
     have s0 := word_same hL (q := 2) (r := r) (i := i) (j := 0) (by omega) hr8 (by omega) (by omega) (by omega)
     have s1 := word_same hL (q := 2) (r := r) (i := i) (j := 1) (by omega) hr8 (by omega) (by omega) (by omega)
     have s3 := word_same hL (q := 2) (r := r) (i := i) (j := 3) (by omega) hr8 (by omega) (by omega) (by omega)
     repeat refine St2 (And.intro hlt <| And.intro hi32 <| And.intro hl32 <| And.intro e31 <| And.intro d1' <| And.intro d2 <| And.intro d3 <| And.intro hcw <| And.intro r1 <| And.intro hst <| And.intro hn1 <| @u8.eq_def) ct90 ?_
     exact ⟨⟨i + 1, by omega⟩, (Wt (And.intro s0 <| And.intro s1 <| s3) [1, 2, 3, 7, 8] [0, 1, 2]), by dsimp only; omega⟩
   · obtain ⟨r, hr⟩ : ∃ r, 31 - i = 8 * 3 + r := ⟨31 - i - 8 * 3, by omega⟩
     have hr8 : r < 8 := by omega
     obtain ⟨d1, d2, d3⟩ := hdq 3 r hr hr8
     have d1' : IntKind.i64.wrap (Int.tdiv ((31 - i : Nat) : Int) 8) = 3 := d1
     have hst := word_step hL (q := 3) (r := r) (i := i) (by omega) hr8 (by omega)
     rw [← hr, ← hrev] at hst
     simp only [arith, Option.some.injEq, T.int.injEq, true_and] at hst
     have r1 : ¬ ((8 * r : Nat) : Int) < 0 := by omega
     have s0 := word_same hL (q := 3) (r := r) (i := i) (j := 0) (by omega) hr8 (by omega) (by omega) (by omega)
     have s1 := word_same hL (q := 3) (r := r) (i := i) (j := 1) (by omega) hr8 (by omega) (by omega) (by omega)
     have s2 := word_same hL (q := 3) (r := r) (i := i) (j := 2) (by omega) hr8 (by omega) (by omega) (by omega)
     repeat refine St2 (And.intro hlt <| And.intro hi32 <| And.intro hl32 <| And.intro e31 <| And.intro d1' <| And.intro d2 <| And.intro d3 <| And.intro hcw <| And.intro r1 <| And.intro hst <| And.intro hn1 <| @u8.eq_def) ct90 ?_
     exact ⟨⟨i + 1, by omega⟩, (Wt (And.intro s0 <| And.intro s1 <| s2) [1, 2, 3, 7, 8] [0, 1, 2]), by dsimp only; omega⟩
 · obtain rfl : i = 32 := by omega
   have hfin : mskW h.1.reverse 32 = h.1.reverse := mskW_32 _
   rw [hfin]
   repeat refine St2 hlt ct90 ?_
   exact AWP.ret (Fin (And.intro @wT.eq_def <| And.intro @wR.eq_def <| @wOf.eq_def) [] [])
theorem wread_c (h : H32) : F90 [.ba 32 h.1] = some ([], .t (wT (wR h))) := dif_pos h.2
end Go.Fw

end

section
namespace Go.Fw
open Go Go.Proofs
theorem wT_st (w : W4) : wT w = .ar 4 1 [.int .u64 (w.a.toNat : Int), .int .u64 (w.b.toNat : Int), .int .u64 (w.c.toNat : Int), .int .u64 (w.d.toNat : Int)] := rfl
theorem put64_q {b : List UInt8} (n : Int) (h : b.length ≤ 1000000000) : F67 [.by b, .int .u64 n] = some ([.by (b ++ le 8 n)], .own 0) := if_pos (by omega)
theorem len_nat (l : List UInt8) : (0 : Int) ≤ (l.length : Int) := by omega
def wOld (B : Blk) (l k : List UInt8) : Option (List Blk × AV) := some ([.bx (.st [.own 3]), .no, B, .by (l ++ k)], .tup [])
def wNew (B : Blk) (l k : List UInt8) : Option (List Blk × AV) := some ([.bx (.st [.own 3]), .by l, B, .by (l ++ k)], .tup [])
noncomputable def G39a : GFun
 | [.bx (.st [.own 1]), .by l, B], [.ptr 0 0 [], .ptr 2 off p] => match Blk.get B p with
   | some (.t (.ba 32 n)) => @ite _ ((At B off p (.ba 32 n) ∧ n.length = 32 ∧ l.length ≤ 1000000000)) (Classical.propDecidable _) ((wOld B l (n))) none
   | _ => none
 | _, _ => none
theorem ct39a : CT [] [0, 1] [(0, [⟨0, [0], [], []⟩, ⟨0, [0], [], []⟩, ⟨0, [5], [], []⟩, ⟨0, [6], [], []⟩, ⟨1, [7], [], []⟩, ⟨0, [1], [], []⟩, ⟨0, [9], [], []⟩, ⟨1, [10], [], []⟩, ⟨2, [8, 11], [4, 7], []⟩, ⟨0, [4], [4, 7, 8], []⟩, ⟨0, [13], [4, 7, 8], []⟩, ⟨2, [12, 14], [4, 7, 8], []⟩])] := ⟨GClOk.nil _⟩
set_option maxHeartbeats 1000000 in
theorem g39a : GCon Try.prog 39 G39a := by
 refine gconc E_ok (rs := []) Try.func39 rfl Try.ntmps39 (by kernel_rfl) rfl (by decide) G39a (np := 2) ?_ ?_
 · intro HB xs h; unfold G39a; split <;> first | rfl | (simp at h; done)
 intro HB xs H r hG hwf hex
 unfold G39a at hG
 split at hG <;> try (cases hG; done)
 
 rename_i l B off p
 split at hG <;> try (cases hG; done)
 rename_i n hget
 split at hG
 case isFalse => cases hG
 rename_i hc
 cases hG
 clear hget
 obtain ⟨hat, hn, hl⟩ := hc
 have hnt : n.take 32 = n := List.take_of_length_le (by omega)
 cases hat with
 | st h1 h2 h3 h4 =>
   subst h4
   repeat refine St (And.intro (And.intro @gentry.eq_1 <| @gentry.eq_2) <| And.intro hn <| And.intro hnt <| And.intro hl <| And.intro h1 <| And.intro h2 <| h3) ct39a ?_
   exact Fin trivial [] [0, 1, 2, 3]
 | sq h1 h2 h3 h4 =>
   subst h4
   repeat refine St (And.intro (And.intro @gentry.eq_1 <| @gentry.eq_2) <| And.intro hn <| And.intro hnt <| And.intro hl <| And.intro h1 <| And.intro h2 <| h3) ct39a ?_
   exact Fin trivial [] [0, 1, 2, 3]
 | bx =>
   repeat refine St (And.intro (And.intro @gentry.eq_1 <| @gentry.eq_2) <| And.intro hn <| And.intro hnt <| hl) ct39a ?_
   exact Fin trivial [] [0, 1, 2, 3]
theorem wname_a {B : Blk} {l : List UInt8} {off : Nat} {p : List Nat} {n : List UInt8} (h : At B off p (.ba 32 n)) (hc : n.length = 32 ∧ l.length ≤ 1000000000) : G39a [.bx (.st [.own 1]), .by l, B] [.ptr 0 0 [], .ptr 2 off p] = wOld B l (n) := by
 simp only [G39a, h.get]
 exact if_pos ⟨h, hc⟩
noncomputable def G40a : GFun
 | [.bx (.st [.own 1]), .by l, B], [.ptr 0 0 [], .ptr 2 off p] => match Blk.get B p with
   | some (.t (.int .u32 v)) => @ite _ ((At B off p (.int .u32 v) ∧ l.length ≤ 1000000000)) (Classical.propDecidable _) ((wNew B l (le 4 v))) none
   | _ => none
 | _, _ => none
theorem ct40a : CT [(66, ⟨[false, false], treeG F66⟩)] [0, 1] [(0, [⟨0, [0], [], []⟩, ⟨0, [0], [], []⟩, ⟨0, [5], [], []⟩, ⟨0, [6], [], []⟩, ⟨1, [7], [], []⟩, ⟨0, [1], [], []⟩, ⟨0, [9], [], []⟩, ⟨1, [10], [], []⟩, ⟨1, [8, 11], [4, 7], []⟩, ⟨0, [4], [4, 7, 8], []⟩, ⟨0, [13], [4, 7, 8], []⟩, ⟨2, [12, 14], [4, 7, 8], []⟩])] := ⟨(.cons c66.g (.nil _))⟩
set_option maxHeartbeats 1000000 in
theorem g40a : GCon Try.prog 40 G40a := by
 refine gconc E_ok (rs := []) Try.func40 rfl Try.ntmps40 (by kernel_rfl) rfl (by decide) G40a (np := 2) ?_ ?_
 · intro HB xs h; unfold G40a; split <;> first | rfl | (simp at h; done)
 intro HB xs H r hG hwf hex
 unfold G40a at hG
 split at hG <;> try (cases hG; done)
 
 rename_i l B off p
 split at hG <;> try (cases hG; done)
 rename_i v hget
 split at hG
 case isFalse => cases hG
 rename_i hc
 cases hG
 clear hget
 obtain ⟨hat, hl⟩ := hc
 have p1 := put32_q (b := l) v hl
 cases hat with
 | st h1 h2 h3 h4 =>
   subst h4
   repeat refine St (And.intro (And.intro @gentry.eq_1 <| @gentry.eq_2) <| And.intro p1 <| And.intro h1 <| And.intro h2 <| h3) ct40a ?_
   exact Fin trivial [] [0, 1, 2, 3]
 | sq h1 h2 h3 h4 =>
   subst h4
   repeat refine St (And.intro (And.intro @gentry.eq_1 <| @gentry.eq_2) <| And.intro p1 <| And.intro h1 <| And.intro h2 <| h3) ct40a ?_
   exact Fin trivial [] [0, 1, 2, 3]
 | bx =>
   repeat refine St (And.intro (And.intro @gentry.eq_1 <| @gentry.eq_2) <| p1) ct40a ?_
   exact Fin trivial [] [0, 1, 2, 3]
theorem wshort_a {B : Blk} {l : List UInt8} {off : Nat} {p : List Nat} {v : Int} (h : At B off p (.int .u32 v)) (hc : l.length ≤ 1000000000) : G40a [.bx (.st [.own 1]), .by l, B] [.ptr 0 0 [], .ptr 2 off p] = wNew B l (le 4 v) := by
 simp only [G40a, h.get]
 exact if_pos ⟨h, hc⟩
noncomputable def G41a : GFun
 | [.bx (.st [.own 1]), .by l, B], [.ptr 0 0 [], .ptr 2 off p] => match Blk.get B p with
   | some (.t (.int .u64 v)) => @ite _ ((At B off p (.int .u64 v) ∧ l.length ≤ 1000000000)) (Classical.propDecidable _) ((wNew B l (le 8 v))) none
   | _ => none
 | _, _ => none
theorem ct41a : CT [(67, ⟨[false, false], treeG F67⟩)] [0, 1] [(0, [⟨0, [0], [], []⟩, ⟨0, [0], [], []⟩, ⟨0, [5], [], []⟩, ⟨0, [6], [], []⟩, ⟨1, [7], [], []⟩, ⟨0, [1], [], []⟩, ⟨0, [9], [], []⟩, ⟨1, [10], [], []⟩, ⟨1, [8, 11], [4, 7], []⟩, ⟨0, [4], [4, 7, 8], []⟩, ⟨0, [13], [4, 7, 8], []⟩, ⟨2, [12, 14], [4, 7, 8], []⟩])] := ⟨(.cons c67.g (.nil _))⟩
set_option maxHeartbeats 1000000 in
theorem g41a : GCon Try.prog 41 G41a := by
 refine gconc E_ok (rs := []) Try.func41 rfl Try.ntmps41 (by kernel_rfl) rfl (by decide) G41a (np := 2) ?_ ?_
 · intro HB xs h; unfold G41a; split <;> first | rfl | (simp at h; done)
 intro HB xs H r hG hwf hex
 unfold G41a at hG
 split at hG <;> try (cases hG; done)
 
 rename_i l B off p
 split at hG <;> try (cases hG; done)
 rename_i v hget
 split at hG
 case isFalse => cases hG
 rename_i hc
 cases hG
 clear hget
 obtain ⟨hat, hl⟩ := hc
 have p1 := put64_q (b := l) v hl
 cases hat with
 | st h1 h2 h3 h4 =>
   subst h4
   repeat refine St (And.intro (And.intro @gentry.eq_1 <| @gentry.eq_2) <| And.intro p1 <| And.intro h1 <| And.intro h2 <| h3) ct41a ?_
   exact Fin trivial [] [0, 1, 2, 3]
 | sq h1 h2 h3 h4 =>
   subst h4
   repeat refine St (And.intro (And.intro @gentry.eq_1 <| @gentry.eq_2) <| And.intro p1 <| And.intro h1 <| And.intro h2 <| h3) ct41a ?_
   exact Fin trivial [] [0, 1, 2, 3]
 | bx =>
   repeat refine St (And.intro (And.intro @gentry.eq_1 <| @gentry.eq_2) <| p1) ct41a ?_
   exact Fin trivial [] [0, 1, 2, 3]
theorem wlong_a {B : Blk} {l : List UInt8} {off : Nat} {p : List Nat} {v : Int} (h : At B off p (.int .u64 v)) (hc : l.length ≤ 1000000000) : G41a [.bx (.st [.own 1]), .by l, B] [.ptr 0 0 [], .ptr 2 off p] = wNew B l (le 8 v) := by
 simp only [G41a, h.get]
 exact if_pos ⟨h, hc⟩
noncomputable def G42a : GFun
 | [.bx (.st [.own 1]), .by l, B], [.ptr 0 0 [], .ptr 2 off p] => match Blk.get B p with
   | some (.t (.by x)) => @ite _ ((At B off p (.by x) ∧ l.length + x.length ≤ 549755800000)) (Classical.propDecidable _) ((wNew B l (sizeB (x.length : Nat) ++ x))) none
   | _ => none
 | _, _ => none
theorem ct42a : CT [(68, ⟨[false, false], treeG F68⟩)] [0, 1] [(0, [⟨0, [0], [], []⟩, ⟨0, [0], [], []⟩, ⟨0, [5], [], []⟩, ⟨0, [6], [], []⟩, ⟨1, [7], [], []⟩, ⟨0, [1], [], []⟩, ⟨0, [9], [], []⟩, ⟨1, [10], [], []⟩, ⟨1, [8, 11], [4, 7], []⟩, ⟨0, [4], [4, 7, 8], []⟩, ⟨0, [13], [4, 7, 8], []⟩, ⟨2, [12, 14], [4, 7, 8], []⟩])] := ⟨(.cons c68.g (.nil _))⟩
set_option maxHeartbeats 1000000 in
theorem g42a : GCon Try.prog 42 G42a := by
 refine gconc E_ok (rs := []) Try.func42 rfl Try.ntmps42 (by kernel_rfl) rfl (by decide) G42a (np := 2) ?_ ?_
 · intro HB xs h; unfold G42a; split <;> first | rfl | (simp at h; done)
 intro HB xs H r hG hwf hex
 unfold G42a at hG
 split at hG <;> try (cases hG; done)
 
 rename_i l B off p
 split at hG <;> try (cases hG; done)
 rename_i x hget
 split at hG
 case isFalse => cases hG
 rename_i hc
 cases hG
 clear hget
 obtain ⟨hat, hl⟩ := hc
 have p1 := putby_q l x hl
 cases hat with
 | st h1 h2 h3 h4 =>
   subst h4
   repeat refine St (And.intro (And.intro @gentry.eq_1 <| @gentry.eq_2) <| And.intro p1 <| And.intro h1 <| And.intro h2 <| h3) ct42a ?_
   exact Fin (@List.append_assoc.{0}) [] [0, 1, 2, 3]
 | sq h1 h2 h3 h4 =>
   subst h4
   repeat refine St (And.intro (And.intro @gentry.eq_1 <| @gentry.eq_2) <| And.intro p1 <| And.intro h1 <| And.intro h2 <| h3) ct42a ?_
   exact Fin (@List.append_assoc.{0}) [] [0, 1, 2, 3]
 | bx =>
   repeat refine St (And.intro (And.intro @gentry.eq_1 <| @gentry.eq_2) <| p1) ct42a ?_
   exact Fin (@List.append_assoc.{0}) [] [0, 1, 2, 3]
theorem wtext_a {B : Blk} {l : List UInt8} {off : Nat} {p : List Nat} {x : List UInt8} (h : At B off p (.by x)) (hc : l.length + x.length ≤ 549755800000) : G42a [.bx (.st [.own 1]), .by l, B] [.ptr 0 0 [], .ptr 2 off p] = wNew B l (sizeB (x.length : Nat) ++ x) := by
 simp only [G42a, h.get]
 exact if_pos ⟨h, hc⟩
noncomputable def G43a : GFun
 | [.bx (.st [.own 1]), .by l, B], [.ptr 0 0 [], .ptr 2 off p] => match Blk.get B p with
   | some (.t x) => (match inv wT x with
     | some w => @ite _ ((At B off p (wT w) ∧ l.length ≤ 1000000000)) (Classical.propDecidable _) ((wOld B l (wB w).1)) none
     | none => none)
   | _ => none
 | _, _ => none
theorem ct43a : CT [(69, ⟨[false], treeG F69⟩)] [0, 1, 4] [(1, [⟨0, [0], [], []⟩, ⟨0, [0], [], []⟩, ⟨0, [10], [], []⟩, ⟨0, [11], [], []⟩, ⟨1, [12], [], []⟩, ⟨1, [4], [], []⟩, ⟨2, [13, 14], [4, 5], []⟩, ⟨0, [9], [4, 5, 6], []⟩, ⟨0, [16], [4, 5, 6], []⟩, ⟨2, [15, 17], [4, 5, 6], []⟩])] := ⟨(.cons c69.g (.nil _))⟩
set_option maxHeartbeats 1000000 in
theorem g43a : GCon Try.prog 43 G43a := by
 refine gconc E_ok (rs := []) Try.func43 rfl Try.ntmps43 (by kernel_rfl) rfl (by decide) G43a (np := 2) ?_ ?_
 · intro HB xs h; unfold G43a; split <;> first | rfl | (simp at h; done)
 intro HB xs H r hG hwf hex
 unfold G43a at hG
 split at hG <;> try (cases hG; done)
 
 rename_i l B off p
 split at hG <;> try (cases hG; done)
 rename_i x hget
 split at hG <;> try (cases hG; done)
 rename_i w hw
 split at hG
 case isFalse => cases hG
 rename_i hc
 cases hG
 clear hget
 obtain ⟨hat, hl⟩ := hc
 obtain rfl := inv_inv hw
 have hb := wbytes_c w
 have hn := (wB w).2
 generalize (wB w).1 = n at *
 have hnt : n.take 32 = n := List.take_of_length_le (by omega)
 rw [wT_st] at hat hb
 cases hat with
 | st h1 h2 h3 h4 =>
   subst h4
   repeat refine St (And.intro (And.intro @gentry.eq_1 <| @gentry.eq_2) <| And.intro hb <| And.intro hn <| And.intro hnt <| And.intro hl <| And.intro h1 <| And.intro h2 <| h3) ct43a ?_
   exact Fin trivial [] [0, 1, 2, 4]
 | sq h1 h2 h3 h4 =>
   subst h4
   repeat refine St (And.intro (And.intro @gentry.eq_1 <| @gentry.eq_2) <| And.intro hb <| And.intro hn <| And.intro hnt <| And.intro hl <| And.intro h1 <| And.intro h2 <| h3) ct43a ?_
   exact Fin trivial [] [0, 1, 2, 4]
 | bx =>
   repeat refine St (And.intro (And.intro @gentry.eq_1 <| @gentry.eq_2) <| And.intro hb <| And.intro hn <| And.intro hnt <| hl) ct43a ?_
   exact Fin trivial [] [0, 1, 2, 4]
theorem wwork_a {B : Blk} {l : List UInt8} {off : Nat} {p : List Nat} {w : W4} (h : At B off p (wT w)) (hc : l.length ≤ 1000000000) : G43a [.bx (.st [.own 1]), .by l, B] [.ptr 0 0 [], .ptr 2 off p] = wOld B l (wB w).1 := by
 simp only [G43a, h.get, inv_of wT_injx]
 exact if_pos ⟨h, hc⟩
noncomputable def G44a : GFun
 | [.bx (.st [.own 1]), .by l, B], [.ptr 0 0 [], .ptr 2 off p] => match Blk.get B p with
   | some (.t (.bool v)) => @ite _ ((At B off p (.bool v) ∧ l.length ≤ 1000000000)) (Classical.propDecidable _) ((wOld B l (flagB v))) none
   | _ => none
 | _, _ => none
theorem ct44a : CT [] [0, 1, 4, 7] [] := ⟨GClOk.nil _⟩
set_option maxHeartbeats 1000000 in
theorem g44a : GCon Try.prog 44 G44a := by
 refine gconc E_ok (rs := []) Try.func44 rfl Try.ntmps44 (by kernel_rfl) rfl (by decide) G44a (np := 2) ?_ ?_
 · intro HB xs h; unfold G44a; split <;> first | rfl | (simp at h; done)
 intro HB xs H r hG hwf hex
 unfold G44a at hG
 split at hG <;> try (cases hG; done)
 
 rename_i l B off p
 split at hG <;> try (cases hG; done)
 rename_i v hget
 split at hG
 case isFalse => cases hG
 rename_i hc
 cases hG
 clear hget
 obtain ⟨hat, hl⟩ := hc
 have e0 : flagB false = [UInt8.ofNat 0] := rfl
 have e1 : flagB true = [UInt8.ofNat 1] := rfl
 cases v with
 | false =>
   rw [e0]
   cases hat with
   | st h1 h2 h3 h4 =>
     subst h4
     repeat refine St (And.intro (And.intro @gentry.eq_1 <| @gentry.eq_2) <| And.intro hl <| And.intro h1 <| And.intro h2 <| h3) ct44a ?_
     exact Fin trivial [] [0, 1, 2, 4]
   | sq h1 h2 h3 h4 =>
     subst h4
     repeat refine St (And.intro (And.intro @gentry.eq_1 <| @gentry.eq_2) <| And.intro hl <| And.intro h1 <| And.intro h2 <| h3) ct44a ?_
     exact Fin trivial [] [0, 1, 2, 4]
   | bx =>
     repeat refine St (And.intro (And.intro @gentry.eq_1 <| @gentry.eq_2) <| hl) ct44a ?_
     exact Fin trivial [] [0, 1, 2, 4]
 | true =>
   rw [e1]
   cases hat with
   | st h1 h2 h3 h4 =>
     subst h4
     repeat refine St (And.intro (And.intro @gentry.eq_1 <| @gentry.eq_2) <| And.intro hl <| And.intro h1 <| And.intro h2 <| h3) ct44a ?_
     exact Fin trivial [] [0, 1, 2, 4]
   | sq h1 h2 h3 h4 =>
     subst h4
     repeat refine St (And.intro (And.intro @gentry.eq_1 <| @gentry.eq_2) <| And.intro hl <| And.intro h1 <| And.intro h2 <| h3) ct44a ?_
     exact Fin trivial [] [0, 1, 2, 4]
   | bx =>
     repeat refine St (And.intro (And.intro @gentry.eq_1 <| @gentry.eq_2) <| hl) ct44a ?_
     exact Fin trivial [] [0, 1, 2, 4]
theorem wflag_a {B : Blk} {l : List UInt8} {off : Nat} {p : List Nat} {v : Bool} (h : At B off p (.bool v)) (hc : l.length ≤ 1000000000) : G44a [.bx (.st [.own 1]), .by l, B] [.ptr 0 0 [], .ptr 2 off p] = wOld B l (flagB v) := by
 simp only [G44a, h.get]
 exact if_pos ⟨h, hc⟩
noncomputable def G45a : GFun
 | [.bx (.st [.own 1]), .by l, B], [.ptr 0 0 [], .ptr 2 off p] => match Blk.get B p with
   | some (.t (.int .i64 v)) => @ite _ ((At B off p (.int .i64 v) ∧ l.length ≤ 1000000000)) (Classical.propDecidable _) ((wNew B l (i4 v))) none
   | _ => none
 | _, _ => none
theorem ct45a : CT [(40, ⟨[true, true], G40a⟩)] [0, 1, 4] [] := ⟨(.cons g40a (.nil _))⟩
set_option maxHeartbeats 1000000 in
theorem g45a : GCon Try.prog 45 G45a := by
 refine gconc E_ok (rs := []) Try.func45 rfl Try.ntmps45 (by kernel_rfl) rfl (by decide) G45a (np := 2) ?_ ?_
 · intro HB xs h; unfold G45a; split <;> first | rfl | (simp at h; done)
 intro HB xs H r hG hwf hex
 unfold G45a at hG
 split at hG <;> try (cases hG; done)
 
 rename_i l B off p
 split at hG <;> try (cases hG; done)
 rename_i v hget
 split at hG
 case isFalse => cases hG
 rename_i hc
 cases hG
 clear hget
 obtain ⟨hat, hl⟩ := hc
 have h5 := wshort_a (l := l) (At.bx (x := .int .u32 (IntKind.u32.wrap v))) hl
 simp only [wNew] at h5
 have h6 : le 4 (IntKind.u32.wrap v) = i4 v := rfl
 rw [h6] at h5
 cases hat with
 | st h1 h2 h3 h4 =>
   subst h4
   repeat refine St (And.intro (And.intro @gentry.eq_1 <| @gentry.eq_2) <| And.intro h5 <| And.intro hl <| And.intro h1 <| And.intro h2 <| h3) ct45a ?_
   exact Fin trivial [] [0, 1, 2, 4]
 | sq h1 h2 h3 h4 =>
   subst h4
   repeat refine St (And.intro (And.intro @gentry.eq_1 <| @gentry.eq_2) <| And.intro h5 <| And.intro hl <| And.intro h1 <| And.intro h2 <| h3) ct45a ?_
   exact Fin trivial [] [0, 1, 2, 4]
 | bx =>
   repeat refine St (And.intro (And.intro @gentry.eq_1 <| @gentry.eq_2) <| And.intro h5 <| hl) ct45a ?_
   exact Fin trivial [] [0, 1, 2, 4]
theorem wnumber_a {B : Blk} {l : List UInt8} {off : Nat} {p : List Nat} {v : Int} (h : At B off p (.int .i64 v)) (hc : l.length ≤ 1000000000) : G45a [.bx (.st [.own 1]), .by l, B] [.ptr 0 0 [], .ptr 2 off p] = wNew B l (i4 v) := by
 simp only [G45a, h.get]
 exact if_pos ⟨h, hc⟩
def G46a : GFun
 | [.bx (.st [.own 1]), .by l], [.ptr 0 0 [], .t (.int .i64 n), .t (.int .i64 m)] =>
   if 0 ≤ n ∧ l.length ≤ 1000000000 then some ([.bx (.st [.own 2]), .by l, .by (l ++ sizeB n)], .t (.int .i64 n)) else none
 | _, _ => none
theorem ct46a : CT [(70, ⟨[false, false], treeG F70⟩)] [0, 1, 6] [] := ⟨(.cons c70.g (.nil _))⟩
set_option maxHeartbeats 1000000 in
theorem g46a : GCon Try.prog 46 G46a := by
 refine gconc E_ok (rs := [.tmp 6 3]) Try.func46 rfl Try.ntmps46 (by kernel_rfl) rfl (by decide) G46a (np := 3) ?_ ?_
 · intro HB xs h; unfold G46a; split <;> first | rfl | (simp at h; done)
 intro HB xs H r hG hwf hex
 unfold G46a at hG
 split at hG <;> try (cases hG; done)
 
 rename_i l n m
 split at hG
 case isFalse => cases hG
 rename_i hc
 cases hG
 obtain ⟨h0, hl⟩ := hc
 have hi : inK .i64 n := by
   have := hwf (.t (.int .i64 n)) (by simp)
   simpa only [AV.wf, T.wf] using this
 have hi2 : n ≤ 9223372036854775807 := hi.2
 have hw : IntKind.u64.wrap n = n := wrap_u64 h0 (by omega)
 have h1 := putsize_c (b := l) n (by omega)
 repeat refine St (And.intro (And.intro @gentry.eq_1 <| @gentry.eq_2) <| And.intro hw <| h1) ct46a ?_
 exact AWP.ret (Fin trivial [] [0, 1, 2])
def sW (b : List UInt8) (w : Bool) : RSt := ⟨b, if w = true then 1 else 0⟩
theorem rX_sW (s : RSt) : rX (sW s.b (decide (s.e ≠ 0))) = rX s := by
 by_cases h : s.e = 0
 · simp [rX, sW, h]
 · simp [rX, sW, h]
theorem rX_was (b : List UInt8) : rX (sW b true) = .bx (.t (.st [.by b, .bool true])) := rfl
theorem rX_is (b : List UInt8) : rX (sW b false) = .bx (.t (.st [.by b, .bool false])) := rfl
def rRes {α : Type} (b : List UInt8) (w : Bool) (t : α × List UInt8 × Int) (B : Blk) (p : List Nat) (new : α → T) : Option (List Blk × AV) :=
 if w = true then some ([.bx (.t (.st [.by b, .bool true])), B], .tup [])
 else if t.2.2 = 0 then (match bset B p (new t.1) with
   | some B' => some ([.bx (.t (.st [.by t.2.1, .bool false])), B'], .tup [])
   | none => none)
 else some ([.bx (.t (.st [.by b, .bool true])), B], .tup [])
theorem rRes_was {α : Type} (b : List UInt8) (t : α × List UInt8 × Int) (B : Blk) (p : List Nat) (new : α → T) : rRes b true t B p new = some ([.bx (.t (.st [.by b, .bool true])), B], .tup []) := if_pos rfl
theorem rRes_bad {α : Type} (b : List UInt8) {t : α × List UInt8 × Int} (B : Blk) (p : List Nat) (new : α → T) (h : t.2.2 ≠ 0) : rRes b false t B p new = some ([.bx (.t (.st [.by b, .bool true])), B], .tup []) := (if_neg (by simp)).trans (if_neg h)
theorem rRes_ok {α : Type} (b : List UInt8) {t : α × List UInt8 × Int} (B : Blk) (p : List Nat) (new : α → T) (h : t.2.2 = 0) : rRes b false t B p new = (match bset B p (new t.1) with
   | some B' => some ([.bx (.t (.st [.by t.2.1, .bool false])), B'], .tup [])
   | none => none) := (if_neg (by simp)).trans (if_pos h)
theorem rRes_rd {α : Type} (t : List UInt8 → α × List UInt8 × Int) (d : α) (s : RSt) (B : Blk) (p : List Nat) (new : α → T) (Bf : α → Blk) (h0 : Bf d = B) (hB : ∀ x, bset B p (new x) = some (Bf x)) :
   rRes s.b (decide (s.e ≠ 0)) (t s.b) B p new = some ([rX (rd t d s).2, Bf (rd t d s).1], .tup []) := by
 obtain ⟨b, e⟩ := s
 dsimp only
 by_cases he : e = 0
 · subst he
   have hf : decide ((0 : Int) ≠ 0) = false := rfl
   rw [hf]
   by_cases ht : (t b).2.2 = 0
   · have h1 : rd t d ⟨b, 0⟩ = ((t b).1, ⟨(t b).2.1, 0⟩) := (if_neg (by simp)).trans (if_neg (by simpa using ht))
     rw [h1, rRes_ok b B p new ht, hB]; rfl
   · have h1 : rd t d ⟨b, 0⟩ = (d, ⟨b, (t b).2.2⟩) := (if_neg (by simp)).trans (if_pos ht)
     rw [h1, rRes_bad b B p new ht, h0]
     have h2 : decide ((t b).2.2 ≠ 0) = true := decide_eq_true ht
     show _ = some ([.bx (.t (.st [.by b, .bool (decide ((t b).2.2 ≠ 0))])), B], AV.tup [])
     rw [h2]
 · have h1 : rd t d ⟨b, e⟩ = (d, ⟨b, e⟩) := if_pos he
   have h2 : decide (e ≠ 0) = true := decide_eq_true he
   rw [h1, h2, rRes_was, h0]
   show _ = some ([.bx (.t (.st [.by b, .bool (decide (e ≠ 0))])), B], AV.tup [])
   rw [h2]
theorem take64_q (b : List UInt8) (h : b.length ≤ 549755800000) : F88 [.by b] = some ([], .tup [.t (.int .u64 ((t64 b).1.toNat : Int)), .t (.by (t64 b).2.1), .t (.int .i64 (t64 b).2.2)]) := by
 rw [take64_c (by omega)]
 show _ = some (_, AV.tup [.t (.int .u64 ((UInt64.ofNat (num (spA b 8))).toNat : Int)), _, _])
 rw [u64_num _ (spA_le b 8 8 (by omega))]; rfl
noncomputable def G72a : GFun
 | [.bx (.t (.st [.by b, .bool w])), B], [.ptr 0 0 [], .ptr 1 off p] => @ite _ ((b.length ≤ 549755800000 ∧ ∃ v : Int, At B off p (.int .u32 v))) (Classical.propDecidable _) ((rRes b w (t32 b) B p (fun m => .int .u32 (m.toNat : Int)))) none
 | _, _ => none
theorem ct72a : CT [(86, ⟨[true, false, false], G86⟩), (87, ⟨[false], treeG F87⟩)] [0, 1, 4, 5, 6, 19] [] := ⟨(.cons g86 (.cons c87.g (.nil _)))⟩
set_option maxHeartbeats 1000000 in
theorem g72a : GCon Try.prog 72 G72a := by
 refine gconc E_ok (rs := []) Try.func72 rfl Try.ntmps72 (by kernel_rfl) rfl (by decide) G72a (np := 2) ?_ ?_
 · intro HB xs h; unfold G72a; split <;> first | rfl | (simp at h; done)
 intro HB xs H r hG hwf hex
 unfold G72a at hG
 split at hG <;> try (cases hG; done)
 
 rename_i b w B off p
 split at hG
 case isFalse => cases hG
 rename_i hc
 obtain ⟨hb, v, hat⟩ := hc
 have h5 := take32_q b hb
 cases w with
 | true =>
   rw [rRes_was] at hG
   cases hG
   have h6 := took_was b (t32 b).2.1 (t32 b).2.2
   generalize t32 b = R at *
   repeat refine St (And.intro (And.intro @gentry.eq_1 <| @gentry.eq_2) <| And.intro h5 <| h6) ct72a ?_
   cases hat <;> exact Fin trivial [] [0, 1]
 | false =>
   by_cases he : (t32 b).2.2 = 0
   · rw [rRes_ok b B p _ he] at hG
     have h6 := took_ok b (t32 b).2.1
     rw [he] at h5
     generalize t32 b = R at *
     cases hB : bset B p ((fun m => .int .u32 (m.toNat : Int) : _ → T) R.1) with
     | none => rw [hB] at hG; cases hG
     | some B' =>
     rw [hB] at hG
     cases hG
     dsimp only at hB
     cases hat with
     | st h1 h2 h3 h4 =>
       subst h4
       simp only [bset, h1] at hB
       split at hB <;> try (cases hB; done)
       rename_i z hz
       cases hB
       repeat refine St (And.intro (And.intro @gentry.eq_1 <| @gentry.eq_2) <| And.intro h5 <| And.intro h6 <| And.intro h1 <| And.intro h2 <| And.intro h3 <| hz) ct72a ?_
       exact Fin trivial [] [0, 1]
     | sq h1 h2 h3 h4 =>
       subst h4
       simp only [bset] at hB
       split at hB <;> try (cases hB; done)
       rename_i z hz
       cases hB
       repeat refine St (And.intro (And.intro @gentry.eq_1 <| @gentry.eq_2) <| And.intro h5 <| And.intro h6 <| And.intro h1 <| And.intro h2 <| And.intro h3 <| hz) ct72a ?_
       exact Fin trivial [] [0, 1]
     | bx =>
       simp only [bset] at hB
       cases hB
       repeat refine St (And.intro (And.intro @gentry.eq_1 <| @gentry.eq_2) <| And.intro h5 <| h6) ct72a ?_
       exact Fin trivial [] [0, 1]
   · rw [rRes_bad b B p _ he] at hG
     cases hG
     have h6 := took_bad b (t32 b).2.1 false he
     generalize t32 b = R at *
     repeat refine St (And.intro (And.intro @gentry.eq_1 <| @gentry.eq_2) <| And.intro h5 <| h6) ct72a ?_
     cases hat <;> exact Fin trivial [] [0, 1]
theorem rshort_a {B : Blk} {b : List UInt8} {w : Bool} {off : Nat} {p : List Nat} {v : Int} (hb : b.length ≤ 549755800000) (h : At B off p (.int .u32 v)) : G72a [.bx (.t (.st [.by b, .bool w])), B] [.ptr 0 0 [], .ptr 1 off p] = rRes b w (t32 b) B p (fun m => .int .u32 (m.toNat : Int)) := if_pos ⟨hb, v, h⟩
noncomputable def G73a : GFun
 | [.bx (.t (.st [.by b, .bool w])), B], [.ptr 0 0 [], .ptr 1 off p] => @ite _ ((b.length ≤ 549755800000 ∧ ∃ v : Int, At B off p (.int .u64 v))) (Classical.propDecidable _) ((rRes b w (t64 b) B p (fun m => .int .u64 (m.toNat : Int)))) none
 | _, _ => none
theorem ct73a : CT [(86, ⟨[true, false, false], G86⟩), (88, ⟨[false], treeG F88⟩)] [0, 1, 4, 5, 6, 19] [] := ⟨(.cons g86 (.cons c88.g (.nil _)))⟩
set_option maxHeartbeats 1000000 in
theorem g73a : GCon Try.prog 73 G73a := by
 refine gconc E_ok (rs := []) Try.func73 rfl Try.ntmps73 (by kernel_rfl) rfl (by decide) G73a (np := 2) ?_ ?_
 · intro HB xs h; unfold G73a; split <;> first | rfl | (simp at h; done)
 intro HB xs H r hG hwf hex
 unfold G73a at hG
 split at hG <;> try (cases hG; done)
 
 rename_i b w B off p
 split at hG
 case isFalse => cases hG
 rename_i hc
 obtain ⟨hb, v, hat⟩ := hc
 have h5 := take64_q b hb
 cases w with
 | true =>
   rw [rRes_was] at hG
   cases hG
   have h6 := took_was b (t64 b).2.1 (t64 b).2.2
   generalize t64 b = R at *
   repeat refine St (And.intro (And.intro @gentry.eq_1 <| @gentry.eq_2) <| And.intro h5 <| h6) ct73a ?_
   cases hat <;> exact Fin trivial [] [0, 1]
 | false =>
   by_cases he : (t64 b).2.2 = 0
   · rw [rRes_ok b B p _ he] at hG
     have h6 := took_ok b (t64 b).2.1
     rw [he] at h5
     generalize t64 b = R at *
     cases hB : bset B p ((fun m => .int .u64 (m.toNat : Int) : _ → T) R.1) with
     | none => rw [hB] at hG; cases hG
     | some B' =>
     rw [hB] at hG
     cases hG
     dsimp only at hB
     cases hat with
     | st h1 h2 h3 h4 =>
       subst h4
       simp only [bset, h1] at hB
       split at hB <;> try (cases hB; done)
       rename_i z hz
       cases hB
       repeat refine St (And.intro (And.intro @gentry.eq_1 <| @gentry.eq_2) <| And.intro h5 <| And.intro h6 <| And.intro h1 <| And.intro h2 <| And.intro h3 <| hz) ct73a ?_
       exact Fin trivial [] [0, 1]
     | sq h1 h2 h3 h4 =>
       subst h4
       simp only [bset] at hB
       split at hB <;> try (cases hB; done)
       rename_i z hz
       cases hB
       repeat refine St (And.intro (And.intro @gentry.eq_1 <| @gentry.eq_2) <| And.intro h5 <| And.intro h6 <| And.intro h1 <| And.intro h2 <| And.intro h3 <| hz) ct73a ?_
       exact Fin trivial [] [0, 1]
     | bx =>
       simp only [bset] at hB
       cases hB
       repeat refine St (And.intro (And.intro @gentry.eq_1 <| @gentry.eq_2) <| And.intro h5 <| h6) ct73a ?_
       exact Fin trivial [] [0, 1]
   · rw [rRes_bad b B p _ he] at hG
     cases hG
     have h6 := took_bad b (t64 b).2.1 false he
     generalize t64 b = R at *
     repeat refine St (And.intro (And.intro @gentry.eq_1 <| @gentry.eq_2) <| And.intro h5 <| h6) ct73a ?_
     cases hat <;> exact Fin trivial [] [0, 1]
theorem rlong_a {B : Blk} {b : List UInt8} {w : Bool} {off : Nat} {p : List Nat} {v : Int} (hb : b.length ≤ 549755800000) (h : At B off p (.int .u64 v)) : G73a [.bx (.t (.st [.by b, .bool w])), B] [.ptr 0 0 [], .ptr 1 off p] = rRes b w (t64 b) B p (fun m => .int .u64 (m.toNat : Int)) := if_pos ⟨hb, v, h⟩
noncomputable def G74a : GFun
 | [.bx (.t (.st [.by b, .bool w])), B], [.ptr 0 0 [], .ptr 1 off p] => @ite _ ((b.length ≤ 549755800000 ∧ ∃ v : List UInt8, At B off p (.by v))) (Classical.propDecidable _) ((rRes b w (tBts b) B p (fun m => .by m))) none
 | _, _ => none
theorem ct74a : CT [(86, ⟨[true, false, false], G86⟩), (89, ⟨[false, false], treeG F89⟩)] [0, 1, 4, 5, 6, 19] [] := ⟨(.cons g86 (.cons c89.g (.nil _)))⟩
set_option maxHeartbeats 1000000 in
theorem g74a : GCon Try.prog 74 G74a := by
 refine gconc E_ok (rs := []) Try.func74 rfl Try.ntmps74 (by kernel_rfl) rfl (by decide) G74a (np := 2) ?_ ?_
 · intro HB xs h; unfold G74a; split <;> first | rfl | (simp at h; done)
 intro HB xs H r hG hwf hex
 unfold G74a at hG
 split at hG <;> try (cases hG; done)
 
 rename_i b w B off p
 split at hG
 case isFalse => cases hG
 rename_i hc
 obtain ⟨hb, v, hat⟩ := hc
 have h5 := takeb_q b hb
 cases w with
 | true =>
   rw [rRes_was] at hG
   cases hG
   have h6 := took_was b (tBts b).2.1 (tBts b).2.2
   generalize tBts b = R at *
   repeat refine St (And.intro (And.intro @gentry.eq_1 <| @gentry.eq_2) <| And.intro h5 <| h6) ct74a ?_
   cases hat <;> exact Fin trivial [] [0, 1]
 | false =>
   by_cases he : (tBts b).2.2 = 0
   · rw [rRes_ok b B p _ he] at hG
     have h6 := took_ok b (tBts b).2.1
     rw [he] at h5
     generalize tBts b = R at *
     cases hB : bset B p ((fun m => .by m : _ → T) R.1) with
     | none => rw [hB] at hG; cases hG
     | some B' =>
     rw [hB] at hG
     cases hG
     dsimp only at hB
     cases hat with
     | st h1 h2 h3 h4 =>
       subst h4
       simp only [bset, h1] at hB
       split at hB <;> try (cases hB; done)
       rename_i z hz
       cases hB
       repeat refine St (And.intro (And.intro @gentry.eq_1 <| @gentry.eq_2) <| And.intro h5 <| And.intro h6 <| And.intro h1 <| And.intro h2 <| And.intro h3 <| hz) ct74a ?_
       exact Fin trivial [] [0, 1]
     | sq h1 h2 h3 h4 =>
       subst h4
       simp only [bset] at hB
       split at hB <;> try (cases hB; done)
       rename_i z hz
       cases hB
       repeat refine St (And.intro (And.intro @gentry.eq_1 <| @gentry.eq_2) <| And.intro h5 <| And.intro h6 <| And.intro h1 <| And.intro h2 <| And.intro h3 <| hz) ct74a ?_
       exact Fin trivial [] [0, 1]
     | bx =>
       simp only [bset] at hB
       cases hB
       repeat refine St (And.intro (And.intro @gentry.eq_1 <| @gentry.eq_2) <| And.intro h5 <| h6) ct74a ?_
       exact Fin trivial [] [0, 1]
   · rw [rRes_bad b B p _ he] at hG
     cases hG
     have h6 := took_bad b (tBts b).2.1 false he
     generalize tBts b = R at *
     repeat refine St (And.intro (And.intro @gentry.eq_1 <| @gentry.eq_2) <| And.intro h5 <| h6) ct74a ?_
     cases hat <;> exact Fin trivial [] [0, 1]
theorem rtext_a {B : Blk} {b : List UInt8} {w : Bool} {off : Nat} {p : List Nat} {v : List UInt8} (hb : b.length ≤ 549755800000) (h : At B off p (.by v)) : G74a [.bx (.t (.st [.by b, .bool w])), B] [.ptr 0 0 [], .ptr 1 off p] = rRes b w (tBts b) B p (fun m => .by m) := if_pos ⟨hb, v, h⟩
noncomputable def G71a : GFun
 | [.bx (.t (.st [.by b, .bool w])), B], [.ptr 0 0 [], .ptr 1 off p] => @ite _ ((b.length ≤ 549755800000 ∧ ∃ v : H32, At B off p (.ba 32 v.1))) (Classical.propDecidable _) ((rRes b w (tH b) B p (fun m => .ba 32 m.1))) none
 | _, _ => none
theorem ct71a : CT [(85, ⟨[false, false], treeG F85⟩), (86, ⟨[true, false, false], G86⟩)] [0, 1, 4, 5, 6, 19] [] := ⟨(.cons c85.g (.cons g86 (.nil _)))⟩
set_option maxHeartbeats 1000000 in
theorem g71a : GCon Try.prog 71 G71a := by
 refine gconc E_ok (rs := []) Try.func71 rfl Try.ntmps71 (by kernel_rfl) rfl (by decide) G71a (np := 2) ?_ ?_
 · intro HB xs h; unfold G71a; split <;> first | rfl | (simp at h; done)
 intro HB xs H r hG hwf hex
 unfold G71a at hG
 split at hG <;> try (cases hG; done)
 
 rename_i b w B off p
 split at hG
 case isFalse => cases hG
 rename_i hc
 obtain ⟨hb, v, hat⟩ := hc
 have hv := v.2
 have h5 := takeH_q b hb
 cases w with
 | true =>
   rw [rRes_was] at hG
   cases hG
   have h6 := took_was b (spB b 32) (spE b 32)
   generalize spA b 32 = A at *
   generalize spB b 32 = D at *
   generalize spE b 32 = e at *
   repeat refine St (And.intro (And.intro @gentry.eq_1 <| @gentry.eq_2) <| And.intro h5 <| h6) ct71a ?_
   cases hat <;> exact Fin trivial [] [0, 1]
 | false =>
   by_cases he : spE b 32 = 0
   · rw [rRes_ok b B p _ (show (tH b).2.2 = 0 from he)] at hG
     obtain ⟨k1, k2, k3⟩ := sp_ok he
     have k4 : (spA b 32).length = 32 := by omega
     have k5 : (tH b).1.1 = spA b 32 := hOf_val k4
     have k6 : (tH b).2.1 = spB b 32 := rfl
     have h6 := took_ok b (spB b 32)
     rw [k5, k6] at hG
     rw [he] at h5
     have k7 : (spA b 32).take 32 = spA b 32 := List.take_of_length_le (by omega)
     generalize spA b 32 = A at *
     generalize spB b 32 = D at *
     cases hB : bset B p (.ba 32 A) with
     | none => rw [hB] at hG; cases hG
     | some B' =>
     rw [hB] at hG
     cases hG
     cases hat with
     | st h1 h2 h3 h4 =>
       subst h4
       simp only [bset, h1] at hB
       split at hB <;> try (cases hB; done)
       rename_i z hz
       cases hB
       repeat refine St (And.intro (And.intro @gentry.eq_1 <| @gentry.eq_2) <| And.intro h5 <| And.intro h6 <| And.intro k4 <| And.intro k7 <| And.intro hv <| And.intro h1 <| And.intro h2 <| And.intro h3 <| hz) ct71a ?_
       exact Fin trivial [] [0, 1]
     | sq h1 h2 h3 h4 =>
       subst h4
       simp only [bset] at hB
       split at hB <;> try (cases hB; done)
       rename_i z hz
       cases hB
       repeat refine St (And.intro (And.intro @gentry.eq_1 <| @gentry.eq_2) <| And.intro h5 <| And.intro h6 <| And.intro k4 <| And.intro k7 <| And.intro hv <| And.intro h1 <| And.intro h2 <| And.intro h3 <| hz) ct71a ?_
       exact Fin trivial [] [0, 1]
     | bx =>
       simp only [bset] at hB
       cases hB
       repeat refine St (And.intro (And.intro @gentry.eq_1 <| @gentry.eq_2) <| And.intro h5 <| And.intro h6 <| And.intro k4 <| And.intro k7 <| hv) ct71a ?_
       exact Fin trivial [] [0, 1]
   · rw [rRes_bad b B p _ (show (tH b).2.2 ≠ 0 from he)] at hG
     cases hG
     have h6 := took_bad b (spB b 32) false he
     generalize spA b 32 = A at *
     generalize spB b 32 = D at *
     generalize spE b 32 = e at *
     repeat refine St (And.intro (And.intro @gentry.eq_1 <| @gentry.eq_2) <| And.intro h5 <| h6) ct71a ?_
     cases hat <;> exact Fin trivial [] [0, 1]
theorem rname_a {B : Blk} {b : List UInt8} {w : Bool} {off : Nat} {p : List Nat} {v : H32} (hb : b.length ≤ 549755800000) (h : At B off p (.ba 32 v.1)) : G71a [.bx (.t (.st [.by b, .bool w])), B] [.ptr 0 0 [], .ptr 1 off p] = rRes b w (tH b) B p (fun m => .ba 32 m.1) := if_pos ⟨hb, v, h⟩
noncomputable def G76a : GFun
 | [.bx (.t (.st [.by b, .bool w])), B], [.ptr 0 0 [], .ptr 1 off p] => @ite _ ((b.length ≤ 549755800000 ∧ ∃ v : Bool, At B off p (.bool v))) (Classical.propDecidable _) ((rRes b w (tFl b) B p .bool)) none
 | _, _ => none
theorem ct76a : CT [(85, ⟨[false, false], treeG F85⟩), (86, ⟨[true, false, false], G86⟩)] [0, 1, 4, 5, 6, 23, 27] [] := ⟨(.cons c85.g (.cons g86 (.nil _)))⟩
theorem take1_q (b : List UInt8) (h : b.length ≤ 549755800000) : F85 [.by b, .int .i64 1] = some ([.by (spA b 1)], .tup [.own 0, .t (.by (spB b 1)), .t (.int .i64 (spE b 1))]) := if_pos (by omega)
set_option maxHeartbeats 1000000 in
theorem g76a : GCon Try.prog 76 G76a := by
 refine gconc E_ok (rs := []) Try.func76 rfl Try.ntmps76 (by kernel_rfl) rfl (by decide) G76a (np := 2) ?_ ?_
 · intro HB xs h; unfold G76a; split <;> first | rfl | (simp at h; done)
 intro HB xs H r hG hwf hex
 unfold G76a at hG
 split at hG <;> try (cases hG; done)
 
 rename_i b w B off p
 split at hG
 case isFalse => cases hG
 rename_i hc
 obtain ⟨hb, v, hat⟩ := hc
 have h5 := take1_q b hb
 have t1 : (t8 b).2.1 = spB b 1 := rfl
 have t2 : (t8 b).2.2 = spE b 1 := rfl
 by_cases he : spE b 1 = 0
 case neg =>
   have hf : (tFl b).2.2 = spE b 1 := by unfold tFl; rw [if_neg (by rw [t2]; rintro ⟨h, _⟩; exact he h)]; exact t2
   have hr : rRes b w (tFl b) B p .bool = some ([.bx (.t (.st [.by b, .bool true])), B], .tup []) := by
     cases w with
     | true => exact rRes_was ..
     | false => exact rRes_bad b B p _ (by rw [hf]; exact he)
   rw [hr] at hG
   cases hG
   have h6 := took_bad b (spB b 1) w he
   generalize spA b 1 = A at *
   generalize spB b 1 = D at *
   generalize spE b 1 = e at *
   have hee : (e == 0) = false := by simpa using he
   repeat refine St (And.intro (And.intro @gentry.eq_1 <| @gentry.eq_2) <| And.intro h5 <| And.intro h6 <| hee) ct76a ?_
   cases hat <;> exact Fin trivial [] [0, 1]
 obtain ⟨k1, k2, k3⟩ := sp_ok he
 have k4 : (spA b 1).length = 1 := by omega
 obtain ⟨c, hA⟩ : ∃ c, spA b 1 = [c] := by
   match spA b 1, k4 with
   | [c], _ => exact ⟨c, rfl⟩
 have hc8 : (t8 b).1 = c := by
   show UInt8.ofNat (num (spA b 1)) = c
   rw [hA]; simp [num]
 rw [he] at h5
 rw [hA] at h5
 have hcl := c.toNat_lt
 by_cases h1 : 1 < (c.toNat : Int)
 · have hf : (tFl b) = (false, (t8 b).2.1, 3) := if_pos ⟨by rw [t2]; exact he, by rw [hc8]; omega⟩
   have hr : rRes b w (tFl b) B p .bool = some ([.bx (.t (.st [.by b, .bool true])), B], .tup []) := by
     rw [hf]
     cases w with
     | true => exact rRes_was ..
     | false => exact rRes_bad b B p _ (show (3 : Int) ≠ 0 by decide)
   rw [hr] at hG
   cases hG
   have h6 := took_bad b (spB b 1) w (e := 3) (by decide)
   generalize spB b 1 = D at *
   repeat refine St (And.intro (And.intro @gentry.eq_1 <| @gentry.eq_2) <| And.intro h5 <| And.intro h6 <| h1) ct76a ?_
   cases hat <;> exact Fin trivial [] [0, 1]
 · have hf : (tFl b) = (decide (c = 1), spB b 1, 0) := by
     unfold tFl
     rw [if_neg (by rw [hc8]; rintro ⟨_, h⟩; omega), hc8, t1, t2, he]
   rw [hf] at hG
   cases w with
   | true =>
     rw [rRes_was] at hG
     cases hG
     have h6 := took_was b (spB b 1) 0
     generalize spB b 1 = D at *
     repeat refine St (And.intro (And.intro @gentry.eq_1 <| @gentry.eq_2) <| And.intro h5 <| And.intro h6 <| h1) ct76a ?_
     cases hat <;> exact Fin trivial [] [0, 1]
   | false =>
     rw [rRes_ok b B p _ rfl] at hG
     have h6 := took_ok b (spB b 1)
     generalize spB b 1 = D at *
     dsimp only at hG
     have hcv : ((c.toNat : Int) == 1) = decide (c = 1) := by
       by_cases hh : c = 1
       · subst hh; rfl
       · rw [decide_eq_false hh, beq_eq_false_iff_ne]; intro h; exact hh (UInt8.toNat_inj.1 (by show c.toNat = 1; omega))
     generalize decide (c = 1) = V at *
     cases hB : bset B p (.bool V) with
     | none => rw [hB] at hG; cases hG
     | some B' =>
     rw [hB] at hG
     cases hG
     have hle : ¬ 1 < (c.toNat : Int) := h1
     clear h1
     cases hat with
     | st h1 h2 h3 h4 =>
       subst h4
       simp only [bset, h1] at hB
       split at hB <;> try (cases hB; done)
       rename_i z hz
       cases hB
       repeat refine St (And.intro (And.intro @gentry.eq_1 <| @gentry.eq_2) <| And.intro h5 <| And.intro h6 <| And.intro hcv <| And.intro hle <| And.intro h1 <| And.intro h2 <| And.intro h3 <| hz) ct76a ?_
       exact Fin trivial [] [0, 1]
     | sq h1 h2 h3 h4 =>
       subst h4
       simp only [bset] at hB
       split at hB <;> try (cases hB; done)
       rename_i z hz
       cases hB
       repeat refine St (And.intro (And.intro @gentry.eq_1 <| @gentry.eq_2) <| And.intro h5 <| And.intro h6 <| And.intro hcv <| And.intro hle <| And.intro h1 <| And.intro h2 <| And.intro h3 <| hz) ct76a ?_
       exact Fin trivial [] [0, 1]
     | bx =>
       simp only [bset] at hB
       cases hB
       repeat refine St (And.intro (And.intro @gentry.eq_1 <| @gentry.eq_2) <| And.intro h5 <| And.intro h6 <| And.intro hcv <| hle) ct76a ?_
       exact Fin trivial [] [0, 1]
theorem rflag_a {B : Blk} {b : List UInt8} {w : Bool} {off : Nat} {p : List Nat} {v : Bool} (hb : b.length ≤ 549755800000) (h : At B off p (.bool v)) : G76a [.bx (.t (.st [.by b, .bool w])), B] [.ptr 0 0 [], .ptr 1 off p] = rRes b w (tFl b) B p .bool := if_pos ⟨hb, v, h⟩
end Go.Fw

end

section
namespace Go.Fw
open Go Go.Proofs
theorem rd_sW {α : Type} (t : List UInt8 → α × List UInt8 × Int) (d : α) (s : RSt) : (rd t d (sW s.b (decide (s.e ≠ 0)))).1 = (rd t d s).1 ∧ rX (rd t d (sW s.b (decide (s.e ≠ 0)))).2 = rX (rd t d s).2 := by
 obtain ⟨b, e⟩ := s
 by_cases he : e = 0
 · subst he; exact ⟨rfl, rfl⟩
 · have h1 : rd t d ⟨b, e⟩ = (d, ⟨b, e⟩) := if_pos he
   have h2 : decide (e ≠ 0) = true := decide_eq_true he
   dsimp only
   rw [h1, h2]
   exact ⟨rfl, by show _ = Blk.bx (.t (.st [.by b, .bool (decide (e ≠ 0))])); rw [h2]; rfl⟩
theorem rdNum_sW (s : RSt) : (rdNum (sW s.b (decide (s.e ≠ 0)))).1 = (rdNum s).1 ∧ rX (rdNum (sW s.b (decide (s.e ≠ 0)))).2 = rX (rdNum s).2 := by
 obtain ⟨b, e⟩ := s
 by_cases he : e = 0
 · subst he; exact ⟨rfl, rfl⟩
 · have h1 : rd t32 0 ⟨b, e⟩ = (0, ⟨b, e⟩) := if_pos he
   have h2 : decide (e ≠ 0) = true := decide_eq_true he
   unfold rdNum
   dsimp only
   rw [h1, h2]
   exact ⟨rfl, by show _ = Blk.bx (.t (.st [.by b, .bool (decide (e ≠ 0))])); rw [h2]; rfl⟩
theorem rRes_box {α : Type} (t : List UInt8 → α × List UInt8 × Int) (d : α) (b : List UInt8) (w : Bool) (new : α → T) : rRes b w (t b) (.bx (.t (new d))) [] new = some ([rX (rd t d (sW b w)).2, .bx (.t (new (rd t d (sW b w)).1))], .tup []) := by
 have := rRes_rd t d (sW b w) (.bx (.t (new d))) [] new (fun x => .bx (.t (new x))) rfl (fun x => by simp [bset])
 have e1 : (sW b w).b = b := rfl
 have e2 : decide ((sW b w).e ≠ 0) = w := by cases w <;> rfl
 rw [e1, e2] at this
 exact this
theorem rX_st (s : RSt) : rX s = .bx (.t (.st [.by s.b, .bool (decide (s.e ≠ 0))])) := rfl
noncomputable def G77a : GFun
 | [.bx (.t (.st [.by b, .bool w])), B], [.ptr 0 0 [], .ptr 1 off p] => @ite _ ((b.length ≤ 549755800000 ∧ ∃ v : Int, At B off p (.int .i64 v))) (Classical.propDecidable _) ((match bset B p (.int .i64 (rdNum (sW b w)).1) with | some B' => some ([rX (rdNum (sW b w)).2, B'], .tup []) | none => none)) none
 | _, _ => none
theorem ct77a : CT [(72, ⟨[true, true], G72a⟩)] [0, 1, 4, 8] [] := ⟨(.cons g72a (.nil _))⟩
set_option maxHeartbeats 1000000 in
theorem g77a : GCon Try.prog 77 G77a := by
 refine gconc E_ok (rs := []) Try.func77 rfl Try.ntmps77 (by kernel_rfl) rfl (by decide) G77a (np := 2) ?_ ?_
 · intro HB xs h; unfold G77a; split <;> first | rfl | (simp at h; done)
 intro HB xs H r hG hwf hex
 unfold G77a at hG
 split at hG <;> try (cases hG; done)
 
 rename_i b w B off p
 split at hG
 case isFalse => cases hG
 rename_i hc
 obtain ⟨hb, v, hat⟩ := hc
 have h5 := rshort_a (w := w) hb (At.bx (x := .int .u32 (((0 : UInt32).toNat : Nat) : Int)))
 rw [rRes_box t32 0 b w (fun m => .int .u32 (m.toNat : Int))] at h5
 unfold rdNum at hG
 generalize rd t32 0 (sW b w) = R at *
 obtain ⟨x, s⟩ := R
 dsimp only at hG h5
 rw [rX_st] at h5
 have z32 : (((0 : UInt32).toNat : Nat) : Int) = 0 := rfl
 rw [z32] at h5
 have hx := x.toNat_lt
 have hw : IntKind.i64.wrap (x.toNat : Int) = (x.toNat : Int) := wrap_i64 (by omega) (by omega)
 cases hB : bset B p (.int .i64 (x.toNat : Int)) with
 | none => rw [hB] at hG; cases hG
 | some B' =>
 rw [hB] at hG
 by_cases hl : 2147483647 < x.toNat
 · rw [if_pos hl] at hG
   cases hG
   have hl2 : (2147483647 : Int) < (x.toNat : Int) := by omega
   have hres : rX ⟨s.b, 3⟩ = .bx (.t (.st [.by s.b, .bool true])) := rfl
   rw [hres]
   cases hat with
   | st h1 h2 h3 h4 =>
     subst h4
     simp only [bset, h1] at hB
     split at hB <;> try (cases hB; done)
     rename_i z hz
     cases hB
     repeat refine St (And.intro (And.intro @gentry.eq_1 <| @gentry.eq_2) <| And.intro h5 <| And.intro hl2 <| And.intro hw <| And.intro h1 <| And.intro h2 <| And.intro h3 <| hz) ct77a ?_
     exact Fin trivial [] [0, 1]
   | sq h1 h2 h3 h4 =>
     subst h4
     simp only [bset] at hB
     split at hB <;> try (cases hB; done)
     rename_i z hz
     cases hB
     repeat refine St (And.intro (And.intro @gentry.eq_1 <| @gentry.eq_2) <| And.intro h5 <| And.intro hl2 <| And.intro hw <| And.intro h1 <| And.intro h2 <| And.intro h3 <| hz) ct77a ?_
     exact Fin trivial [] [0, 1]
   | bx =>
     simp only [bset] at hB
     cases hB
     repeat refine St (And.intro (And.intro @gentry.eq_1 <| @gentry.eq_2) <| And.intro h5 <| And.intro hl2 <| hw) ct77a ?_
     exact Fin trivial [] [0, 1]
 · rw [if_neg hl] at hG
   cases hG
   have hl2 : ¬ (2147483647 : Int) < (x.toNat : Int) := by omega
   rw [rX_st]
   generalize decide (s.e ≠ 0) = V at *
   cases hat with
   | st h1 h2 h3 h4 =>
     subst h4
     simp only [bset, h1] at hB
     split at hB <;> try (cases hB; done)
     rename_i z hz
     cases hB
     repeat refine St (And.intro (And.intro @gentry.eq_1 <| @gentry.eq_2) <| And.intro h5 <| And.intro hl2 <| And.intro hw <| And.intro h1 <| And.intro h2 <| And.intro h3 <| hz) ct77a ?_
     exact Fin trivial [] [0, 1]
   | sq h1 h2 h3 h4 =>
     subst h4
     simp only [bset] at hB
     split at hB <;> try (cases hB; done)
     rename_i z hz
     cases hB
     repeat refine St (And.intro (And.intro @gentry.eq_1 <| @gentry.eq_2) <| And.intro h5 <| And.intro hl2 <| And.intro hw <| And.intro h1 <| And.intro h2 <| And.intro h3 <| hz) ct77a ?_
     exact Fin trivial [] [0, 1]
   | bx =>
     simp only [bset] at hB
     cases hB
     repeat refine St (And.intro (And.intro @gentry.eq_1 <| @gentry.eq_2) <| And.intro h5 <| And.intro hl2 <| hw) ct77a ?_
     exact Fin trivial [] [0, 1]
theorem rnumber_a {B : Blk} {b : List UInt8} {w : Bool} {off : Nat} {p : List Nat} {v : Int} (hb : b.length ≤ 549755800000) (h : At B off p (.int .i64 v)) : G77a [.bx (.t (.st [.by b, .bool w])), B] [.ptr 0 0 [], .ptr 1 off p] = (match bset B p (.int .i64 (rdNum (sW b w)).1) with | some B' => some ([rX (rdNum (sW b w)).2, B'], .tup []) | none => none) := if_pos ⟨hb, v, h⟩
noncomputable def G75a : GFun
 | [.bx (.t (.st [.by b, .bool w])), B], [.ptr 0 0 [], .ptr 1 off p] => @ite _ ((b.length ≤ 549755800000 ∧ ∃ v : W4, At B off p (wT v))) (Classical.propDecidable _) ((match bset B p (wT (wR (rd tH zH (sW b w)).1)) with | some B' => some ([rX (rd tH zH (sW b w)).2, B'], .tup []) | none => none)) none
 | _, _ => none
theorem ct75a : CT [(71, ⟨[true, true], G71a⟩), (90, ⟨[false], treeG F90⟩)] [0, 1, 4] [] := ⟨(.cons g71a (.cons c90.g (.nil _)))⟩
set_option maxHeartbeats 1000000 in
theorem g75a : GCon Try.prog 75 G75a := by
 refine gconc E_ok (rs := []) Try.func75 rfl Try.ntmps75 (by kernel_rfl) rfl (by decide) G75a (np := 2) ?_ ?_
 · intro HB xs h; unfold G75a; split <;> first | rfl | (simp at h; done)
 intro HB xs H r hG hwf hex
 unfold G75a at hG
 split at hG <;> try (cases hG; done)
 
 rename_i b w B off p
 split at hG
 case isFalse => cases hG
 rename_i hc
 obtain ⟨hb, v, hat⟩ := hc
 have h5 := rname_a (w := w) (v := zH) hb (At.bx (x := .ba 32 zH.1))
 rw [rRes_box tH zH b w (fun m => .ba 32 m.1)] at h5
 generalize rd tH zH (sW b w) = R at *
 obtain ⟨x, s⟩ := R
 dsimp only at hG h5
 rw [rX_st] at h5
 have hz : zH.1 = zby 32 := rfl
 rw [hz] at h5
 have h6 := wread_c x
 have hx := x.2
 generalize wR x = y at *
 cases hB : bset B p (wT y) with
 | none => rw [hB] at hG; cases hG
 | some B' =>
 rw [hB] at hG
 cases hG
 rw [rX_st]
 generalize decide (s.e ≠ 0) = V at *
 rw [wT_st] at hat hB h6
 cases hat with
 | st h1 h2 h3 h4 =>
   subst h4
   simp only [bset, h1] at hB
   split at hB <;> try (cases hB; done)
   rename_i z hz
   cases hB
   repeat refine St (And.intro (And.intro @gentry.eq_1 <| @gentry.eq_2) <| And.intro h5 <| And.intro h6 <| And.intro hx <| And.intro h1 <| And.intro h2 <| And.intro h3 <| hz) ct75a ?_
   exact Fin trivial [] [0, 1]
 | sq h1 h2 h3 h4 =>
   subst h4
   simp only [bset] at hB
   split at hB <;> try (cases hB; done)
   rename_i z hz
   cases hB
   repeat refine St (And.intro (And.intro @gentry.eq_1 <| @gentry.eq_2) <| And.intro h5 <| And.intro h6 <| And.intro hx <| And.intro h1 <| And.intro h2 <| And.intro h3 <| hz) ct75a ?_
   exact Fin trivial [] [0, 1]
 | bx =>
   simp only [bset] at hB
   cases hB
   repeat refine St (And.intro (And.intro @gentry.eq_1 <| @gentry.eq_2) <| And.intro h5 <| And.intro h6 <| hx) ct75a ?_
   exact Fin trivial [] [0, 1]
theorem rwork_a {B : Blk} {b : List UInt8} {w : Bool} {off : Nat} {p : List Nat} {v : W4} (hb : b.length ≤ 549755800000) (h : At B off p (wT v)) : G75a [.bx (.t (.st [.by b, .bool w])), B] [.ptr 0 0 [], .ptr 1 off p] = (match bset B p (wT (wR (rd tH zH (sW b w)).1)) with | some B' => some ([rX (rd tH zH (sW b w)).2, B'], .tup []) | none => none) := if_pos ⟨hb, v, h⟩
noncomputable def G78a : GFun
 | [.bx (.t (.st [.by b, .bool w]))], [.ptr 0 0 [], .t (.int .i64 n), .t (.int .i64 m)] =>
   if b.length ≤ 549755800000 ∧ 0 ≤ m ∧ m ≤ 1000 then some ([rX (rd (tCnt m.toNat) 0 (sW b w)).2], .t (.int .i64 ((rd (tCnt m.toNat) 0 (sW b w)).1 : Nat))) else none
 | _, _ => none
theorem ct78a : CT [(86, ⟨[true, false, false], G86⟩), (91, ⟨[false], treeG F91⟩)] [0, 2, 6, 7, 8, 9, 26, 31] [] := ⟨(.cons g86 (.cons c91.g (.nil _)))⟩
set_option maxHeartbeats 1000000 in
theorem g78a : GCon Try.prog 78 G78a := by
 refine gconc E_ok (rs := [.tmp 6 3]) Try.func78 rfl Try.ntmps78 (by kernel_rfl) rfl (by decide) G78a (np := 3) ?_ ?_
 · intro HB xs h; unfold G78a; split <;> first | rfl | (simp at h; done)
 intro HB xs H r hG hwf hex
 unfold G78a at hG
 split at hG <;> try (cases hG; done)
 
 rename_i b w n m
 split at hG
 case isFalse => cases hG
 rename_i hc
 cases hG
 obtain ⟨hb, h0, h1⟩ := hc
 have h5 := takesize_c (b := b) (by omega)
 have hwm : IntKind.u64.wrap m = m := wrap_u64 (by omega) (by omega)
 have hbnd : tCnt m.toNat b = bnd b m := by unfold tCnt; rw [Int.toNat_of_nonneg h0]
 by_cases he : (sz b).2.2 = 0
 case neg =>
   have hbe : (bnd b m).2.2 ≠ 0 := by unfold bnd; rw [if_pos he]; exact he
   have hrd : rX (rd (tCnt m.toNat) 0 (sW b w)).2 = .bx (.t (.st [.by b, .bool true])) ∧ (rd (tCnt m.toNat) 0 (sW b w)).1 = 0 := by
     cases w with
     | true => exact ⟨rfl, rfl⟩
     | false =>
       have : rd (tCnt m.toNat) 0 (sW b false) = (0, ⟨b, (tCnt m.toNat b).2.2⟩) := (if_neg (by simp [sW])).trans (if_pos (by show (tCnt m.toNat b).2.2 ≠ 0; rw [hbnd]; exact hbe))
       rw [this, hbnd]
       refine ⟨?_, rfl⟩
       show Blk.bx (.t (.st [.by b, .bool (decide ((bnd b m).2.2 ≠ 0))])) = _
       rw [decide_eq_true hbe]
   rw [hrd.1, hrd.2]
   have h6 := took_bad b (sz b).2.1 w he
   have hee : ((sz b).2.2 == 0) = false := by simpa using he
   generalize sz b = R at *
   repeat refine St (And.intro (And.intro @gentry.eq_1 <| @gentry.eq_2) <| And.intro h5 <| And.intro h6 <| hee) ct78a ?_
   exact AWP.ret (Fin trivial [] [0])
 have hee : ((sz b).2.2 == 0) = true := by rw [he]; rfl
 by_cases hbig : m < ((sz b).1 : Int)
 · have hbe : (bnd b m).2.2 ≠ 0 := by unfold bnd; rw [if_neg (by simp [he]), if_pos (.inr hbig)]; decide
   have hrd : rX (rd (tCnt m.toNat) 0 (sW b w)).2 = .bx (.t (.st [.by b, .bool true])) ∧ (rd (tCnt m.toNat) 0 (sW b w)).1 = 0 := by
     cases w with
     | true => exact ⟨rfl, rfl⟩
     | false =>
       have : rd (tCnt m.toNat) 0 (sW b false) = (0, ⟨b, (tCnt m.toNat b).2.2⟩) := (if_neg (by simp [sW])).trans (if_pos (by show (tCnt m.toNat b).2.2 ≠ 0; rw [hbnd]; exact hbe))
       rw [this, hbnd]
       refine ⟨?_, rfl⟩
       show Blk.bx (.t (.st [.by b, .bool (decide ((bnd b m).2.2 ≠ 0))])) = _
       rw [decide_eq_true hbe]
   rw [hrd.1, hrd.2]
   have h6 := took_bad b (sz b).2.1 w (e := 4) (by decide)
   rw [he] at h5
   generalize sz b = R at *
   repeat refine St (And.intro (And.intro @gentry.eq_1 <| @gentry.eq_2) <| And.intro h5 <| And.intro h6 <| And.intro hwm <| hbig) ct78a ?_
   exact AWP.ret (Fin trivial [] [0])
 · have hbe : bnd b m = ((sz b).1, (sz b).2.1, 0) := by unfold bnd; rw [if_neg (by simp [he]), if_neg (by rintro (h | h) <;> omega)]
   rw [he] at h5
   have hle : ((sz b).1 : Int) ≤ 1000 := by omega
   have hw2 : IntKind.i64.wrap ((sz b).1 : Int) = ((sz b).1 : Int) := wrap_i64 (by omega) (by omega)
   cases w with
   | true =>
     have hrd : rX (rd (tCnt m.toNat) 0 (sW b true)).2 = .bx (.t (.st [.by b, .bool true])) ∧ (rd (tCnt m.toNat) 0 (sW b true)).1 = 0 := ⟨rfl, rfl⟩
     rw [hrd.1, hrd.2]
     have h6 := took_was b (sz b).2.1 0
     generalize sz b = R at *
     repeat refine St (And.intro (And.intro @gentry.eq_1 <| @gentry.eq_2) <| And.intro h5 <| And.intro h6 <| And.intro hwm <| hbig) ct78a ?_
     exact AWP.ret (Fin trivial [] [0])
   | false =>
     have hrd : rd (tCnt m.toNat) 0 (sW b false) = ((sz b).1, ⟨(sz b).2.1, 0⟩) := (if_neg (by simp [sW])).trans ((if_neg (by show ¬ (tCnt m.toNat b).2.2 ≠ 0; rw [hbnd, hbe]; simp)).trans (by show ((tCnt m.toNat b).1, (⟨(tCnt m.toNat b).2.1, 0⟩ : RSt)) = _; rw [hbnd, hbe]))
     rw [hrd]
     have h6 := took_ok b (sz b).2.1
     have hres : rX ⟨(sz b).2.1, 0⟩ = .bx (.t (.st [.by (sz b).2.1, .bool false])) := rfl
     rw [hres]
     generalize sz b = R at *
     repeat refine St (And.intro (And.intro @gentry.eq_1 <| @gentry.eq_2) <| And.intro h5 <| And.intro h6 <| And.intro hwm <| And.intro hbig <| hw2) ct78a ?_
     exact AWP.ret (Fin trivial [] [0])
end Go.Fw

end

section
namespace Go.Fw
open Go Go.Proofs
theorem AWP.nsK {gl : GCalls} {keep : List Nat} {ds : List (Nat × List Info)} {kp N id d j : Nat} {l : List Oper} {o : Oper} {t t' e : TypeId} {sz : Nat} {b : List T} {Q : Exit → AS → Prop} {S S1 : AS} {F : Prop} (hF : F) (ct : CT gl keep ds)
   (hQ : ∀ r : Bool, (r = true → b = []) → Q .normal ⟨prune keep ((d, .t (.bool r)) :: S1.s), S1.H⟩)
   (hop : o.op = .binOp .eql t (.tmp j) (.const (.slice none 0 0)) t' := by rfl) (hd : o.dst = some d := by rfl) (hdN : d < N := by decide) (ht : (E t).ty = .sl e := by rfl)
   (h : F → gops E eqq gl N (l ++ [o]) l S = some S1 := by (intro hF; simp only [W, eqq, ↓reduceIte, Nat.reduceEqDiff, Nat.reduceLT, Nat.reduceLeDiff, Nat.reduceAdd, Nat.reduceMul, Nat.reduceSub, Nat.reduceBEq, Int.reduceLE, Int.reduceLT, Int.reduceNeg, Int.reduceToNat, Int.reduceEq, Int.reduceBEq, Int.reduceBNe, Nat.reduceBNe, bne_self_eq_false, reduceCtorEq, gt_iff_lt, ge_iff_le, hF]; with_reducible rfl)) (hw : wantA (l ++ [o]) S1.s o = some true := by rfl) (hsl : lk j S1.s = .t (.sq sz b) := by rfl) :
   AWP kp Try.prog N (.region id (l ++ [o]).toArray false) Q S := AWP.gnilS X_ok ct.cl keep hop hd hdN ht (h hF) hw hsl hQ
end Go.Fw

end

section
namespace Go.Fw
open Go Go.Proofs
noncomputable def G58a : GFun
 | [.bx (.st [.own 1]), .by l, .sq 69 xs], [.st [.clo f1 [.ptr 0 0 []], .clo f2 [.ptr 0 0 []], .clo f3 [.ptr 0 0 []], .clo f4 [.ptr 0 0 []], .clo f5 [.ptr 0 0 []], .clo f6 [.ptr 0 0 []], .clo f7 [.ptr 0 0 []], .clo f8 [.ptr 0 0 []]], .ptr 2 off [i]] => match inv eT (xs.getD i default) with
   | some e => if (f1 = 1000039 ∧ f2 = 1000040 ∧ f3 = 1000041 ∧ f7 = 1000045) ∧ i < xs.length ∧ off = i * 69 ∧ l.length ≤ 900000000 then some ([.bx (.st [.own 3]), .no, .sq 69 xs, .by (l ++ entB e)], .tup []) else none
   | none => none
 | [.bx (.t (.st [.by b, .bool w])), .sq 69 xs], [.st [.clo f1 [.ptr 0 0 []], .clo f2 [.ptr 0 0 []], .clo f3 [.ptr 0 0 []], .clo f4 [.ptr 0 0 []], .clo f5 [.ptr 0 0 []], .clo f6 [.ptr 0 0 []], .clo f7 [.ptr 0 0 []], .clo f8 [.ptr 0 0 []]], .ptr 1 off [i]] =>
   @ite _ (((f1 = 1000071 ∧ f2 = 1000072 ∧ f3 = 1000073 ∧ f7 = 1000077) ∧ i < xs.length ∧ off = i * 69 ∧ b.length ≤ 549755800000 ∧ xs.getD i default = eT dE)) (Classical.propDecidable _) ((some ([rX (rdE (sW b w)).2, .sq 69 (xs.set i (eT (rdE (sW b w)).1))], .tup []))) none
 | _, _ => none
theorem ct58a : CT [(39, ⟨[true, true], G39a⟩), (40, ⟨[true, true], G40a⟩), (41, ⟨[true, true], G41a⟩), (42, ⟨[true, true], G42a⟩), (43, ⟨[true, true], G43a⟩), (44, ⟨[true, true], G44a⟩), (45, ⟨[true, true], G45a⟩), (46, ⟨[true, false, false], G46a⟩), (71, ⟨[true, true], G71a⟩), (72, ⟨[true, true], G72a⟩), (73, ⟨[true, true], G73a⟩), (74, ⟨[true, true], G74a⟩), (75, ⟨[true, true], G75a⟩), (76, ⟨[true, true], G76a⟩), (77, ⟨[true, true], G77a⟩), (78, ⟨[true, false, false], G78a⟩)] [0, 1, 2] [(1, [⟨0, [2], [], []⟩, ⟨1, [4], [], []⟩, ⟨0, [1], [], []⟩, ⟨0, [6], [], []⟩, ⟨0, [7], [], []⟩, ⟨0, [8], [], []⟩, ⟨2, [5, 9], [1], []⟩]), (2, [⟨0, [2], [], []⟩, ⟨1, [11], [], []⟩, ⟨0, [1], [], []⟩, ⟨0, [13], [], []⟩, ⟨0, [14], [], []⟩, ⟨0, [15], [], []⟩, ⟨2, [12, 16], [1], []⟩]), (3, [⟨0, [2], [], []⟩, ⟨1, [18], [], []⟩, ⟨0, [1], [], []⟩, ⟨0, [20], [], []⟩, ⟨0, [21], [], []⟩, ⟨2, [19, 22], [1], []⟩]), (4, [⟨0, [2], [], []⟩, ⟨1, [24], [], []⟩, ⟨0, [1], [], []⟩, ⟨0, [26], [], []⟩, ⟨0, [27], [], []⟩, ⟨2, [25, 28], [1], []⟩]), (5, [⟨0, [2], [], []⟩, ⟨1, [30], [], []⟩, ⟨0, [1], [], []⟩, ⟨0, [32], [], []⟩, ⟨0, [33], [], []⟩, ⟨2, [31, 34], [1], []⟩]), (6, [⟨0, [2], [], []⟩, ⟨1, [36], [], []⟩, ⟨0, [1], [], []⟩, ⟨0, [38], [], []⟩, ⟨0, [39], [], []⟩, ⟨2, [37, 40], [1], []⟩]), (7, [⟨0, [2], [], []⟩, ⟨1, [42], [], []⟩, ⟨0, [1], [], []⟩, ⟨0, [44], [], []⟩, ⟨0, [45], [], []⟩, ⟨2, [43, 46], [1], []⟩])] := ⟨(.cons g39a (.cons g40a (.cons g41a (.cons g42a (.cons g43a (.cons g44a (.cons g45a (.cons g46a (.cons g71a (.cons g72a (.cons g73a (.cons g74a (.cons g75a (.cons g76a (.cons g77a (.cons g78a (.nil _)))))))))))))))))⟩
theorem sW_len {α : Type} {t : List UInt8 → α × List UInt8 × Int} {d : α} {s : RSt} (h : ∀ b, (t b).2.1.length ≤ b.length) {n : Nat} (hs : s.b.length ≤ n) : (rd t d s).2.b.length ≤ n := Nat.le_trans (rd_len h) hs
theorem rdNum_len {s : RSt} {n : Nat} (hs : s.b.length ≤ n) : (rdNum s).2.b.length ≤ n := by
 have := sW_len (d := 0) t32_len hs
 unfold rdNum
 dsimp only
 split
 · exact this
 · exact this
theorem rds {α : Type} {B : Blk} {p : List Nat} (t : List UInt8 → α × List UInt8 × Int) (d : α) (s : RSt) (new : α → T) (Bf : α → Blk) (h0 : Bf d = B) (hB : ∀ x, bset B p (new x) = some (Bf x)) :
   rRes s.b (decide (s.e ≠ 0)) (t s.b) B p new = some ([.bx (.t (.st [.by (rd t d s).2.b, .bool (decide ((rd t d s).2.e ≠ 0))])), Bf (rd t d s).1], .tup []) := rRes_rd t d s B p new Bf h0 hB
set_option maxRecDepth 20000 in
set_option maxHeartbeats 8000000 in
theorem g58a : GCon Try.prog 58 G58a := by
 refine gconc E_ok (rs := []) Try.func58 rfl Try.ntmps58 (by kernel_rfl) rfl (by decide) G58a (np := 2) ?_ ?_
 · intro HB xs h; unfold G58a; split <;> first | rfl | (simp at h; done)
 intro HB xs H r hG hwf hex
 unfold G58a at hG
 split at hG <;> try (cases hG; done)
 
 · rename_i l xs f1 f2 f3 f4 f5 f6 f7 f8 off i
   split at hG <;> try (cases hG; done)
   rename_i e he
   split at hG
   case isFalse => cases hG
   rename_i hc
   cases hG
   obtain ⟨⟨rfl, rfl, rfl, rfl⟩, hi, ho, hl⟩ := hc
   have hxe := inv_inv he
   rw [entS_self hi hxe]
   have hn1 := e.tx.2
   have hn2 := e.tpl.2
   have w1 := wname_a (l := l) (entS_tx (off := off) hi e (by omega)).1 ⟨hn1, by omega⟩
   have w2 := wshort_a (l := l ++ e.tx.1) (entS_idx (off := off + 32) hi e (by omega)).1 (by simp; omega)
   have w3 := wlong_a (l := l ++ e.tx.1 ++ le 4 (e.idx.toNat : Int)) (entS_val (off := off + 33) hi e (by omega)).1 (by simp [le_len]; omega)
   have w4 := wnumber_a (l := l ++ e.tx.1 ++ le 4 (e.idx.toNat : Int) ++ le 8 (e.val.toNat : Int)) (entS_plan (off := off + 34) hi e (by omega)).1 (by simp [le_len]; omega)
   have w5 := wnumber_a (l := l ++ e.tx.1 ++ le 4 (e.idx.toNat : Int) ++ le 8 (e.val.toNat : Int) ++ i4 e.plan) (entS_state (off := off + 35) hi e (by omega)).1 (by simp [le_len, i4_len]; omega)
   have w6 := wshort_a (l := l ++ e.tx.1 ++ le 4 (e.idx.toNat : Int) ++ le 8 (e.val.toNat : Int) ++ i4 e.plan ++ i4 e.state) (entS_hgt (off := off + 36) hi e (by omega)).1 (by simp [le_len, i4_len]; omega)
   have w7 := wname_a (l := l ++ e.tx.1 ++ le 4 (e.idx.toNat : Int) ++ le 8 (e.val.toNat : Int) ++ i4 e.plan ++ i4 e.state ++ le 4 (e.hgt.toNat : Int)) (entS_tpl (off := off + 37) hi e (by omega)).1 ⟨hn2, by simp [le_len, i4_len]; omega⟩
   simp only [wOld, wNew] at w1 w2 w3 w4 w5 w6 w7
   rw [entS_eq] at w1 w2 w3 w4 w5 w6 w7 ⊢
   generalize xs.set i (eT e) = ys at *
   repeat refine St (And.intro (And.intro @gentry.eq_1 <| @gentry.eq_2) <| And.intro w1 <| And.intro w2 <| And.intro w3 <| And.intro w4 <| And.intro w5 <| And.intro w6 <| And.intro w7 <| @Nat.add_zero) ct58a ?_
   exact Fin (And.intro @entB.eq_def <| @List.append_assoc.{0}) [] [0, 1, 2, 10]
 · rename_i b w xs f1 f2 f3 f4 f5 f6 f7 f8 off i
   split at hG
   case isFalse => cases hG
   rename_i hc
   cases hG
   obtain ⟨⟨rfl, rfl, rfl, rfl⟩, hi, ho, hb, hz⟩ := hc
   rw [entS_self hi hz]
   have e0 : Blk.bx (.t (.st [.by b, .bool w])) = .bx (.t (.st [.by (sW b w).b, .bool (decide ((sW b w).e ≠ 0))])) := by cases w <;> rfl
   rw [e0]
   have hs : (sW b w).b.length ≤ 549755800000 := hb
   unfold rdE
   dsimp only
   generalize sW b w = s at *
   have q1 := entS_tx (off := off) hi dE (by omega)
   have r1 := rname_a (w := decide (s.e ≠ 0)) hs q1.1
   rw [rds (B := entS xs i dE) tH zH s _ (fun m => entS xs i { dE with tx := m }) rfl q1.2] at r1
   have l1 := sW_len (d := zH) tH_len hs
   generalize rd tH zH s = R1 at *
   obtain ⟨v1, s1⟩ := R1
   dsimp only at r1 l1 ⊢
   have q2 := entS_idx (off := off + 32) hi { dE with tx := v1 } (by omega)
   have r2 := rshort_a (w := decide (s1.e ≠ 0)) l1 q2.1
   rw [rds (B := entS xs i { dE with tx := v1 }) t32 0 s1 _ (fun m => entS xs i { dE with tx := v1, idx := m }) rfl q2.2] at r2
   have l2 := sW_len (d := 0) t32_len l1
   generalize rd t32 0 s1 = R2 at *
   obtain ⟨v2, s2⟩ := R2
   dsimp only at r2 l2 ⊢
   have q3 := entS_val (off := off + 33) hi { dE with tx := v1, idx := v2 } (by omega)
   have r3 := rlong_a (w := decide (s2.e ≠ 0)) l2 q3.1
   rw [rds (B := entS xs i { dE with tx := v1, idx := v2 }) t64 0 s2 _ (fun m => entS xs i { dE with tx := v1, idx := v2, val := m }) rfl q3.2] at r3
   have l3 := sW_len (d := 0) t64_len l2
   generalize rd t64 0 s2 = R3 at *
   obtain ⟨v3, s3⟩ := R3
   dsimp only at r3 l3 ⊢
   have q4 := entS_plan (off := off + 34) hi { dE with tx := v1, idx := v2, val := v3 } (by omega)
   have r4 := rnumber_a (w := decide (s3.e ≠ 0)) l3 q4.1
   rw [q4.2, (rdNum_sW s3).1, (rdNum_sW s3).2] at r4
   have l4 := rdNum_len l3
   generalize rdNum s3 = R4 at *
   obtain ⟨v4, s4⟩ := R4
   dsimp only at r4 l4 ⊢
   have q5 := entS_state (off := off + 35) hi { dE with tx := v1, idx := v2, val := v3, plan := v4 } (by omega)
   have r5 := rnumber_a (w := decide (s4.e ≠ 0)) l4 q5.1
   rw [q5.2, (rdNum_sW s4).1, (rdNum_sW s4).2] at r5
   have l5 := rdNum_len l4
   generalize rdNum s4 = R5 at *
   obtain ⟨v5, s5⟩ := R5
   dsimp only at r5 l5 ⊢
   have q6 := entS_hgt (off := off + 36) hi { dE with tx := v1, idx := v2, val := v3, plan := v4, state := v5 } (by omega)
   have r6 := rshort_a (w := decide (s5.e ≠ 0)) l5 q6.1
   rw [rds (B := entS xs i { dE with tx := v1, idx := v2, val := v3, plan := v4, state := v5 }) t32 0 s5 _ (fun m => entS xs i { dE with tx := v1, idx := v2, val := v3, plan := v4, state := v5, hgt := m }) rfl q6.2] at r6
   have l6 := sW_len (d := 0) t32_len l5
   generalize rd t32 0 s5 = R6 at *
   obtain ⟨v6, s6⟩ := R6
   dsimp only at r6 l6 ⊢
   have q7 := entS_tpl (off := off + 37) hi { dE with tx := v1, idx := v2, val := v3, plan := v4, state := v5, hgt := v6 } (by omega)
   have r7 := rname_a (w := decide (s6.e ≠ 0)) l6 q7.1
   rw [rds (B := entS xs i { dE with tx := v1, idx := v2, val := v3, plan := v4, state := v5, hgt := v6 }) tH zH s6 _ (fun m => entS xs i { dE with tx := v1, idx := v2, val := v3, plan := v4, state := v5, hgt := v6, tpl := m }) rfl q7.2] at r7
   generalize rd tH zH s6 = R7 at *
   obtain ⟨v7, s7⟩ := R7
   dsimp only at r7 ⊢
   rw [rX_st] at r4 r5 ⊢
   rw [← entS_eq]
   clear q1 q2 q3 q4 q5 q6 q7
   simp only [entS_eq] at r1 r2 r3 r4 r5 r6 r7 ⊢
   repeat refine St (And.intro (And.intro @gentry.eq_1 <| @gentry.eq_2) <| And.intro r1 <| And.intro r2 <| And.intro r3 <| And.intro r4 <| And.intro r5 <| And.intro r6 <| And.intro r7 <| @Nat.add_zero) ct58a ?_
   exact Fin trivial [] [0, 1]
def F57o : Fun
 | [.sq 69 xs] => if xs.length ≤ 1000000 then some ([.sq 69 xs], .own 0) else none
 | _ => none
theorem ct57o : CT [] [0, 2, 4] [] := ⟨GClOk.nil _⟩
theorem c57o : ACon Try.prog 57 F57o := by
 refine aconc E_ok (rs := [.tmp 2 43]) Try.func57 rfl Try.ntmps57 (by kernel_rfl) rfl (by decide) F57o (np := 1) ?_ ?_
 · intro ts h; unfold F57o; split <;> first | rfl | (simp at h; done)
 intro ts H r hF hwf
 unfold F57o at hF
 split at hF <;> try (cases hF; done)
 
 rename_i xs
 split at hF
 case isFalse => cases hF
 rename_i hc
 have hb := hc
 cases hF
 iterate 3 (refine St trivial ct57o ?_)
 refine AWP.seq ?_
 refine AWP.nsK (l := [_]) trivial ct57o (fun r hr => ?_)
 show AWP _ _ _ _ _ _
 cases r
 · repeat refine St trivial ct57o ?_
   exact AWP.ret (Fin trivial [] [1])
 · obtain rfl := hr rfl
   repeat refine St trivial ct57o ?_
   refine AWP.weak (Wo 2 (.sq 69 [])) ?_
   repeat refine St trivial ct57o ?_
   exact AWP.ret (Fin trivial [] [0])
def F59o : Fun
 | [.sq 32 xs] => if xs.length ≤ 1000000 then some ([.sq 32 xs], .own 0) else none
 | _ => none
theorem ct59o : CT [] [0, 2, 4] [] := ⟨GClOk.nil _⟩
theorem c59o : ACon Try.prog 59 F59o := by
 refine aconc E_ok (rs := [.tmp 2 45]) Try.func59 rfl Try.ntmps59 (by kernel_rfl) rfl (by decide) F59o (np := 1) ?_ ?_
 · intro ts h; unfold F59o; split <;> first | rfl | (simp at h; done)
 intro ts H r hF hwf
 unfold F59o at hF
 split at hF <;> try (cases hF; done)
 
 rename_i xs
 split at hF
 case isFalse => cases hF
 rename_i hc
 have hb := hc
 cases hF
 iterate 3 (refine St trivial ct59o ?_)
 refine AWP.seq ?_
 refine AWP.nsK (l := [_]) trivial ct59o (fun r hr => ?_)
 show AWP _ _ _ _ _ _
 cases r
 · repeat refine St trivial ct59o ?_
   exact AWP.ret (Fin trivial [] [1])
 · obtain rfl := hr rfl
   repeat refine St trivial ct59o ?_
   refine AWP.weak (Wo 2 (.sq 32 [])) ?_
   repeat refine St trivial ct59o ?_
   exact AWP.ret (Fin trivial [] [0])
end Go.Fw

end
